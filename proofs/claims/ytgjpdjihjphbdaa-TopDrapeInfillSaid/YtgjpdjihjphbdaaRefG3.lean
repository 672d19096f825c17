/- The reference of groups computes what the program computes. -/
import Derived.Test.YtgjpdjihjphbdaaRefA
namespace Go.Proofs.Ytgjpdjihjphbdaa
open Go.RowKit

theorem grpCost_sub (fixed lead : Int) (xs : List (Int × Int)) (i m : Nat) (h : i + (m + 1) ≤ xs.length) : grpCost fixed lead ((xs.drop i).take (m + 1)) = fixed + 2 * lead + pHi xs (i + m) - pLo xs i := by
  have hl : ((xs.drop i).take (m + 1)).length = m + 1 := by rw [List.length_take, List.length_drop]; omega
  unfold grpCost pHi pLo
  rw [hl]
  simp only [List.getD_eq_getElem?_getD, Nat.add_sub_cancel]
  rw [List.getElem?_take_of_lt (by omega), List.getElem?_take_of_lt (by omega), List.getElem?_drop, List.getElem?_drop, Nat.add_zero]

def GroupsPostR (fixed lead : Int) (xs : List (Int × Int)) (w : World) (e : Ending) (w' : World) : Prop :=
  ∃ v, e = .returned (.tuple #[v, .int .i64 (gCost fixed lead xs)]) ∧ w'.ownsRow w.heap.size 3 1 v (gSizes fixed lead xs).length (enc1 (gSizes fixed lead xs)) ∧ Below w.heap.size w w'
theorem GroupsPostR.mk {fixed lead : Int} {xs : List (Int × Int)} {w wo wr wx : World} {v : Value} {c : Int} {acc : List Int} {e : Ending} (he : e = .returned (.tuple #[v, .int .i64 c])) (hc : c = gCost fixed lead xs) (ha : acc = gSizes fixed lead xs)
    (ho : wr.ownsRow wo.heap.size 3 1 v acc.length (enc1 acc)) (hx : Below wr.heap.size wr wx) (hb : Below w.heap.size w wo) (hbr : Below wo.heap.size wo wr) : GroupsPostR fixed lead xs w e wx := by
  subst he hc ha
  exact ⟨v, rfl, owns_base (owns_below ho hx) hb.size, (hb.trans (hbr.mono hb.size)).trans (hx.mono (Nat.le_trans hb.size hbr.size))⟩

theorem GSt.startR {w : World} {fixed lead : Int} {n : Nat} : GSt w fixed lead n (n + 1) (w.heap.size + 1) (w.heap.size + 2) (fun _ => 0) (fun _ => 0)
    (((w.alloc (.cells #[.int .i64 fixed, .int .i64 lead] 23)).alloc (.cells (madeCells #[.int .i64 0] (n + 1)) 3)).alloc (.cells (madeCells #[.int .i64 0] (n + 1)) 3)) := by
  refine ⟨by omega, by omega, by omega, ?_, ?_, ((((Below.refl _ w).alloc (Nat.le_refl _) _).alloc (by simp) _).alloc (by simp; omega) _), cell_alloc (cell_alloc (by simp) _) _, cell_alloc (cell_alloc (by simp) _) _⟩
  · have := World.rowIs_made (w.alloc (.cells #[.int .i64 fixed, .int .i64 lead] 23)) (.int .i64 0) (n + 1) 3
    simpa using this.alloc _
  · have := World.rowIs_made ((w.alloc (.cells #[.int .i64 fixed, .int .i64 lead] 23)).alloc (.cells (madeCells #[.int .i64 0] (n + 1)) 3)) (.int .i64 0) (n + 1) 3
    simpa using this

set_option maxRecDepth 100000 in
set_option maxHeartbeats 4000000 in
theorem rGroups_any (fixed lead : Int) (A : Option Addr) (n cap : Nat) (xs : List (Int × Int)) (w : World) (hx : xs.length ≤ 30) (hcap : n ≤ cap) (hr : Rd w 2 A n (enc2 xs))
    (hf : 0 ≤ fixed ∧ fixed ≤ 10000) (hl : 0 ≤ lead ∧ lead ≤ 10000) (hbd : ∀ p ∈ xs, 0 ≤ p.1 ∧ p.1 ≤ 200 ∧ 0 ≤ p.2 ∧ p.2 ≤ 200) :
    Calls Try.prog 20 #[.agg #[.int .i64 fixed, .int .i64 lead], .slice A n cap] w (GroupsPostR fixed lead xs w) := by
  obtain rfl := hr.len2
  have hmk1 := make_int (xs.length + 1) (by omega)
  have ec : ((xs.length + 1 : Nat) : Int) = (xs.length : Int) + 1 := by omega
  rw [ec] at hmk1
  clear ec
  go_enter Try.func20, Try.ntmps20
  have HST0 := Lib.hid (GSt.startR (w := w) (fixed := fixed) (lead := lead) (n := xs.length))
  have BLO := Lib.hid (show ∀ j, 0 ≤ pLo xs j ∧ pLo xs j ≤ 200 from fun j => by
    unfold pLo
    by_cases hj : j < xs.length
    · have := hbd xs[j] (List.getElem_mem hj); simp [hj]; omega
    · simp [hj])
  have BHI := Lib.hid (show ∀ j, 0 ≤ pHi xs j ∧ pHi xs j ≤ 200 from fun j => by
    unfold pHi
    by_cases hj : j < xs.length
    · have := hbd xs[j] (List.getElem_mem hj); simp [hj]; omega
    · simp [hj])
  have HBD := Lib.hid hbd
  clear hbd
  go_wp2
  go_loopw [8, 9, 10] (fun fr _ _ wr => ∃ r d, r + d = xs.length ∧ fr = .int .i64 ((r : Int) - 1) ∧ GSt w fixed lead xs.length (xs.length + 1) (w.heap.size + 1) (w.heap.size + 2) (tabC (fixed + 2 * lead) (pLo xs) (pHi xs) xs.length d) (tabS (fixed + 2 * lead) (pLo xs) (pHi xs) xs.length d) wr) (fun fr _ _ _ => (intOf fr + 1).toNat)
  case atStart => exact ⟨xs.length, 0, by omega, rfl, HST0.out⟩
  case round =>
    obtain ⟨r, d, hrd, rfl, hst⟩ := hrel
    have HST := Lib.hid hst
    clear hst HST0 hmk1
    rcases r with _ | i
    · obtain rfl : d = xs.length := by omega
      have e : ((0 : Nat) : Int) - 1 = -1 := rfl
      rw [e]
      clear hr e hrd
      obtain ⟨S, hS⟩ : ∃ S, S = tabS (fixed + 2 * lead) (pLo xs) (pHi xs) xs.length xs.length := ⟨_, rfl⟩
      have hsz : ∀ j, j < xs.length → 1 ≤ S j ∧ S j ≤ ((xs.length - j : Nat) : Int) := fun j hj => by rw [hS]; exact tabS_size (fixed + 2 * lead) (pLo xs) (pHi xs) xs.length xs.length (Nat.le_refl _) j (by omega) hj
      have HSZ := Lib.hid hsz
      rw [← hS] at HST
      have HSS := Lib.hid hS
      clear hsz hS
      obtain ⟨i0, hi0, hz0, hz1, hz2⟩ := info_parts Try.infoInt
      go_wp2
      obtain ⟨wo, rfl⟩ : ∃ wo : World, wo = wr := ⟨_, rfl⟩
      go_loopw [11, 12] (fun out fr wr => ∃ (i f : Nat) (acc : List Int), i ≤ xs.length ∧ fr = .int .i64 (i : Int) ∧ xs.length - i ≤ f ∧ acc ++ gOut S xs.length f i = gOut S xs.length xs.length 0 ∧ acc.length ≤ i ∧ wr.ownsRow wo.heap.size 3 1 out acc.length (enc1 acc) ∧ Below wo.heap.size wo wr) (fun _ fr _ => xs.length - (intOf fr).toNat)
      case atStart => exact ⟨0, xs.length, [], by omega, rfl, by omega, rfl, by simp, World.ownsRow_nil _ _ _ _, Below.refl _ _⟩
      case round =>
        obtain ⟨i, f, acc, hin, rfl, hf1, hacc, hal, hown, hbl⟩ := hrel
        have HA := Lib.hid hacc
        have HST2 := Lib.hid (HST.out.later hbl)
        clear hacc
        by_cases hlt : i < xs.length
        · have hcq := HST2.out.rq.cell (i := i) (by omega)
          obtain ⟨s1, s2⟩ := HSZ.out i hlt
          obtain ⟨s, hs⟩ : ∃ s, s = S i := ⟨_, rfl⟩
          rw [← hs] at hcq s1 s2
          have HSI := Lib.hid hs
          clear hs
          have hB := hbl.size
          go_wp2_with (at_builtin; refine wpList_append_own _ rfl _ _ 25 rfl wo.heap.size 3 i0 (.int .i64 0) 1 8 Try.underlying25 hi0 hz0 hz1 hz2 rfl (by decide) _ _ _ rfl (hown.alloc _) ⟨wr.heap.size, 0, none⟩ 1 1 [.int .i64 s] rfl rfl ?c1 ?c2 ?c3 ?c4 ?c5 ?_)
          case c1 => exact cell_one_new _ _ _
          case c2 => simp [Value.oneCell']
          case c3 => unfold maxLen; omega
          case c4 => omega
          case c5 => simp; omega
          intro v' w1 hown1 hgrow1 _
          have hb1 : Below wo.heap.size wr w1 := ((Below.refl _ wr).alloc hB _).grown hgrow1 (by simp; omega) (fun k hk => (hown.lt k hk).1)
          have hcq1 := (hb1.cell (p := ⟨w.heap.size + 2, i, none⟩) HST.out.rq.lt).trans hcq
          have HO := Lib.hid hown1
          have HB := Lib.hid (hbl.trans hb1)
          have hw : IntKind.i64.wrap ((i : Int) + s) = (i : Int) + s := IntWalk.i64_in _ (by omega)
          clear hown1 hgrow1 hb1 hcq hown hbl hi0 hz0 hz1 hz2
          go_wp2
          go_roundw
          case rel =>
            refine ⟨i + s.toNat, f - 1, acc ++ [s], by omega, ret_num (by omega), by omega, ?_, by simp; omega, by simpa [enc1] using HO.out, HB.out⟩
            have e := HA.out
            rw [show f = (f - 1) + 1 by omega, gOut_step _ _ _ _ hlt, ← HSI.out] at e
            simpa using e
          case measure => simp [intOf]; omega
        · obtain rfl : i = xs.length := by omega
          have hc0 := HST2.out.rp.cell (i := 0) (by omega)
          have hacc2 : acc = gOut S xs.length xs.length 0 := by rw [← HA.out, gOut_end _ _ _ _ (Nat.le_refl _), List.append_nil]
          have HACC := Lib.hid hacc2
          obtain ⟨cv, hcv⟩ : ∃ cv, cv = tabC (fixed + 2 * lead) (pLo xs) (pHi xs) xs.length xs.length 0 := ⟨_, rfl⟩
          rw [← hcv] at hc0
          have HCV := Lib.hid hcv
          clear hacc2 hcv hin hf1 hal hlt
          have hz := cell_lt hc0
          dsimp only at hz
          go_upto_region 17 with fail
          refine wp_region_calm (by kernel_rfl) (by kernel_rfl) ?_
          repeat (go_big_quiet_step (fail))
          refine wpQuiet_nil ?_
          intro wx hbx
          have HOW := Lib.hid hown
          have HBL := Lib.hid hbl
          clear hown hbl hi0 hz0 hz1 hz2
          go_wp2
          go_ret2
          exact GroupsPostR.mk rfl (by rw [HCV.out]; rfl) (by rw [HACC.out, HSS.out]; rfl) HOW.out hbx HST.out.below HBL.out
    · have e : ((i + 1 : Nat) : Int) - 1 = i := by omega
      rw [e]
      go_wp2
      obtain ⟨wo, rfl⟩ : ∃ wo : World, wo = wr := ⟨_, rfl⟩
      go_loopw [9, 10] (fun t _ wr => ∃ m, m ≤ d + 1 ∧ t = .int .i64 ((m : Int) + 1) ∧ GSt w fixed lead xs.length (xs.length + 1) (w.heap.size + 1) (w.heap.size + 2) (midF (tabC (fixed + 2 * lead) (pLo xs) (pHi xs) xs.length d) i m (gin (fixed + 2 * lead) (pLo xs) (pHi xs) (tabC (fixed + 2 * lead) (pLo xs) (pHi xs) xs.length d) i m).1) (midF (tabS (fixed + 2 * lead) (pLo xs) (pHi xs) xs.length d) i m (gin (fixed + 2 * lead) (pLo xs) (pHi xs) (tabC (fixed + 2 * lead) (pLo xs) (pHi xs) xs.length d) i m).2) wr) (fun t _ _ => xs.length + 1 - (intOf t).toNat)
      case atStart => exact ⟨0, by omega, rfl, HST.out.congr (fun j => by simp [midF]) (fun j => by simp [midF])⟩
      case round =>
        clear HST
        obtain ⟨m, hmd, rfl, hst⟩ := hrel
        have HN := Lib.hid hrd
        by_cases hlt : i + (m + 1) ≤ xs.length
        · have hil : i < xs.length := by omega
          have hrw := hr.below rfl hst.below
          obtain ⟨b, off, rfl, hbl, _, _⟩ := hrw.at2 i hil
          have hsub := Rd.sub2 hrw i (m + 1) hlt
          have hcp := hst.rp.cell (i := i + m + 1) (by omega)
          have hmt : midF (tabC (fixed + 2 * lead) (pLo xs) (pHi xs) xs.length d) i m (gin (fixed + 2 * lead) (pLo xs) (pHi xs) (tabC (fixed + 2 * lead) (pLo xs) (pHi xs) xs.length d) i m).1 (i + m + 1) = tabC (fixed + 2 * lead) (pLo xs) (pHi xs) xs.length d (i + m + 1) := by
            unfold midF; rw [if_neg (by omega)]
          rw [hmt] at hcp
          clear hmt hrd
          obtain ⟨cv, hcv⟩ : ∃ cv, cv = tabC (fixed + 2 * lead) (pLo xs) (pHi xs) xs.length d (i + m + 1) := ⟨_, rfl⟩
          rw [← hcv] at hcp
          have hd30 : d ≤ 30 := by have := HN.out; omega
          have b3 : -(d * 31000 : Int) ≤ cv ∧ cv ≤ d * 31000 := by rw [hcv]; exact tabC_bound _ _ _ xs.length d (by omega) BLO.out BHI.out (i + m + 1)
          obtain ⟨b31, b32⟩ := b3
          have b4 := BLO.out i
          have b5 := BHI.out (i + m)
          have hcost := Lib.hid (fun W (hW : Rd W 2 (some ⟨b, off + i * 2, none⟩) (m + 1) (enc2 ((xs.drop i).take (m + 1)))) => rCost_any fixed lead (some ⟨b, off + i * 2, none⟩) (m + 1) (cap - i) ((xs.drop i).take (m + 1)) W hf hl (fun p hp => HBD.out p (List.mem_of_mem_drop (List.mem_of_mem_take hp))) (by rw [List.length_take, List.length_drop]; omega) (by rw [List.length_take]; omega) hW)
          obtain ⟨g, hg⟩ : ∃ g, g = grpCost fixed lead ((xs.drop i).take (m + 1)) := ⟨_, rfl⟩
          rw [← hg] at hcost
          rw [grpCost_sub fixed lead xs i m hlt] at hg
          obtain ⟨f1, f2⟩ := hf
          obtain ⟨l1, l2⟩ := hl
          have g1 : -200 ≤ g ∧ g ≤ 31000 := by omega
          obtain ⟨g11, g12⟩ := g1
          have HG := Lib.hid hg
          have Hcv := Lib.hid hcv
          clear hg hcv b4 b5
          have hst0 := hst.c0
          have hst1 := hst.c1
          have z1 := cell_lt hst0
          have z2 := cell_lt hcp
          dsimp only at z1 z2
          have HS := Lib.hid hst
          have HSUB := Lib.hid hsub
          clear hst hsub hrw
          go_upto_region 9 with fail
          go_cut [10] (fun c wx => c = .int .i64 (g + cv) ∧ Below wr.heap.size wr wx)
          case first =>
            have w1 : IntKind.i64.wrap ((i : Int) + ((m : Int) + 1)) = (i : Int) + ((m : Int) + 1) := IntWalk.i64_in _ (by omega)
            have w2 : IntKind.i64.wrap (g + cv) = g + cv := IntWalk.i64_in _ (by omega)
            have w3 : ((i : Int) + ((m : Int) + 1)).toNat = i + m + 1 := by omega
            have w4 : ¬ cap = i := by omega
            have w5 : 0 ≤ (i : Int) + ((m : Int) + 1) := by omega
            have w6 : (i : Int) + ((m : Int) + 1) ≤ cap := by omega
            have w7 : i ≤ i + m + 1 := by omega
            have w8 : i + m + 1 - i = m + 1 := by omega
            refine wp_region_calm (by kernel_rfl) (by kernel_rfl) ?_
            repeat (go_big_quiet_step ((go_at_call 23; with_reducible exact After.call (hcost.out _ (HSUB.out.below rfl (After.below _))))))
            refine wpQuiet_nil ?_
            intro wx hbx
            go_wp2_with fail
            go_meet
            exact ⟨rfl, hbx⟩
          case rest =>
            obtain ⟨rfl, hbx⟩ := hcut
            have hstx := HS.out.later hbx
            clear hbx hcp hst0 hst1 z1 z2 HS HSUB hcost
            obtain ⟨c, hc⟩ : ∃ c, c = g + cv := ⟨_, rfl⟩
            rw [← hc]
            have HC := Lib.hid (show c = fixed + 2 * lead + pHi xs (i + m) - pLo xs i + tabC (fixed + 2 * lead) (pLo xs) (pHi xs) xs.length d (i + m + 1) by rw [hc, HG.out, Hcv.out])
            clear hc HG Hcv b31 b32 f1 f2 l1 l2 g11 g12
            have hfp := hstx.rp.frozen i
            have hfq := hstx.rq.frozen i
            have hcpi := hstx.rp.cell (i := i) (by omega)
            have hcqi := hstx.rq.cell (i := i) (by omega)
            have hpq := hstx.pq
            have HS := Lib.hid hstx
            clear hstx
            have hie : i = xs.length - 1 - d := by have := HN.out; omega
            by_cases hm0 : m = 0
            · subst hm0
              have e2 : midF (tabS (fixed + 2 * lead) (pLo xs) (pHi xs) xs.length d) i 0 (gin (fixed + 2 * lead) (pLo xs) (pHi xs) (tabC (fixed + 2 * lead) (pLo xs) (pHi xs) xs.length d) i 0).2 i = 0 := by
                unfold midF; rw [if_neg (by omega)]; exact tabS_zero _ _ _ _ _ (by have := HN.out; omega) _ (by have := HN.out; omega)
              rw [e2] at hcqi
              obtain ⟨v1, hv1⟩ : ∃ v, v = midF (tabC (fixed + 2 * lead) (pLo xs) (pHi xs) xs.length d) i 0 (gin (fixed + 2 * lead) (pLo xs) (pHi xs) (tabC (fixed + 2 * lead) (pLo xs) (pHi xs) xs.length d) i 0).1 i := ⟨_, rfl⟩
              rw [← hv1] at hcpi
              clear hv1 e2 hie
              go_wp2
              go_roundw
              case rel => exact ⟨1, by omega, rfl, HS.out.better rfl HC.out (.inl rfl) (by rfl)⟩
              case measure => simp [intOf]; omega
            · obtain ⟨gg, hgg⟩ : ∃ g, g = (gin (fixed + 2 * lead) (pLo xs) (pHi xs) (tabC (fixed + 2 * lead) (pLo xs) (pHi xs) xs.length d) i m).1 := ⟨_, rfl⟩
              have e1 : midF (tabC (fixed + 2 * lead) (pLo xs) (pHi xs) xs.length d) i m (gin (fixed + 2 * lead) (pLo xs) (pHi xs) (tabC (fixed + 2 * lead) (pLo xs) (pHi xs) xs.length d) i m).1 i = gg := by rw [hgg]; unfold midF; rw [if_pos ⟨rfl, by omega⟩]
              rw [e1] at hcpi
              obtain ⟨v2, hv2⟩ : ∃ v, v = (gin (fixed + 2 * lead) (pLo xs) (pHi xs) (tabC (fixed + 2 * lead) (pLo xs) (pHi xs) xs.length d) i m).2 := ⟨_, rfl⟩
              have e2 : midF (tabS (fixed + 2 * lead) (pLo xs) (pHi xs) xs.length d) i m (gin (fixed + 2 * lead) (pLo xs) (pHi xs) (tabC (fixed + 2 * lead) (pLo xs) (pHi xs) xs.length d) i m).2 i = v2 := by rw [hv2]; unfold midF; rw [if_pos ⟨rfl, by omega⟩]
              rw [e2] at hcqi
              have hv0 : (v2 == 0) = false := by
                have := gin_size (fixed + 2 * lead) (pLo xs) (pHi xs) (tabC (fixed + 2 * lead) (pLo xs) (pHi xs) xs.length d) i m (by omega)
                rw [beq_eq_false_iff_ne]; omega
              have HGG := Lib.hid hgg
              have HM := Lib.hid hm0
              clear e1 e2 hv2 hgg hm0 hie
              by_cases hcg : c < gg
              · have HCG := Lib.hid hcg
                go_wp2
                go_roundw
                case rel => exact ⟨m + 1, by have := HN.out; omega, by go_num, HS.out.better rfl HC.out (.inr (by rw [← HGG.out]; exact HCG.out)) (by omega)⟩
                case measure => simp [intOf]; omega
              · have HCG := Lib.hid hcg
                go_wp2
                go_roundw
                case rel => exact ⟨m + 1, by have := HN.out; omega, by go_num, HS.out.worse rfl HC.out (fun h => h.elim HM.out (fun h => HCG.out (by rw [HGG.out]; exact h)))⟩
                case measure => simp [intOf]; omega
        · have hmd1 : m = d + 1 := by omega
          have hd30 : d ≤ 30 := by omega
          have hil : i < xs.length := by omega
          have HS := Lib.hid (show GSt w fixed lead xs.length (xs.length + 1) (w.heap.size + 1) (w.heap.size + 2) _ _ wr from GSt.round hrd (by rw [hmd1] at hst; exact hst))
          clear hst hrd hmd1
          go_wp2
          go_roundw
          case rel => exact ⟨i, d + 1, by have := HN.out; omega, by go_num, HS.out⟩
          case measure => simp [intOf]

end Go.Proofs.Ytgjpdjihjphbdaa
