/- 'GroupsOf': the best groups of pieces. -/
import Derived.Test.YtgjpdjihjphbdaaPieces
import Derived.Test.YtgjpdjihjphbdaaGroups0
namespace Go.Proofs.Ytgjpdjihjphbdaa
open Go.RowKit

def groupsErr (fixed lead : Int) (xs : List (Int × Int)) : Int := firstE [unl (inB fixed 0 10000 && inB lead 0 10000) 2, piecesAll xs]

set_option maxRecDepth 100000 in
set_option maxHeartbeats 4000000 in
theorem GroupsOf_bad (fixed lead : Int) (A : Option Addr) (n cap : Nat) (xs : List (Int × Int)) (w : World) (hx : xs.length ≤ 9223372036854775807) (hr : Rd w 2 A n (enc2 xs)) (he : groupsErr fixed lead xs ≠ 0) :
    Calls Try.prog 16 #[.agg #[.int .i64 fixed, .int .i64 lead], .slice A n cap] w (Ret w (.tuple #[.slice none 0 0, .int .i64 0, .int .i64 (groupsErr fixed lead xs)])) := by
  have hp := Lib.hid (piecesErr_all A n cap xs)
  have HE : (groupsErr fixed lead xs != 0) = true := by simpa using he
  clear he
  have hr' := hr.below rfl (((Below.refl _ w).alloc (Nat.le_refl _) (.cells #[.int .i64 fixed, .int .i64 lead] 23)))
  clear hr
  have HG := Lib.hid (show groupsErr fixed lead xs = firstE [unl (inB fixed 0 10000 && inB lead 0 10000) 2, piecesAll xs] from rfl)
  go_enter Try.func16, Try.ntmps16
  go_upto_region 1 with fail
  go_cut [7] (fun e wx => e = .int .i64 (groupsErr fixed lead xs) ∧ Below w.heap.size w wx)
  case first =>
    cases h1 : inB fixed 0 10000
    all_goals
      go_wp2_with (first | (go_at_call 94; refine (isHeight_any _ _).mono ?_; rintro e w' ⟨rfl, rfl⟩) | (go_at_call 93; refine (unless_any _ _ _).mono ?_; rintro e w' ⟨rfl, rfl⟩) | (go_at_call 95; refine (hp.out _ hx hr').mono ?_; rintro e w1 ⟨rfl, hb1⟩) | (go_at_call 92; refine (first2_new _ _ _ _).mono ?_; rintro e w' ⟨rfl, rfl⟩))
      go_meet
      exact ⟨ret_num (by rw [HG.out, h1]; rfl), (((Below.refl _ w).alloc (Nat.le_refl _) _).trans (hb1.mono (by simp))).alloc (by have := hb1.size; simp at this; omega) _⟩
  case rest =>
    obtain ⟨rfl, hb⟩ := hcut
    go_wp2
    go_ret3
    exact ⟨rfl, hb⟩

/-- What 'GroupsOf' computes: the sum of the costs, and the sizes of the groups. -/
def pLo (xs : List (Int × Int)) : Nat → Int := fun j => (xs.getD j (0, 0)).1
def pHi (xs : List (Int × Int)) : Nat → Int := fun j => (xs.getD j (0, 0)).2
def gCost (fixed lead : Int) (xs : List (Int × Int)) : Int := tabC (fixed + 2 * lead) (pLo xs) (pHi xs) xs.length xs.length 0
def gSizes (fixed lead : Int) (xs : List (Int × Int)) : List Int := gOut (tabS (fixed + 2 * lead) (pLo xs) (pHi xs) xs.length xs.length) xs.length xs.length 0
def GroupsPost (fixed lead : Int) (xs : List (Int × Int)) (w : World) (e : Ending) (w' : World) : Prop :=
  ∃ v, e = .returned (.tuple #[v, .int .i64 (gCost fixed lead xs), .int .i64 0]) ∧ w'.ownsRow w.heap.size 3 1 v (gSizes fixed lead xs).length (enc1 (gSizes fixed lead xs)) ∧ Below w.heap.size w w'
theorem GroupsPost.mk {fixed lead : Int} {xs : List (Int × Int)} {w wo wr wx : World} {v : Value} {c E : Int} {acc : List Int} {e : Ending} (he : e = .returned (.tuple #[v, .int .i64 c, .int .i64 E])) (hE : E = 0) (hc : c = gCost fixed lead xs) (ha : acc = gSizes fixed lead xs)
    (ho : wr.ownsRow wo.heap.size 3 1 v acc.length (enc1 acc)) (hx : Below wr.heap.size wr wx) (hb : Below w.heap.size w wo) (hbr : Below wo.heap.size wo wr) : GroupsPost fixed lead xs w e wx := by
  subst he hE hc ha
  exact ⟨v, rfl, owns_base (owns_below ho hx) hb.size, (hb.trans (hbr.mono hb.size)).trans (hx.mono (Nat.le_trans hb.size hbr.size))⟩

/-- The two tables of 'GroupsOf', and what else is known in its loops. -/
structure GSt (w : World) (fixed lead : Int) (n mq p q : Nat) (F G : Nat → Int) (wr : World) : Prop where
  pq : p ≠ q
  hp : w.heap.size < p
  hq : w.heap.size < q
  rp : wr.rowIs p 3 (n + 1) (fun j => .int .i64 (F j))
  rq : wr.rowIs q 3 mq (fun j => .int .i64 (G j))
  below : Below w.heap.size w wr
  c0 : wr.cell? ⟨w.heap.size, 0, none⟩ = some (.int .i64 fixed)
  c1 : wr.cell? ⟨w.heap.size, 1, none⟩ = some (.int .i64 lead)

theorem GSt.start1 {w wc : World} {fixed lead : Int} {n : Nat} (hb : Below w.heap.size w wc) (hlt : w.heap.size < wc.heap.size) (hc0 : wc.cell? ⟨w.heap.size, 0, none⟩ = some (.int .i64 fixed)) (hc1 : wc.cell? ⟨w.heap.size, 1, none⟩ = some (.int .i64 lead)) :
    GSt w fixed lead n n wc.heap.size (wc.heap.size + 1) (fun _ => 0) (fun _ => 0) ((wc.alloc (.cells (madeCells #[.int .i64 0] (n + 1)) 3)).alloc (.cells (madeCells #[.int .i64 0] n) 3)).drew := by
  refine ⟨by omega, hlt, by omega, ((World.rowIs_made _ _ _ _).alloc _).drew, ?_, (((hb.alloc hb.size _).alloc (by simp; have := hb.size; omega) _)).drew, cell_alloc (cell_alloc hc0 _) _, cell_alloc (cell_alloc hc1 _) _⟩
  have := World.rowIs_made (wc.alloc (.cells (madeCells #[.int .i64 0] (n + 1)) 3)) (.int .i64 0) n 3
  simpa using this.drew
theorem GSt.start2 {w wc : World} {fixed lead : Int} {n : Nat} (hb : Below w.heap.size w wc) (hlt : w.heap.size < wc.heap.size) (hc0 : wc.cell? ⟨w.heap.size, 0, none⟩ = some (.int .i64 fixed)) (hc1 : wc.cell? ⟨w.heap.size, 1, none⟩ = some (.int .i64 lead)) :
    GSt w fixed lead n n (wc.heap.size + 1) wc.heap.size (fun _ => 0) (fun _ => 0) ((wc.alloc (.cells (madeCells #[.int .i64 0] n) 3)).alloc (.cells (madeCells #[.int .i64 0] (n + 1)) 3)).drew := by
  refine ⟨by omega, by omega, hlt, ?_, ((World.rowIs_made _ _ _ _).alloc _).drew, (((hb.alloc hb.size _).alloc (by simp; have := hb.size; omega) _)).drew, cell_alloc (cell_alloc hc0 _) _, cell_alloc (cell_alloc hc1 _) _⟩
  have := World.rowIs_made (wc.alloc (.cells (madeCells #[.int .i64 0] n) 3)) (.int .i64 0) (n + 1) 3
  simpa using this.drew
theorem GSt.store {w wr : World} {fixed lead : Int} {n mq p q : Nat} {F G : Nat → Int} (h : GSt w fixed lead n mq p q F G wr) (i : Nat) (c s : Int) :
    GSt w fixed lead n mq p q (fun j => if j = i then c else F j) (fun j => if j = i then s else G j) ((wr.setCell ⟨p, i, none⟩ (.int .i64 c)).setCell ⟨q, i, none⟩ (.int .i64 s)) := by
  have h1 := h.hp
  have h2 := h.hq
  refine ⟨h.pq, h.hp, h.hq, ?_, ?_, (h.below.setCell (p := ⟨p, i, none⟩) (by simp; omega) _).setCell (p := ⟨q, i, none⟩) (by simp; omega) _, cell_set (cell_set h.c0 _ (fun e => by cases e; omega)) _ (fun e => by cases e; omega), cell_set (cell_set h.c1 _ (fun e => by cases e; omega)) _ (fun e => by cases e; omega)⟩
  · exact ((h.rp.set i _).setOther (a := ⟨q, i, none⟩) h.pq _).congr fun j _ => by split <;> rfl
  · exact ((h.rq.setOther (a := ⟨p, i, none⟩) (fun e => h.pq e.symm) _).set i _).congr fun j _ => by split <;> rfl

theorem GSt.later {w wr w3 : World} {fixed lead : Int} {n mq p q : Nat} {F G : Nat → Int} (h : GSt w fixed lead n mq p q F G wr) (hb : Below wr.heap.size wr w3) : GSt w fixed lead n mq p q F G w3 :=
  ⟨h.pq, h.hp, h.hq, rowIs_below h.rp hb, rowIs_below h.rq hb, h.below.trans (hb.mono h.below.size), cell_below h.c0 hb, cell_below h.c1 hb⟩
theorem GSt.congr {w wr : World} {fixed lead : Int} {n mq p q : Nat} {F G F' G' : Nat → Int} (h : GSt w fixed lead n mq p q F G wr) (h1 : ∀ j, F j = F' j) (h2 : ∀ j, G j = G' j) : GSt w fixed lead n mq p q F' G' wr := by
  have e1 : F = F' := funext h1
  have e2 : G = G' := funext h2
  rw [← e1, ← e2]; exact h

/-- A table in the inner loop: at i what m steps have found. -/
def midF (F : Nat → Int) (i m : Nat) (v : Int) : Nat → Int := fun j => if j = i ∧ 0 < m then v else F j

theorem GSt.better {w wr : World} {fixed lead : Int} {n mq p q i m t : Nat} {F G C : Nat → Int} {K : Int} {lo hi : Nat → Int} {v1 v2 c s : Int} (h : GSt w fixed lead n mq p q (midF F i m v1) (midF G i m v2) wr)
    (ht : t = i + m) (hc : c = K + hi t - lo i + C (t + 1)) (hb : m = 0 ∨ c < (gin K lo hi C i m).1) (hs : s = (m : Int) + 1) :
    GSt w fixed lead n mq p q (midF F i (m + 1) (gin K lo hi C i (m + 1)).1) (midF G i (m + 1) (gin K lo hi C i (m + 1)).2) ((wr.setCell ⟨p, i, none⟩ (.int .i64 c)).setCell ⟨q, i, none⟩ (.int .i64 s)) := by
  subst ht
  have e : gin K lo hi C i (m + 1) = (c, (m : Int) + 1) := by
    unfold gin
    rw [← hc, if_pos hb]
  refine (h.store i c s).congr (fun j => ?_) (fun j => ?_)
  · rw [e]; unfold midF; by_cases hj : j = i <;> simp [hj]
  · rw [e, hs]; unfold midF; by_cases hj : j = i <;> simp [hj]
theorem GSt.worse {w wr : World} {fixed lead : Int} {n mq p q i m t : Nat} {F G C : Nat → Int} {K : Int} {lo hi : Nat → Int} {c : Int}
    (h : GSt w fixed lead n mq p q (midF F i m (gin K lo hi C i m).1) (midF G i m (gin K lo hi C i m).2) wr)
    (ht : t = i + m) (hc : c = K + hi t - lo i + C (t + 1)) (hb : ¬ (m = 0 ∨ c < (gin K lo hi C i m).1)) :
    GSt w fixed lead n mq p q (midF F i (m + 1) (gin K lo hi C i (m + 1)).1) (midF G i (m + 1) (gin K lo hi C i (m + 1)).2) wr := by
  subst ht
  have e : gin K lo hi C i (m + 1) = gin K lo hi C i m := by
    rw [gin, ← hc, if_neg hb]
  have hm : 0 < m := by omega
  refine h.congr (fun j => ?_) (fun j => ?_)
  · rw [e]; unfold midF; by_cases hj : j = i <;> simp [hj, hm]
  · rw [e]; unfold midF; by_cases hj : j = i <;> simp [hj, hm]
theorem GSt.round {w wr : World} {fixed lead : Int} {n mq p q i d : Nat} {K : Int} {lo hi : Nat → Int} (hi' : i + 1 + d = n)
    (h : GSt w fixed lead n mq p q (midF (tabC K lo hi n d) i (d + 1) (gin K lo hi (tabC K lo hi n d) i (d + 1)).1) (midF (tabS K lo hi n d) i (d + 1) (gin K lo hi (tabC K lo hi n d) i (d + 1)).2) wr) :
    GSt w fixed lead n mq p q (tabC K lo hi n (d + 1)) (tabS K lo hi n (d + 1)) wr := by
  have e : n - 1 - d = i := by omega
  refine h.congr (fun j => ?_) (fun j => ?_)
  · rw [tabC_succ, e]; unfold midF; by_cases hj : j = i <;> simp [hj]
  · rw [tabS_succ, e]; unfold midF; by_cases hj : j = i <;> simp [hj]

set_option maxRecDepth 100000 in
set_option maxHeartbeats 4000000 in
theorem GroupsOf_ok (fixed lead : Int) (A : Option Addr) (n cap : Nat) (xs : List (Int × Int)) (w : World) (hx : xs.length ≤ 30) (hr : Rd w 2 A n (enc2 xs)) (he : groupsErr fixed lead xs = 0)
    (hf : 0 ≤ fixed ∧ fixed ≤ 10000) (hl : 0 ≤ lead ∧ lead ≤ 10000) (hbd : ∀ p ∈ xs, 0 ≤ p.1 ∧ p.1 ≤ 200 ∧ 0 ≤ p.2 ∧ p.2 ≤ 200) :
    Calls Try.prog 16 #[.agg #[.int .i64 fixed, .int .i64 lead], .slice A n cap] w (GroupsPost fixed lead xs w) := by
  have hp := Lib.hid (piecesErr_all A n cap xs)
  have HE : (groupsErr fixed lead xs != 0) = false := by simp [he]
  have hr' := hr.below rfl (((Below.refl _ w).alloc (Nat.le_refl _) (.cells #[.int .i64 fixed, .int .i64 lead] 23)))
  have HG := Lib.hid (show groupsErr fixed lead xs = firstE [unl (inB fixed 0 10000 && inB lead 0 10000) 2, piecesAll xs] from rfl)
  obtain rfl := hr.len2
  clear he
  go_enter Try.func16, Try.ntmps16
  go_upto_region 1 with fail
  go_cut [7] (fun e wx => e = .int .i64 (groupsErr fixed lead xs) ∧ Below w.heap.size w wx ∧ wx.cell? ⟨w.heap.size, 0, none⟩ = some (.int .i64 fixed) ∧ wx.cell? ⟨w.heap.size, 1, none⟩ = some (.int .i64 lead))
  case first =>
    have h1 : inB fixed 0 10000 = true := inB_iff.2 hf
    go_wp2_with (first | (go_at_call 94; refine (isHeight_any _ _).mono ?_; rintro e w' ⟨rfl, rfl⟩) | (go_at_call 93; refine (unless_any _ _ _).mono ?_; rintro e w' ⟨rfl, rfl⟩) | (go_at_call 95; refine (hp.out _ (by omega) hr').mono ?_; rintro e w1 ⟨rfl, hb1⟩) | (go_at_call 92; refine (first2_new _ _ _ _).mono ?_; rintro e w' ⟨rfl, rfl⟩))
    go_meet
    exact ⟨ret_num (by rw [HG.out, h1]; rfl), (((Below.refl _ w).alloc (Nat.le_refl _) _).trans (hb1.mono (by simp))).alloc (by have := hb1.size; simp at this; omega) _, cell_alloc (cell_below (by simp) hb1) _, cell_alloc (cell_below (by simp) hb1) _⟩
  case rest =>
    obtain ⟨rfl, hb, hc0, hc1⟩ := hcut
    clear hp hr' HG
    go_upto_region 5 with fail
    have hmk0 := make_int xs.length (by omega)
    have hmk1 := make_int (xs.length + 1) (by omega)
    have ec : ((xs.length + 1 : Nat) : Int) = (xs.length : Int) + 1 := by omega
    rw [ec] at hmk1
    clear ec
    go_cut [9, 10] (fun a b wx => ∃ p q, a = .slice (some ⟨p, 0, none⟩) (xs.length + 1) (xs.length + 1) ∧ b = .slice (some ⟨q, 0, none⟩) xs.length xs.length ∧ GSt w fixed lead xs.length xs.length p q (fun _ => 0) (fun _ => 0) wx)
    case first =>
      have hsz := hb.size
      go_region
      all_goals (go_wp2_with fail; go_meet)
      · exact ⟨_, _, rfl, rfl, GSt.start1 hb (cell_lt hc0) hc0 hc1⟩
      · exact ⟨_, _, rfl, rfl, GSt.start2 hb (cell_lt hc0) hc0 hc1⟩
    case rest =>
      clear hmk0 hmk1 hc0 hc1 hb HE
      obtain ⟨p, q, rfl, rfl, hst⟩ := hcut
      obtain ⟨K, hK⟩ : ∃ K, K = fixed + 2 * lead := ⟨_, rfl⟩
      obtain ⟨lo, hlo⟩ : ∃ lo : Nat → Int, lo = pLo xs := ⟨_, rfl⟩
      obtain ⟨hi, hhi⟩ : ∃ hi : Nat → Int, hi = pHi xs := ⟨_, rfl⟩
      have BLO := Lib.hid (show ∀ j, 0 ≤ lo j ∧ lo j ≤ 200 from fun j => by
        rw [hlo]; unfold pLo
        by_cases hj : j < xs.length
        · have := hbd xs[j] (List.getElem_mem hj); simp [hj]; omega
        · simp [hj])
      have BHI := Lib.hid (show ∀ j, 0 ≤ hi j ∧ hi j ≤ 200 from fun j => by
        rw [hhi]; unfold pHi
        by_cases hj : j < xs.length
        · have := hbd xs[j] (List.getElem_mem hj); simp [hj]; omega
        · simp [hj])
      clear hbd
      have HK := Lib.hid hK
      have HLO := Lib.hid hlo
      have HHI := Lib.hid hhi
      clear hK hlo hhi
      have HST := Lib.hid hst
      clear hst
      go_wp2
      go_loopw [11, 12, 13] (fun fr _ _ wr => ∃ r d, r + d = xs.length ∧ fr = .int .i64 ((r : Int) - 1) ∧ GSt w fixed lead xs.length xs.length p q (tabC K lo hi xs.length d) (tabS K lo hi xs.length d) wr) (fun fr _ _ _ => (intOf fr + 1).toNat)
      case atStart => exact ⟨xs.length, 0, by omega, rfl, HST.out⟩
      case round =>
        obtain ⟨r, d, hrd, rfl, hst⟩ := hrel
        have HST := Lib.hid hst
        clear hst
        rcases r with _ | i
        · obtain rfl : d = xs.length := by omega
          have e : ((0 : Nat) : Int) - 1 = -1 := rfl
          rw [e]
          clear hr e hrd
          obtain ⟨S, hS⟩ : ∃ S, S = tabS K lo hi xs.length xs.length := ⟨_, rfl⟩
          have hsz : ∀ j, j < xs.length → 1 ≤ S j ∧ S j ≤ ((xs.length - j : Nat) : Int) := fun j hj => by rw [hS]; exact tabS_size K lo hi xs.length xs.length (Nat.le_refl _) j (by omega) hj
          have HSZ := Lib.hid hsz
          rw [← hS] at HST
          have HSS := Lib.hid hS
          clear hsz hS
          obtain ⟨i0, hi0, hz0, hz1, hz2⟩ := info_parts Try.infoInt
          go_wp2
          obtain ⟨wo, rfl⟩ : ∃ wo : World, wo = wr := ⟨_, rfl⟩
          go_loopw [14, 15] (fun out fr wr => ∃ (i f : Nat) (acc : List Int), i ≤ xs.length ∧ fr = .int .i64 (i : Int) ∧ xs.length - i ≤ f ∧ acc ++ gOut S xs.length f i = gOut S xs.length xs.length 0 ∧ acc.length ≤ i ∧ wr.ownsRow wo.heap.size 3 1 out acc.length (enc1 acc) ∧ Below wo.heap.size wo wr) (fun _ fr _ => xs.length - (intOf fr).toNat)
          case atStart => exact ⟨0, xs.length, [], by omega, rfl, by omega, rfl, by simp, World.ownsRow_nil _ _ _ _, Below.refl _ _⟩
          case round =>
            obtain ⟨i, f, acc, hin, rfl, hf1, hacc, hal, hown, hbl⟩ := hrel
            have HA := Lib.hid hacc
            have HST2 := Lib.hid (HST.out.later hbl)
            clear hacc
            by_cases hlt : i < xs.length
            · have hcq := HST2.out.rq.cell (i := i) hlt
              obtain ⟨s1, s2⟩ := HSZ.out i hlt
              obtain ⟨s, hs⟩ : ∃ s, s = S i := ⟨_, rfl⟩
              rw [← hs] at hcq s1 s2
              have HSI := Lib.hid hs
              clear hs
              have hB := hbl.size
              go_wp2_with (at_builtin; refine wpList_append_own _ rfl _ _ 25 rfl wo.heap.size 3 i0 (.int .i64 0) 1 8 Try.underlying25 hi0 hz0 hz1 hz2 rfl (by decide) _ _ _ rfl (hown.alloc _) ⟨wr.heap.size, 0, none⟩ 1 1 [.int .i64 s] rfl rfl ?c1 ?c2 ?c3 ?c4 ?c5 ?_)
              case c1 => exact cell_one_new _ _ _
              case c2 => simp [Value.oneCell']
              case c3 => unfold maxLen; omega
              case c4 => omega
              case c5 => simp; omega
              intro v' w1 hown1 hgrow1 _
              have hb1 : Below wo.heap.size wr w1 := ((Below.refl _ wr).alloc hB _).grown hgrow1 (by simp; omega) (fun k hk => (hown.lt k hk).1)
              have hcq1 := (hb1.cell (p := ⟨q, i, none⟩) HST.out.rq.lt).trans hcq
              have HO := Lib.hid hown1
              have HB := Lib.hid (hbl.trans hb1)
              have hw : IntKind.i64.wrap ((i : Int) + s) = (i : Int) + s := IntWalk.i64_in _ (by omega)
              clear hown1 hgrow1 hb1 hcq hown hbl hi0 hz0 hz1 hz2
              go_wp2
              go_roundw
              case rel =>
                refine ⟨i + s.toNat, f - 1, acc ++ [s], by omega, ret_num (by omega), by omega, ?_, by simp; omega, by simpa [enc1] using HO.out, HB.out⟩
                have e := HA.out
                rw [show f = (f - 1) + 1 by omega, gOut_step _ _ _ _ hlt, ← HSI.out] at e
                simpa using e
              case measure => simp [intOf]; omega
            · obtain rfl : i = xs.length := by omega
              have hc0 := HST2.out.rp.cell (i := 0) (by omega)
              have hacc2 : acc = gOut S xs.length xs.length 0 := by rw [← HA.out, gOut_end _ _ _ _ (Nat.le_refl _), List.append_nil]
              have HACC := Lib.hid hacc2
              obtain ⟨cv, hcv⟩ : ∃ cv, cv = tabC K lo hi xs.length xs.length 0 := ⟨_, rfl⟩
              rw [← hcv] at hc0
              have HCV := Lib.hid hcv
              clear hacc2 hcv hin hf1 hal hlt
              have hz := cell_lt hc0
              dsimp only at hz
              go_upto_region 20 with fail
              refine wp_region_calm (by kernel_rfl) (by kernel_rfl) ?_
              repeat (go_big_quiet_step (fail))
              refine wpQuiet_nil ?_
              intro wx hbx
              have HOW := Lib.hid hown
              have HBL := Lib.hid hbl
              clear hown hbl hi0 hz0 hz1 hz2
              go_wp2
              go_ret3
              exact GroupsPost.mk rfl rfl (by rw [HCV.out, HK.out, HLO.out, HHI.out]; rfl) (by rw [HACC.out, HSS.out, HK.out, HLO.out, HHI.out]; rfl) HOW.out hbx HST.out.below HBL.out
        · have e : ((i + 1 : Nat) : Int) - 1 = i := by omega
          rw [e]
          go_wp2
          obtain ⟨wo, rfl⟩ : ∃ wo : World, wo = wr := ⟨_, rfl⟩
          go_loopw [12, 13] (fun t _ wr => ∃ m tt, tt = i + m ∧ m ≤ d + 1 ∧ t = .int .i64 (tt : Int) ∧ GSt w fixed lead xs.length xs.length p q (midF (tabC K lo hi xs.length d) i m (gin K lo hi (tabC K lo hi xs.length d) i m).1) (midF (tabS K lo hi xs.length d) i m (gin K lo hi (tabC K lo hi xs.length d) i m).2) wr) (fun t _ _ => xs.length - (intOf t).toNat)
          case atStart => exact ⟨0, i, by omega, by omega, rfl, HST.out.congr (fun j => by simp [midF]) (fun j => by simp [midF])⟩
          case round =>
            clear HST
            obtain ⟨m, t, htm, hmd, rfl, hst⟩ := hrel
            have HT := Lib.hid htm
            have HN := Lib.hid hrd
            by_cases hlt : t < xs.length
            · have hti : i ≤ t := by omega
              have hil : i < xs.length := by omega
              clear htm hrd
              obtain ⟨b, off, rfl, hbl, _, hc2⟩ := (hr.below rfl hst.below).at2 t hlt
              obtain ⟨b', off', e', _, hc1, _⟩ := (hr.below rfl hst.below).at2 i hil
              cases e'
              have HHv := Lib.hid (show xs[t].2 = hi t by rw [HHI.out]; simp [pHi, hlt])
              have HLv := Lib.hid (show xs[i].1 = lo i by rw [HLO.out]; simp [pLo, hil])
              rw [HHv.out] at hc2
              rw [HLv.out] at hc1
              have hcp := hst.rp.cell (i := t + 1) (by omega)
              have hmt : midF (tabC K lo hi xs.length d) i m (gin K lo hi (tabC K lo hi xs.length d) i m).1 (t + 1) = tabC K lo hi xs.length d (t + 1) := by
                unfold midF; rw [if_neg (by omega)]
              rw [hmt] at hcp
              clear hmt
              obtain ⟨hv, hhv⟩ : ∃ hv, hv = hi t := ⟨_, rfl⟩
              obtain ⟨lv, hlv⟩ : ∃ lv, lv = lo i := ⟨_, rfl⟩
              obtain ⟨cv, hcv⟩ : ∃ cv, cv = tabC K lo hi xs.length d (t + 1) := ⟨_, rfl⟩
              rw [← hhv] at hc2
              rw [← hlv] at hc1
              rw [← hcv] at hcp
              have b1 : 0 ≤ hv ∧ hv ≤ 200 := by rw [hhv]; exact BHI.out t
              have b2 : 0 ≤ lv ∧ lv ≤ 200 := by rw [hlv]; exact BLO.out i
              have b3 : -(d * 31000 : Int) ≤ cv ∧ cv ≤ d * 31000 := by rw [hcv]; exact tabC_bound K lo hi xs.length d (by rw [HK.out]; omega) BLO.out BHI.out (t + 1)
              have Hhv := Lib.hid hhv
              have Hlv := Lib.hid hlv
              have Hcv := Lib.hid hcv
              clear hhv hlv hcv
              obtain ⟨b11, b12⟩ := b1
              obtain ⟨b21, b22⟩ := b2
              obtain ⟨b31, b32⟩ := b3
              obtain ⟨f1, f2⟩ := hf
              obtain ⟨l1, l2⟩ := hl
              have hd30 : d ≤ 30 := by have := HN.out; omega
              have hst0 := hst.c0
              have hst1 := hst.c1
              have z1 := cell_lt hst0
              have z2 := cell_lt hcp
              dsimp only at z1 z2
              have HS := Lib.hid hst
              clear hst
              go_upto_region 12 with fail
              go_cut [13] (fun c wx => c = .int .i64 (fixed + 2 * lead + hv - lv + cv) ∧ Below wr.heap.size wr wx)
              case first =>
                have w1 : IntKind.i64.wrap (2 * lead) = 2 * lead := IntWalk.i64_in _ (by omega)
                have w2 : IntKind.i64.wrap (fixed + 2 * lead) = fixed + 2 * lead := IntWalk.i64_in _ (by omega)
                have w3 : IntKind.i64.wrap (fixed + 2 * lead + hv) = fixed + 2 * lead + hv := IntWalk.i64_in _ (by omega)
                have w4 : IntKind.i64.wrap (fixed + 2 * lead + hv - lv) = fixed + 2 * lead + hv - lv := IntWalk.i64_in _ (by omega)
                have w5 : IntKind.i64.wrap (fixed + 2 * lead + hv - lv + cv) = fixed + 2 * lead + hv - lv + cv := IntWalk.i64_in _ (by omega)
                have w6 : IntKind.i64.wrap ((t : Int) + 1) = (t : Int) + 1 := IntWalk.i64_in _ (by omega)
                have w7 : ((t : Int) + 1).toNat = t + 1 := by omega
                refine wp_region_calm (by kernel_rfl) (by kernel_rfl) ?_
                repeat (go_big_quiet_step (fail))
                refine wpQuiet_nil ?_
                intro wx hbx
                go_wp2_with fail
                go_meet
                exact ⟨rfl, hbx⟩
              case rest =>
                obtain ⟨rfl, hbx⟩ := hcut
                have hstx := HS.out.later hbx
                clear hbx hc1 hc2 hcp hst0 hst1 z1 z2 HS
                obtain ⟨c, hc⟩ : ∃ c, c = fixed + 2 * lead + hv - lv + cv := ⟨_, rfl⟩
                rw [← hc]
                have HC := Lib.hid (show c = K + hi t - lo i + tabC K lo hi xs.length d (t + 1) by rw [hc, ← HK.out, Hhv.out, Hlv.out, Hcv.out])
                clear hc Hhv Hlv Hcv b11 b12 b21 b22 b31 b32 f1 f2 l1 l2
                have hfp := hstx.rp.frozen i
                have hfq := hstx.rq.frozen i
                have hcpi := hstx.rp.cell (i := i) (by omega)
                have hcqi := hstx.rq.cell (i := i) (by omega)
                have hpq := hstx.pq
                have HS := Lib.hid hstx
                clear hstx
                by_cases hm0 : m = 0
                · have hti2 : t = i := by have := HT.out; omega
                  subst hti2
                  subst hm0
                  obtain ⟨v1, hv1⟩ : ∃ v, v = midF (tabC K lo hi xs.length d) t 0 (gin K lo hi (tabC K lo hi xs.length d) t 0).1 t := ⟨_, rfl⟩
                  obtain ⟨v2, hv2⟩ : ∃ v, v = midF (tabS K lo hi xs.length d) t 0 (gin K lo hi (tabC K lo hi xs.length d) t 0).2 t := ⟨_, rfl⟩
                  rw [← hv1] at hcpi
                  rw [← hv2] at hcqi
                  clear hv1 hv2
                  go_wp2
                  go_roundw
                  case rel => exact ⟨1, t + 1, by omega, by omega, by go_num, HS.out.better rfl HC.out (.inl rfl) (by rfl)⟩
                  case measure => simp [intOf]; omega
                · obtain ⟨g, hg⟩ : ∃ g, g = (gin K lo hi (tabC K lo hi xs.length d) i m).1 := ⟨_, rfl⟩
                  have e1 : midF (tabC K lo hi xs.length d) i m (gin K lo hi (tabC K lo hi xs.length d) i m).1 i = g := by rw [hg]; unfold midF; rw [if_pos ⟨rfl, by omega⟩]
                  rw [e1] at hcpi
                  obtain ⟨v2, hv2⟩ : ∃ v, v = midF (tabS K lo hi xs.length d) i m (gin K lo hi (tabC K lo hi xs.length d) i m).2 i := ⟨_, rfl⟩
                  rw [← hv2] at hcqi
                  have HGG := Lib.hid hg
                  have HM := Lib.hid hm0
                  have hit : i < t := by have := HT.out; omega
                  have htt : ((t : Int) == (i : Int)) = false := by rw [beq_eq_false_iff_ne]; omega
                  clear e1 hv2 hg hm0
                  by_cases hcg : c < g
                  · have HCG := Lib.hid hcg
                    go_wp2
                    go_roundw
                    case rel => exact ⟨m + 1, t + 1, by have := HT.out; omega, by have := HT.out; have := HN.out; omega, by go_num, HS.out.better HT.out HC.out (.inr (by rw [← HGG.out]; exact HCG.out)) (by have := HT.out; omega)⟩
                    case measure => simp [intOf]; omega
                  · have HCG := Lib.hid hcg
                    go_wp2
                    go_roundw
                    case rel => exact ⟨m + 1, t + 1, by have := HT.out; omega, by have := HT.out; have := HN.out; omega, by go_num, HS.out.worse HT.out HC.out (fun h => h.elim HM.out (fun h => HCG.out (by rw [HGG.out]; exact h)))⟩
                    case measure => simp [intOf]; omega
            · obtain rfl : m = d + 1 := by omega
              have hst2 := GSt.round hrd hst
              have HS := Lib.hid hst2
              clear hst hst2 htm
              go_wp2
              go_roundw
              case rel => exact ⟨i, d + 1, by have := HN.out; omega, by go_num, HS.out⟩
              case measure => simp [intOf]

end Go.Proofs.Ytgjpdjihjphbdaa
