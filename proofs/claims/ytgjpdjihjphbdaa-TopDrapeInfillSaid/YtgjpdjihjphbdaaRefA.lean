/- The reference of groups, and small helpers of the base. -/
import Derived.Test.YtgjpdjihjphbdaaGroups
import Derived.Test.YtgjpdjihjphbdaaApp
/- The reference of groups, and small helpers of the base. -/
namespace Go.Proofs.Ytgjpdjihjphbdaa
open Go.RowKit

set_option maxHeartbeats 400000 in
theorem bWithin_any (a b c : Int) (w : World) :
    Calls Try.prog 22 #[.int .i64 a, .int .i64 b, .int .i64 c] w fun e w' => e = .returned (.bool (inB a b c)) ∧ w = w' := by
  by_cases h1 : b ≤ a
  · go_enter Try.func22, Try.ntmps22
    go_wp2
    go_ret
    exact ⟨by simp [inB, h1], rfl⟩
  · go_enter Try.func22, Try.ntmps22
    go_wp2
    go_ret
    exact ⟨by simp [inB]; omega, rfl⟩

set_option maxHeartbeats 400000 in
theorem bSize_any (a : Int) (h1 : -9000000000000000000 ≤ a) (h2 : a ≤ 9000000000000000000) (w : World) :
    Calls Try.prog 88 #[.int .i64 a] w fun e w' => e = .returned (.int .i64 (max a (-a))) ∧ w = w' := by
  go_enter Try.func88, Try.ntmps88
  go_wp2
  all_goals go_ret
  all_goals exact ⟨ret_int (by omega), rfl⟩

theorem Try.infoRange : (Try.prog.info? 129).map (fun i => (i.zero, i.size, i.bytes)) = some (some (.agg #[.int .i64 0, .int .i64 0]), 2, 16) := by kernel_rfl

/-- What a copy leaves: a row of the call's own. -/
def Owned (E size : Nat) (n : Nat) (cells : List Value) (w : World) (e : Ending) (w' : World) : Prop :=
  ∃ v, e = .returned v ∧ w'.ownsRow w.heap.size E size v n cells ∧ Below w.heap.size w w' ∧ v ≠ .slice none 0 0

set_option maxHeartbeats 400000 in
theorem rCopyRanges_any (A : Option Addr) (n cap : Nat) (xs : List (Int × Int)) (w : World) (hm : xs.length ≤ 1000) (hN : A = none → cap = 0) (hr : Rd w 2 A n (enc2 xs)) :
    Calls Try.prog 17 #[.slice A n cap] w (Owned 129 2 n (enc2 xs) w) := by
  have hn := hr.len2
  have hr' := hr.below rfl ((Below.refl _ w).alloc (Nat.le_refl _) (.cells #[] 129))
  have hO := owns_empty w w.heap.size 129 2 (Nat.le_refl _) 129 rfl
  go_enter Try.func17, Try.ntmps17
  go_wp2_with (at_builtin; refine appRd rfl _ _ 24 rfl w.heap.size 129 2 16 _ Try.underlying24 Try.infoRange rfl (by decide) (.slice (some ⟨w.heap.size, 0, none⟩) 0 0) _ _ rfl hO A n cap (enc2 xs) rfl hN hr' (oneCell_enc2 _) (by omega) (by omega) (by simp) ?_; intro v' w1 hown hb hnn)
  go_ret
  exact ⟨_, rfl, by simpa using hown, (((Below.refl _ w).alloc (Nat.le_refl _) _).trans hb), hnn (by simp)⟩

set_option maxHeartbeats 400000 in
theorem rCostErr_any (fixed lead : Int) (w : World) :
    Calls Try.prog 18 #[.agg #[.int .i64 fixed, .int .i64 lead]] w (Ret w (.int .i64 (unl (inB fixed 0 10000 && inB lead 0 10000) 2))) := by
  cases h1 : inB fixed 0 10000
  · go_enter Try.func18, Try.ntmps18
    go_wp2_with (go_at_call 22; refine (bWithin_any _ _ _ _).mono ?_; rintro e w' ⟨rfl, rfl⟩)
    go_ret
    exact ⟨rfl, (Below.refl _ w).alloc (Nat.le_refl _) _⟩
  · cases h2 : inB lead 0 10000
    all_goals
      go_enter Try.func18, Try.ntmps18
      go_wp2_with (go_at_call 22; refine (bWithin_any _ _ _ _).mono ?_; rintro e w' ⟨rfl, rfl⟩)
      go_ret
      exact ⟨rfl, (Below.refl _ w).alloc (Nat.le_refl _) _⟩

/-- Two slices of integers are equal. -/
theorem eqFrom (xs ys : List Int) (k : Nat) (hk : k < xs.length) (hl : xs.length = ys.length) (h : (xs == ys) = (xs.drop k == ys.drop k)) :
    (xs == ys) = (xs[k] == ys[k]'(by omega) && xs.drop (k + 1) == ys.drop (k + 1)) := by
  rw [h, List.drop_eq_getElem_cons hk, List.drop_eq_getElem_cons (by omega : k < ys.length)]
  rfl

set_option maxHeartbeats 1000000 in
theorem bInts_any (A B : Option Addr) (n m c d : Nat) (xs ys : List Int) (w : World) (h1 : xs.length ≤ 1000000) (hr : Rd w 1 A n (enc1 xs)) (hs : Rd w 1 B m (enc1 ys)) :
    Calls Try.prog 21 #[.slice A n c, .slice B m d] w (Ret w (.bool (xs == ys))) := by
  have hn := hr.len1
  have hm := hs.len1
  by_cases hne : n = m
  · subst hne
    subst hn
    go_enter Try.func21, Try.ntmps21
    go_wp2
    have HM := Lib.hid hm
    clear hm
    go_loopw [5] (fun i wr => ∃ k : Nat, k ≤ xs.length ∧ i = .int .i64 k ∧ (xs == ys) = (xs.drop k == ys.drop k) ∧ Below w.heap.size w wr) (fun i _ => xs.length - (intOf i).toNat)
    case atStart => exact ⟨0, Nat.zero_le _, rfl, by simp, Below.refl _ _⟩
    case round =>
      obtain ⟨k, hk, rfl, he, hb⟩ := hrel
      have HE := Lib.hid he
      clear he
      by_cases hlt : k < xs.length
      · obtain ⟨b1, o1, rfl, z1, c1⟩ := (hr.below rfl hb).at1 k hlt
        obtain ⟨b2, o2, rfl, z2, c2⟩ := (hs.below rfl hb).at1 k (by have := HM.out; omega)
        have HN := Lib.hid (eqFrom xs ys k hlt HM.out HE.out)
        have hE := HE
        clear hr hs HE
        generalize xs[k] = x at c1 HN
        generalize ys[k]'(by have := HM.out; omega) = y at c2 HN
        by_cases hxy : x = y
        · subst hxy
          have hd : (x != x) = false := by simp
          go_upto_region 6 with fail
          refine wp_region_calm (by kernel_rfl) (by kernel_rfl) ?_
          repeat (go_big_quiet_step (fail))
          refine wpQuiet_nil ?_
          intro wx hbx
          go_wp2
          go_roundw
          case rel => exact ⟨k + 1, by omega, by go_num, by rw [HN.out]; simp, hb.trans (hbx.mono hb.size)⟩
          case measure => simp [intOf]; omega
        · have hd : (x != y) = true := by simpa using hxy
          have HX := Lib.hid hxy
          clear hxy
          go_upto_region 6 with fail
          refine wp_region_calm (by kernel_rfl) (by kernel_rfl) ?_
          repeat (go_big_quiet_step (fail))
          refine wpQuiet_nil ?_
          intro wx hbx
          go_wp2
          go_ret
          exact ⟨ret_bool (by rw [HN.out]; simp [HX.out]), hb.trans (hbx.mono hb.size)⟩
      · go_wp2
        go_ret
        exact ⟨ret_bool (by rw [HE.out, List.drop_eq_nil_of_le (by omega), List.drop_eq_nil_of_le (by have := HM.out; omega)]; rfl), hb⟩
  · have hd : ((n : Int) != (m : Int)) = true := by rw [bne_iff_ne]; omega
    have hf : (xs == ys) = false := by
      cases h : xs == ys
      · rfl
      · have := eq_of_beq h; rw [this] at hn; omega
    clear hne hr hs hn hm
    go_enter Try.func21, Try.ntmps21
    go_wp2
    go_ret
    exact ⟨ret_bool hf.symm, Below.refl _ _⟩

/-- The cost of a group. -/
def grpCost (fixed lead : Int) (l : List (Int × Int)) : Int := fixed + 2 * lead + (l.getD (l.length - 1) (0, 0)).2 - (l.getD 0 (0, 0)).1

set_option maxRecDepth 100000 in
set_option maxHeartbeats 1000000 in
theorem rCost_any (fixed lead : Int) (A : Option Addr) (n c : Nat) (xs : List (Int × Int)) (w : World) (hf : 0 ≤ fixed ∧ fixed ≤ 10000) (hl : 0 ≤ lead ∧ lead ≤ 10000) (hbd : ∀ p ∈ xs, 0 ≤ p.1 ∧ p.1 ≤ 200 ∧ 0 ≤ p.2 ∧ p.2 ≤ 200)
    (h0 : 0 < xs.length) (h1 : xs.length ≤ 1000000) (hr : Rd w 2 A n (enc2 xs)) :
    Calls Try.prog 23 #[.agg #[.int .i64 fixed, .int .i64 lead], .slice A n c] w (Ret w (.int .i64 (grpCost fixed lead xs))) := by
  obtain rfl := hr.len2
  obtain ⟨f1, f2⟩ := hf
  obtain ⟨l1, l2⟩ := hl
  obtain ⟨b, off, rfl, z1, _, c1⟩ := hr.at2 (xs.length - 1) (by omega)
  obtain ⟨b', off', e', _, c2, _⟩ := hr.at2 0 (by omega)
  cases e'
  rw [Nat.zero_mul, Nat.add_zero] at c2
  have z2 : b < w.heap.size + 1 := by omega
  have d1 := hbd xs[xs.length - 1] (List.getElem_mem _)
  have d2 := hbd xs[0] (List.getElem_mem _)
  have HG := Lib.hid (show grpCost fixed lead xs = fixed + 2 * lead + (xs[xs.length - 1]).2 - (xs[0]).1 by unfold grpCost; simp [h0, show xs.length - 1 < xs.length by omega])
  clear hr hbd
  generalize (xs[xs.length - 1]).2 = hv at *
  generalize (xs[0]).1 = lv at *
  obtain ⟨_, _, d3, d4⟩ := d1
  obtain ⟨d5, d6, _, _⟩ := d2
  have w1 : IntKind.i64.wrap (2 * lead) = 2 * lead := IntWalk.i64_in _ (by omega)
  have w2 : IntKind.i64.wrap (fixed + 2 * lead) = fixed + 2 * lead := IntWalk.i64_in _ (by omega)
  have w3 : IntKind.i64.wrap (fixed + 2 * lead + hv) = fixed + 2 * lead + hv := IntWalk.i64_in _ (by omega)
  have w4 : IntKind.i64.wrap (fixed + 2 * lead + hv - lv) = fixed + 2 * lead + hv - lv := IntWalk.i64_in _ (by omega)
  have w5 : IntKind.i64.wrap ((xs.length : Int) - 1) = (xs.length : Int) - 1 := IntWalk.i64_in _ (by omega)
  have w6 : ((xs.length : Int) - 1).toNat = xs.length - 1 := by omega
  have w7 : 0 ≤ (xs.length : Int) - 1 := by omega
  go_enter Try.func23, Try.ntmps23
  go_upto_region 1 with fail
  refine wp_region_calm (by kernel_rfl) (by kernel_rfl) ?_
  repeat (go_big_quiet_step (fail))
  refine wpQuiet_nil ?_
  intro wx hbx
  go_wp2
  go_ret
  exact ⟨ret_int HG.out.symm, ((Below.refl _ w).alloc (Nat.le_refl _) _).trans (hbx.mono (by simp))⟩

end Go.Proofs.Ytgjpdjihjphbdaa

/- The reference of groups: the error of pieces, and the groups. -/
namespace Go.Proofs.Ytgjpdjihjphbdaa
open Go.RowKit

theorem pieceE_a {last lo hi : Int} (h : (inB lo 0 200 && inB hi 0 200) = false) : pieceE last lo hi = 2 := by
  unfold pieceE unl; rw [h]; rfl
theorem pieceE_b {last lo hi : Int} (h : (inB lo 0 200 && inB hi 0 200) = true) (h2 : hi < lo ∨ lo ≤ last + 1) : pieceE last lo hi = 9 := by
  unfold pieceE unl; rw [h]
  have : (decide (lo ≤ hi) && decide (last + 1 < lo)) = false := by
    simp only [Bool.and_eq_false_iff, decide_eq_false_iff_not]; omega
  rw [this]; rfl
theorem pieceE_c {last lo hi : Int} (h : (inB lo 0 200 && inB hi 0 200) = true) (h2 : lo ≤ hi) (h3 : last + 1 < lo) : pieceE last lo hi = 0 := by
  unfold pieceE unl; rw [h]
  have : (decide (lo ≤ hi) && decide (last + 1 < lo)) = true := by
    simp only [Bool.and_eq_true, decide_eq_true_eq]; omega
  rw [this]; rfl
theorem piecesE_bad {last : Int} {p : Int × Int} {l : List (Int × Int)} {e : Int} (h : pieceE last p.1 p.2 = e) (he : e ≠ 0) : piecesE last (p :: l) = e := by
  unfold piecesE; rw [h, if_pos he]
theorem piecesE_good {last : Int} {p : Int × Int} {l : List (Int × Int)} (h : pieceE last p.1 p.2 = 0) : piecesE last (p :: l) = piecesE p.2 l := by
  rw [piecesE, h, if_neg (by omega)]

/-- What is known before a piece: the last one's upper end. -/
def LastOf (xs : List (Int × Int)) (k : Nat) (last : Int) : Prop := (k = 0 → last = -2) ∧ (0 < k → last = (xs.getD (k - 1) (0, 0)).2)

set_option maxRecDepth 100000 in
set_option maxHeartbeats 4000000 in
theorem rPiecesErr_any (A : Option Addr) (n cap : Nat) (xs : List (Int × Int)) (w : World) (hm : xs.length ≤ 30) (hr : Rd w 2 A n (enc2 xs)) :
    Calls Try.prog 19 #[.slice A n cap] w (Ret w (.int .i64 (piecesE (-2) xs))) := by
  obtain rfl := hr.len2
  go_enter Try.func19, Try.ntmps19
  go_wp2
  go_loopw [3] (fun i wr => ∃ (k : Nat) (last : Int), k ≤ xs.length ∧ i = .int .i64 k ∧ LastOf xs k last ∧ -2 ≤ last ∧ last ≤ 200 ∧ piecesE (-2) xs = piecesE last (xs.drop k) ∧ Below w.heap.size w wr) (fun i _ => xs.length - (intOf i).toNat)
  case atStart => exact ⟨0, -2, Nat.zero_le _, rfl, ⟨fun _ => rfl, fun h => absurd h (by omega)⟩, by omega, by omega, rfl, Below.refl _ _⟩
  case round =>
    obtain ⟨k, last, hk, rfl, hla, hl1, hl2, hz, hb⟩ := hrel
    have HZ := Lib.hid hz
    clear hz
    by_cases hlt : k < xs.length
    · have hr' := hr.below rfl hb
      obtain ⟨b, off, rfl, hbl, hc1, hc2⟩ := hr'.at2 k hlt
      have HD := Lib.hid (drop_at xs k hlt)
      have HX := Lib.hid (show xs.getD k (0, 0) = xs[k] by simp [hlt])
      have hprev : 0 < k → wr.cell? ⟨b, off + (k - 1) * 2 + 1, none⟩ = some (.int .i64 last) := fun h0 => by
        obtain ⟨b', off', e', _, _, hc3⟩ := hr'.at2 (k - 1) (by omega)
        cases e'
        rw [hc3, hla.2 h0]
        simp [show k - 1 < xs.length by omega]
      clear hr hr'
      generalize xs[k] = x at hc1 hc2 HD HX
      obtain ⟨lo, hi⟩ := x
      dsimp only at hc1 hc2
      have HLA := Lib.hid hla
      have HPV := Lib.hid hprev
      clear hla hprev
      cases h1 : inB lo 0 200
      · go_wp2_with (go_at_call 22; refine (bWithin_any _ _ _ _).mono ?_; rintro e w' ⟨rfl, rfl⟩)
        go_ret
        exact ⟨ret_int (by rw [HZ.out, HD.out, piecesE_bad (pieceE_a (by simp [h1])) (by omega)]), hb⟩
      · cases h2 : inB hi 0 200
        · go_wp2_with (go_at_call 22; refine (bWithin_any _ _ _ _).mono ?_; rintro e w' ⟨rfl, rfl⟩)
          go_ret
          exact ⟨ret_int (by rw [HZ.out, HD.out, piecesE_bad (pieceE_a (by simp [h1, h2])) (by omega)]), hb⟩
        · have H12 := Lib.hid (show (inB lo 0 200 && inB hi 0 200) = true by simp [h1, h2])
          have q1 := inB_iff.1 h1
          have q2 := inB_iff.1 h2
          go_upto_region 8 with (go_at_call 22; refine (bWithin_any _ _ _ _).mono ?_; rintro e w' ⟨rfl, rfl⟩)
          go_cut [58] (fun c wx => c = .bool (decide (hi < lo ∨ lo ≤ last + 1)) ∧ Below w.heap.size w wx)
          case first =>
            by_cases h3 : hi < lo
            · have HR := Lib.hid (show true = decide (hi < lo ∨ lo ≤ last + 1) by simp [h3])
              refine wp_region_calm (by kernel_rfl) (by kernel_rfl) ?_
              repeat (go_big_quiet_step (fail))
              refine wpQuiet_nil ?_
              intro wx hbx
              go_wp2_with fail
              go_meet
              exact ⟨ret_boo HR.out, hb.trans (hbx.mono hb.size)⟩
            · have h3' : decide (hi < lo) = false := decide_eq_false h3
              by_cases h4 : k = 0
              · have HR := Lib.hid (show false = decide (hi < lo ∨ lo ≤ last + 1) by
                  have := HLA.out.1 h4
                  rw [eq_comm, decide_eq_false_iff_not]; omega)
                have k0 : decide (0 < k) = false := by simp [h4]
                have k0' : decide ((0 : Int) < (k : Int)) = false := by simp [h4]
                clear h4
                refine wp_region_calm (by kernel_rfl) (by kernel_rfl) ?_
                repeat (go_big_quiet_step (fail))
                refine wpQuiet_nil ?_
                intro wx hbx
                go_wp2_with fail
                go_meet
                exact ⟨ret_boo HR.out, hb.trans (hbx.mono hb.size)⟩
              · have hp := HPV.out (by omega)
                have HR := Lib.hid (show decide (lo ≤ last + 1) = decide (hi < lo ∨ lo ≤ last + 1) by
                  rw [decide_eq_decide]; omega)
                have k1 : 0 < k := by omega
                have w1 : IntKind.i64.wrap ((k : Int) - 1) = (k : Int) - 1 := IntWalk.i64_in _ (by omega)
                have w2 : ((k : Int) - 1).toNat = k - 1 := by omega
                have w3 : 0 ≤ (k : Int) - 1 := by omega
                have w4 : IntKind.i64.wrap (last + 1) = last + 1 := IntWalk.i64_in _ (by omega)
                clear h4
                refine wp_region_calm (by kernel_rfl) (by kernel_rfl) ?_
                repeat (go_big_quiet_step (fail))
                refine wpQuiet_nil ?_
                intro wx hbx
                go_wp2_with fail
                go_meet
                exact ⟨ret_boo HR.out, hb.trans (hbx.mono hb.size)⟩
          case rest =>
            obtain ⟨rfl, hbx⟩ := hcut
            by_cases hd : hi < lo ∨ lo ≤ last + 1
            · have HDD := Lib.hid hd
              have hdd : decide (hi < lo ∨ lo ≤ last + 1) = true := decide_eq_true hd
              rw [hdd]
              clear hd hdd
              go_wp2
              go_ret
              exact ⟨ret_int (by rw [HZ.out, HD.out, piecesE_bad (pieceE_b H12.out HDD.out) (by omega)]), hbx⟩
            · have HDD := Lib.hid hd
              have hdd : decide (hi < lo ∨ lo ≤ last + 1) = false := decide_eq_false hd
              rw [hdd]
              clear hd hdd
              go_wp2
              go_roundw
              case rel => exact ⟨k + 1, hi, by omega, by go_num, ⟨fun h => absurd h (by omega), fun _ => by rw [Nat.add_sub_cancel, HX.out]⟩, by omega, by omega, by rw [HZ.out, HD.out, piecesE_good (pieceE_c H12.out (by have := HDD.out; omega) (by have := HDD.out; omega))], hbx⟩
              case measure => simp [intOf]; omega
    · go_wp2
      go_ret
      exact ⟨ret_int (by rw [HZ.out, List.drop_eq_nil_of_le (by omega)]; rfl), hb⟩

end Go.Proofs.Ytgjpdjihjphbdaa
