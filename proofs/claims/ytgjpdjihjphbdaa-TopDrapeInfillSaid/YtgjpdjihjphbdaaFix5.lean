/- Contracts: spoilt pieces of the reference, copies, equal pieces. -/
import Derived.Test.YtgjpdjihjphbdaaFix4
namespace Go.Proofs.Ytgjpdjihjphbdaa
open Go.RowKit

theorem mf_rSpoilt : MT.mf 86 = some ⟨51, [(.tmp 4)], (.seq (.reg [⟨none, (some 2), (.box 5 (.s 0))⟩, ⟨none, (some 4), (.nil0 2)⟩]) (.seq (.reg [⟨none, (some 5), (.nil0 2)⟩]) (.seq (.reg [⟨none, (some 9), (.ld (some 5) (.s 2))⟩, ⟨none, (some 10), (.mv (.s 1))⟩, ⟨none, (some 11), (.call 84 [(.s 9), (.s 10)])⟩, ⟨none, (some 6), (.mv (.s 11))⟩]) (.seq (.seq (.reg [⟨none, (some 7), (.mv (.c (.lit (.int .i64 0))))⟩]) (.block 0 (.loop [7, 6, 5] (.seq (.seq (.reg [⟨none, (some 12), (.mv (.s 7))⟩, ⟨none, (some 13), (.mv (.s 6))⟩, ⟨none, (some 14), (.len (.s 13))⟩, ⟨none, (some 15), (.bin .lss (.s 12) (.s 14))⟩]) (.cond (.s 15) .skip (.exit 0))) (.seq (.block 1 (.seq (.seq (.reg [⟨none, (some 18), (.mv (.s 6))⟩, ⟨none, (some 19), (.mv (.s 7))⟩, ⟨none, (some 20), (.ia 1 (.s 18) (.s 19))⟩, ⟨none, (some 21), (.ld none (.s 20))⟩, ⟨none, (some 22), (.bin .eql (.s 21) (.c (.lit (.int .i64 0))))⟩]) (.cond (.s 22) (.exit 1) .skip)) (.seq (.reg [⟨none, (some 23), (.mv (.s 5))⟩, ⟨none, (some 24), (.len (.s 23))⟩, ⟨none, (some 8), (.mv (.s 24))⟩]) (.seq (.reg [⟨none, (some 25), (.mv (.s 8))⟩, ⟨none, (some 26), (.bin .gtr (.s 25) (.c (.lit (.int .i64 0))))⟩, ⟨none, (some 27), (.mv (.s 26))⟩, ⟨(some (27, true)), (some 28), (.mv (.s 5))⟩, ⟨(some (27, true)), (some 29), (.mv (.s 8))⟩, ⟨(some (27, true)), (some 30), (.bin .sub (.s 29) (.c (.lit (.int .i64 1))))⟩, ⟨(some (27, true)), (some 31), (.ia 2 (.s 28) (.s 30))⟩, ⟨(some (27, true)), (some 32), (.fa 1 (.s 31))⟩, ⟨(some (27, true)), (some 33), (.ld none (.s 32))⟩, ⟨(some (27, true)), (some 34), (.mv (.s 7))⟩, ⟨(some (27, true)), (some 35), (.bin .sub (.s 34) (.c (.lit (.int .i64 1))))⟩, ⟨(some (27, true)), (some 36), (.bin .eql (.s 33) (.s 35))⟩, ⟨none, (some 37), (.pick (.s 27) (.s 36) (.c (.lit (.bool false))))⟩]) (.cond (.s 37) (.reg [⟨none, (some 38), (.mv (.s 5))⟩, ⟨none, (some 39), (.mv (.s 8))⟩, ⟨none, (some 40), (.bin .sub (.s 39) (.c (.lit (.int .i64 1))))⟩, ⟨none, (some 41), (.mv (.s 7))⟩, ⟨none, (some 42), (.ia 2 (.s 38) (.s 40))⟩, ⟨none, (some 43), (.fa 1 (.s 42))⟩, ⟨none, none, (.st 1 (.s 43) (.s 41))⟩]) (.reg [⟨none, (some 44), (.mv (.s 5))⟩, ⟨none, (some 45), (.mv (.s 7))⟩, ⟨none, (some 46), (.mv (.s 7))⟩, ⟨none, (some 47), (.build [(.lit (.int .i64 0)), (.lit (.int .i64 0))] [(0, (1, (.s 45))), (1, (1, (.s 46)))])⟩, ⟨none, (some 48), (.bsl (.agg [(.lit (.int .i64 0)), (.lit (.int .i64 0))]) 2 1 [(0, (.s 47))])⟩, ⟨none, (some 49), (.app 2 (.s 44) (.s 48))⟩, ⟨none, (some 5), (.mv (.s 49))⟩])))))) (.reg [⟨none, (some 16), (.mv (.s 7))⟩, ⟨none, (some 17), (.bin .add (.s 16) (.c (.lit (.int .i64 1))))⟩, ⟨none, (some 7), (.mv (.s 17))⟩])))))) (.seq (.reg [⟨none, (some 50), (.mv (.s 5))⟩, ⟨none, (some 4), (.mv (.s 50))⟩]) .ret)))))⟩ := by kernel_rfl
set_option maxHeartbeats 4000000 in
theorem rSpoilt_z (k : Nat) (a b c d e : Int) (fs : List Fx) (hx : fs.length ≤ 1000) (he : fixE ⟨a, b, c, d, e⟩ fs = 0) : runZ MT (orA (k + 7)) (itA (k + 7)) 1000000 86 [.agg [I64 a, I64 b, I64 c, I64 d, I64 e], .sl (fs.map encX)] [] =
    some (.arr 0 0 (spoilt ⟨a, b, c, d, e⟩ fs).length 0, [⟨0, nlN (spoilt ⟨a, b, c, d, e⟩ fs).length, 2, (spoilt ⟨a, b, c, d, e⟩ fs).map encR⟩]) := by
  refine runZ_of mf_rSpoilt (by simp) ?_
  simp only [argsL]
  have hr := fun h => rReasons_c k a b c d e fs h (v := .sl (fs.map encX)) hx he (frz_sl (ltL_X 0 fs))
  have hrl : (reasonsL ⟨a, b, c, d, e⟩ fs).length = fs.length := by simp [reasonsL]
  have hsp : spoilt ⟨a, b, c, d, e⟩ fs = spoiltF [] 0 (reasonsL ⟨a, b, c, d, e⟩ fs) := rfl
  generalize spoilt ⟨a, b, c, d, e⟩ fs = sp at hsp
  generalize reasonsL ⟨a, b, c, d, e⟩ fs = xs at hr hrl hsp
  repeat (first | apply ef_seq | (apply ef_mv; exact rfl; exact rfl) | (apply ef_ldp; exact rfl; exact rfl; exact rfl; exact rfl; (exact rfl); (exact rd_5 rfl rfl rfl rfl rfl)) | (apply ef_box; exact rfl; exact rfl; exact rfl; exact rfl) | (apply ef_nil0; exact rfl) | apply ef_nil | apply seqQ.normal)
  (apply ef_call; exact rfl; ((repeat (apply XVs.cons; exact rfl)); exact XVs.nil); exact hr _)
  repeat (first | apply ef_seq | (apply ef_mv; exact rfl; exact rfl) | apply ef_nil | apply seqQ.normal | apply ef_block)
  refine ef_loop (α := Nat × Nat × List (Int × Int)) (fun s => s.1 ≤ xs.length ∧ s.2.1 ≤ s.1 ∧ s.2.2.length = s.2.1 ∧ sp = spoiltF s.2.2 s.1 (xs.drop s.1))
    (fun s => [(7, I64 (s.1 : Int)), (6, .arr 3 0 fs.length 0), (5, .arr 2 0 s.2.1 s.2.1)])
    (fun s => [⟨0, false, 5, [.agg [I64 a, I64 b, I64 c, I64 d, I64 e]]⟩, ⟨0, true, 2, []⟩, ⟨s.2.1, nlN s.2.1, 2, s.2.2.map encR⟩, ⟨0, nlN fs.length, 1, xs.map I64⟩]) (fun s => fs.length - s.1)
    (0, 0, []) [7, 6, 5] (fun _ => rfl) rfl ⟨by omega, by simp, rfl, by simpa using hsp⟩ (by simp only; omega) (by ((repeat (refine Hold.cons (by exact rfl) ?_)); exact Hold.nil)) rfl ?_
  rintro ⟨i, m, acc⟩ ⟨hi, hal, hm, hz⟩
  simp only at hi hal hm hz ⊢
  by_cases hlt : i < fs.length
  · have e1 := at_I (xs := xs) (k := i) (v := xs[i]) (j := (i : Int)) (by simp) rfl
    have HD := Lib.hid (drop_at xs i (by omega))
    have HS := Lib.hid (show sp = spoiltF (spStep acc i xs[i]) (i + 1) (xs.drop (i + 1)) by rw [hz, HD.out]; rfl)
    clear hz hsp HD
    generalize xs[i] = x at e1 HS
    by_cases h0 : x = 0
    · subst h0
      repeat (first | apply ef_seq | (apply ef_mv; exact rfl; exact rfl) | (apply ef_bin; exact rfl; exact rfl; exact rfl; (first | exact cmp_t rfl (by first | exact rfl | (simp only [cmpP]; omega)) | ((with_reducible refine bin_add (wrap_of ?_ ?_)) <;> omega))) | (apply ef_len; exact rfl; exact rfl; (exact rfl)) | (apply ef_ldp; exact rfl; exact rfl; exact rfl; exact rfl; (assumption); (exact rfl)) | (apply ef_iaa; exact rfl; exact rfl; exact rfl; (omega); (omega); (exact rfl)) | apply ef_nil | apply seqQ.normal | apply ef_exit | apply seqQ.exit | apply blockQ.here | apply ef_block | apply ef_skip | (apply ef_condt; exact rfl; (exact (rfl : true = true))))
      (refine loopQ.normal _ _ ⟨(i + 1, m, acc), ⟨by omega, by simp only; omega, hm, by rw [HS.out]; rfl⟩, (by first | (simp only; omega) | omega), by ((repeat (refine Hold.cons (by exact rfl) ?_)); exact Hold.nil), .inl (Nat.le_refl _), (by first | exact List.take_length | exact rfl)⟩)
    · have happ := Lib.hid (fun hh : spStep acc i x = acc ++ [((i : Int), (i : Int))] => (show sp = spoiltF (acc ++ [((i : Int), (i : Int))]) (i + 1) (xs.drop (i + 1)) by rw [HS.out, hh]))
      cases hlast : acc.getLast? with
      | none =>
        have hnil : m = 0 := by rw [← hm]; simpa using hlast
        repeat (first | apply ef_seq | (apply ef_mv; exact rfl; exact rfl) | (apply ef_bin; exact rfl; exact rfl; exact rfl; (first | exact cmp_t rfl (by first | exact rfl | (simp only [cmpP]; omega)) | exact cmp_f rfl (by simp only [cmpP]; omega))) | (apply ef_gn; exact rfl; (exact (rfl : false = false)); exact rfl) | (apply ef_pick; exact rfl; exact rfl; exact rfl) | (apply ef_len; exact rfl; exact rfl; (exact rfl)) | (apply ef_ldp; exact rfl; exact rfl; exact rfl; exact rfl; (assumption); (exact rfl)) | (apply ef_iaa; exact rfl; exact rfl; exact rfl; (omega); (omega); (exact rfl)) | (apply ef_build; exact rfl; (repeat (apply XVs.cons; exact rfl)); exact XVs.nil; exact rfl; exact rfl) | (apply ef_bsl; exact rfl; (repeat (apply XVs.cons; exact rfl)); exact XVs.nil; exact rfl) | apply ef_nil | apply seqQ.normal | apply ef_block | apply ef_skip | (apply ef_condt; exact rfl; (exact (rfl : true = true))) | (apply ef_condf; exact rfl; (exact (rfl : false = false))))
        (apply ef_app; (· exact rfl); (· exact rfl); (· exact rfl); (· exact rfl); (· exact rfl); (· exact rfl); (· (simp only [List.length_map]; omega)); (· exact rfl); (· ((show (acc.map encR).length + 1 ≤ 1000000); rw [List.length_map]; omega)); (· exact rfl); (· exact rfl))
        repeat (first | (apply ef_mv; exact rfl; exact rfl) | (apply ef_bin; exact rfl; exact rfl; exact rfl; (((with_reducible refine bin_add (wrap_of ?_ ?_)) <;> omega))) | apply ef_nil | apply seqQ.normal | apply blockQ.normal)
        (refine loopQ.normal _ _ ⟨(i + 1, m + 1, acc ++ [((i : Int), (i : Int))]), ⟨by omega, by simp only; omega, by simp [hm], happ.out (by simp [spStep, h0, hlast])⟩, (by first | (simp only; omega) | omega), by ((repeat (refine Hold.cons (by exact rfl) ?_)); exact Hold.nil), .inr ⟨by ((repeat (refine hdl_cons rfl (by first | rfl | (simp [MV.lt, ltL_I, ltL_R, ltL_app1, splice, MV.cells])) ?_)); exact hdl_nil), by first | rfl | (simp [hltL, ltL, MV.lt, ltL_I, ltL_R, ltL_app1, splice, MV.cells])⟩, by first | exact rfl | (simp only [List.map_append, List.map_set]; exact rfl)⟩)
      | some p =>
        obtain ⟨lo, hi'⟩ := p
        have hpos : 0 < m := by
          cases acc with
          | nil => cases hlast
          | cons _ _ => rw [← hm]; simp
        have e2 := last_at hlast encR
        simp only [encR] at e2
        rw [hm] at e2
        by_cases hh : hi' = (i : Int) - 1
        · repeat (first | apply ef_seq | (apply ef_mv; exact rfl; exact rfl) | (apply ef_bin; exact rfl; exact rfl; exact rfl; (first | exact cmp_t rfl (by first | exact rfl | (simp only [cmpP]; omega)) | exact cmp_f rfl (by simp only [cmpP]; omega) | ((with_reducible refine bin_add (wrap_of ?_ ?_)) <;> omega) | ((with_reducible refine bin_sub (wrap_of ?_ ?_)) <;> omega))) | (apply ef_gy; exact rfl; (exact (rfl : true = true))) | (apply ef_pick; exact rfl; exact rfl; exact rfl) | (apply ef_len; exact rfl; exact rfl; (exact rfl)) | (apply ef_ldp; exact rfl; exact rfl; exact rfl; exact rfl; (assumption); (exact rfl)) | (apply ef_iaa; exact rfl; exact rfl; exact rfl; (omega); (omega); (first | exact rfl | exact ok_of rfl rfl rfl)) | (apply ef_fap; exact rfl; exact rfl) | (apply ef_st; exact rfl; exact rfl; exact rfl; exact rfl; exact rfl; exact rfl; (assumption); exact rfl) | apply ef_nil | apply seqQ.normal | apply blockQ.normal | apply ef_block | apply ef_skip | (apply ef_condt; exact rfl; (exact (rfl : true = true))) | (apply ef_condf; exact rfl; (exact (rfl : false = false))))
          (refine loopQ.normal _ _ ⟨(i + 1, m, acc.set (0 + ((m : Int) - 1).toNat) (lo, (i : Int))), ⟨by omega, by simp only; omega, by simp only [List.length_set]; exact hm, by rw [HS.out, ← hm, last_set hlast]; simp [spStep, h0, hlast, hh]⟩, (by first | (simp only; omega) | omega), by ((repeat (refine Hold.cons (by exact rfl) ?_)); exact Hold.nil), .inr ⟨by ((repeat (refine hdl_cons rfl (by first | rfl | (simp [MV.lt, ltL_I, ltL_R, ltL_setR, splice, MV.cells])) ?_)); exact hdl_nil), by first | rfl | (simp [hltL, ltL, MV.lt, ltL_I, ltL_R, ltL_setR, splice, MV.cells])⟩, by first | exact rfl | (simp only [List.map_append, List.map_set]; exact rfl)⟩)
        · repeat (first | apply ef_seq | (apply ef_mv; exact rfl; exact rfl) | (apply ef_bin; exact rfl; exact rfl; exact rfl; (first | exact cmp_t rfl (by first | exact rfl | (simp only [cmpP]; omega)) | exact cmp_f rfl (by simp only [cmpP]; omega) | ((with_reducible refine bin_sub (wrap_of ?_ ?_)) <;> omega))) | (apply ef_gy; exact rfl; (exact (rfl : true = true))) | (apply ef_pick; exact rfl; exact rfl; exact rfl) | (apply ef_len; exact rfl; exact rfl; (exact rfl)) | (apply ef_ldp; exact rfl; exact rfl; exact rfl; exact rfl; (assumption); (exact rfl)) | (apply ef_iaa; exact rfl; exact rfl; exact rfl; (omega); (omega); (first | exact rfl | exact ok_of rfl rfl rfl)) | (apply ef_fap; exact rfl; exact rfl) | (apply ef_build; exact rfl; (repeat (apply XVs.cons; exact rfl)); exact XVs.nil; exact rfl; exact rfl) | (apply ef_bsl; exact rfl; (repeat (apply XVs.cons; exact rfl)); exact XVs.nil; exact rfl) | apply ef_nil | apply seqQ.normal | apply ef_block | apply ef_skip | (apply ef_condt; exact rfl; (exact (rfl : true = true))) | (apply ef_condf; exact rfl; (exact (rfl : false = false))))
          (apply ef_app; (· exact rfl); (· exact rfl); (· exact rfl); (· exact rfl); (· exact rfl); (· exact rfl); (· (simp only [List.length_map]; omega)); (· exact rfl); (· ((show (acc.map encR).length + 1 ≤ 1000000); rw [List.length_map]; omega)); (· exact rfl); (· exact rfl))
          repeat (first | (apply ef_mv; exact rfl; exact rfl) | (apply ef_bin; exact rfl; exact rfl; exact rfl; (((with_reducible refine bin_add (wrap_of ?_ ?_)) <;> omega))) | apply ef_nil | apply seqQ.normal | apply blockQ.normal)
          (refine loopQ.normal _ _ ⟨(i + 1, m + 1, acc ++ [((i : Int), (i : Int))]), ⟨by omega, by simp only; omega, by simp [hm], happ.out (by simp [spStep, h0, hlast, hh])⟩, (by first | (simp only; omega) | omega), by ((repeat (refine Hold.cons (by exact rfl) ?_)); exact Hold.nil), .inr ⟨by ((repeat (refine hdl_cons rfl (by first | rfl | (simp [MV.lt, ltL_I, ltL_R, ltL_app1, splice, MV.cells])) ?_)); exact hdl_nil), by first | rfl | (simp [hltL, ltL, MV.lt, ltL_I, ltL_R, ltL_app1, splice, MV.cells])⟩, by first | exact rfl | (simp only [List.map_append, List.map_set]; exact rfl)⟩)
  · repeat (first | apply ef_seq | (apply ef_mv; exact rfl; exact rfl) | (apply ef_bin; exact rfl; exact rfl; exact rfl; (exact cmp_f rfl (by simp only [cmpP]; omega))) | (apply ef_len; exact rfl; exact rfl; (exact rfl)) | apply ef_nil | apply seqQ.normal | apply loopQ.exit | apply ef_ret | apply ef_exit | apply seqQ.exit | apply blockQ.here | (apply ef_condf; exact rfl; (exact (rfl : false = false))))
    have hac : sp = acc := by rw [hz, List.drop_eq_nil_of_le (by omega)]; rfl
    subst hac hm
    (apply fin_arr; (· exact rfl); (· exact rfl); (· exact rfl); (· exact rfl); (· (simp)); (· exact ltL_R 0 _); (· ((show ((sp.map encR).drop 0).take sp.length = _); rw [List.drop_zero, List.take_of_length_le (by simp)])); (· exact rfl); (· exact rfl); (· exact rfl))

theorem mf_rCopyFixes : MT.mf 79 = some ⟨6, [(.tmp 2)], (.seq (.reg [⟨none, (some 2), (.nil0 3)⟩]) (.seq (.reg [⟨none, (some 3), (.bsl (.agg [(.lit (.int .i64 0)), (.lit (.int .i64 0)), (.lit (.int .i64 0))]) 3 0 [])⟩, ⟨none, (some 4), (.mv (.s 0))⟩, ⟨none, (some 5), (.app 3 (.s 3) (.s 4))⟩, ⟨none, (some 2), (.mv (.s 5))⟩]) .ret))⟩ := by kernel_rfl
theorem rCopyFixes_z (k : Nat) (xs : List Fx) (hx : xs.length ≤ 1000000) : runZ MT (orA k) (itA k) 1000000 79 [.sl (xs.map encX)] [] = some (.arr 0 0 xs.length 0, [⟨0, false, 3, xs.map encX⟩]) := by
  refine runZ_of mf_rCopyFixes (by simp) ?_
  simp only [argsL]
  cases xs with
  | nil =>
    repeat (first | apply ef_seq | (apply ef_mv; exact rfl; exact rfl) | (apply ef_nil0; exact rfl) | (apply ef_bsl; exact rfl; (repeat (apply XVs.cons; exact rfl)); exact XVs.nil; exact rfl) | apply ef_nil | apply seqQ.normal)
    (apply ef_app0; (· exact rfl); (· exact rfl); (· exact rfl); (· exact rfl); (· exact rfl); (· exact rfl); (· exact rfl); (· exact rfl))
    repeat (first | (apply ef_mv; exact rfl; exact rfl) | apply ef_nil | apply seqQ.normal | apply ef_ret)
    (apply fin_arr; (· exact rfl); (· exact rfl); (· exact rfl); (· exact rfl); (· simp); (· exact rfl); (· exact rfl); (· exact rfl); (· exact rfl); (· exact rfl))
  | cons x xs =>
    have hs : ((x :: xs).map encX).all (MV.sOk 3) = true := by
      rw [List.all_eq_true]
      intro m hm
      obtain ⟨⟨a, b, c⟩, _, rfl⟩ := List.mem_map.1 hm
      rfl
    repeat (first | apply ef_seq | (apply ef_mv; exact rfl; exact rfl) | (apply ef_nil0; exact rfl) | (apply ef_bsl; exact rfl; (repeat (apply XVs.cons; exact rfl)); exact XVs.nil; exact rfl) | apply ef_nil | apply seqQ.normal)
    (apply ef_app; (· exact rfl); (· exact rfl); (· exact rfl); (· exact rfl); (· exact rfl); (· exact rfl); (· exact rfl); (· exact rfl); (· (simp at hx ⊢; omega)); (· exact hs); (· exact rfl))
    repeat (first | (apply ef_mv; exact rfl; exact rfl) | apply ef_nil | apply seqQ.normal | apply ef_ret)
    (apply fin_arr; (· exact rfl); (· exact rfl); (· exact rfl); (· exact rfl); (· simp); (· (exact ltL_X 0 (x :: xs))); (· (simp; rw [List.take_of_length_le (by simp)])); (· exact rfl); (· exact rfl); (· (simp)))
theorem pureL_X (xs : List Fx) : pureL (xs.map encX) = true := pureL_lits (fun ⟨_, _, _⟩ => rfl) xs
theorem rCopyFixes_c (k : Nat) (xs : List Fx) (h : MHeap) {v : MV} (hx : xs.length ≤ 1000000) (hv : frz 0 [] h 8 v = some (.sl (xs.map encX))) : orA (k + 1) 79 [v] h = some (.arr h.length 0 xs.length 0, h ++ [⟨0, false, 3, xs.map encX⟩]) := by
  have := callA (k := k) (args := [v]) (args' := [.sl (xs.map encX)]) (h := h) (by simp [List.mapM_cons, hv]) rfl (rCopyFixes_z k xs hx) rfl (by simp [okH, ltL_X, pureL_X])
  simpa [shV, sh1] using this

/-- Two slices of ranges are equal. -/
theorem mf_Ranges : MT.mf 85 = some ⟨26, [(.tmp 4)], (.seq (.reg [⟨none, (some 4), (.mv (.c (.lit (.bool false))))⟩]) (.seq (.seq (.reg [⟨none, (some 6), (.mv (.s 0))⟩, ⟨none, (some 7), (.len (.s 6))⟩, ⟨none, (some 8), (.mv (.s 1))⟩, ⟨none, (some 9), (.len (.s 8))⟩, ⟨none, (some 10), (.bin .neq (.s 7) (.s 9))⟩]) (.cond (.s 10) (.seq (.reg [⟨none, (some 4), (.mv (.c (.lit (.bool false))))⟩]) .ret) .skip)) (.seq (.seq (.reg [⟨none, (some 5), (.mv (.c (.lit (.int .i64 0))))⟩]) (.block 0 (.loop [5, 0, 1] (.seq (.seq (.reg [⟨none, (some 11), (.mv (.s 5))⟩, ⟨none, (some 12), (.mv (.s 0))⟩, ⟨none, (some 13), (.len (.s 12))⟩, ⟨none, (some 14), (.bin .lss (.s 11) (.s 13))⟩]) (.cond (.s 14) .skip (.exit 0))) (.seq (.block 1 (.seq (.reg [⟨none, (some 17), (.mv (.s 0))⟩, ⟨none, (some 18), (.mv (.s 5))⟩, ⟨none, (some 19), (.ia 2 (.s 17) (.s 18))⟩, ⟨none, (some 20), (.ld (some 2) (.s 19))⟩, ⟨none, (some 21), (.mv (.s 1))⟩, ⟨none, (some 22), (.mv (.s 5))⟩, ⟨none, (some 23), (.ia 2 (.s 21) (.s 22))⟩, ⟨none, (some 24), (.ld (some 2) (.s 23))⟩, ⟨none, (some 25), (.eqa 2 true (.s 20) (.s 24))⟩]) (.cond (.s 25) (.seq (.reg [⟨none, (some 4), (.mv (.c (.lit (.bool false))))⟩]) .ret) .skip))) (.reg [⟨none, (some 15), (.mv (.s 5))⟩, ⟨none, (some 16), (.bin .add (.s 15) (.c (.lit (.int .i64 1))))⟩, ⟨none, (some 5), (.mv (.s 16))⟩])))))) (.seq (.reg [⟨none, (some 4), (.mv (.c (.lit (.bool true))))⟩]) .ret))))⟩ := by kernel_rfl
theorem bRanges_z (k : Nat) (xs ys : List (Int × Int)) (hx : xs.length < 1000000) : runZ MT (orA k) (itA k) 1000000 85 [.sl (xs.map encR), .sl (ys.map encR)] [] = some (Bo (xs == ys), []) := by
  have hl1 : (xs.map encR).length = xs.length := by simp
  have hl2 : (ys.map encR).length = ys.length := by simp
  refine runZ_of mf_Ranges (by simp) ?_
  simp only [argsL]
  by_cases hlen : xs.length = ys.length
  · repeat (first | apply ef_seq | (apply ef_mv; exact rfl; exact rfl) | (apply ef_bin; exact rfl; exact rfl; exact rfl; (exact cmp_f rfl (by simp only [cmpP]; omega))) | (apply ef_len; exact rfl; exact rfl; (exact rfl)) | apply ef_nil | apply seqQ.normal | apply ef_block | apply ef_skip | (apply ef_condf; exact rfl; (exact (rfl : false = false))))
    refine ef_loop (α := Nat) (fun i => i ≤ xs.length ∧ (xs == ys) = (xs.drop i == ys.drop i)) (fun i => [(5, I64 (i : Int)), (0, .sl (xs.map encR)), (1, .sl (ys.map encR))]) (fun _ => []) (fun i => xs.length - i) 0 [5, 0, 1] (fun _ => rfl) rfl ⟨by omega, by simp⟩ (by simpa using hx) (by ((repeat (refine Hold.cons (by exact rfl) ?_)); exact Hold.nil)) rfl ?_
    rintro i ⟨hi, hz⟩
    by_cases hlt : i < xs.length
    · have e1 := at_map encR xs i hlt
      have e2 := at_map encR ys i (by omega)
      have HD := Lib.hid (drop_at xs i hlt)
      have HD2 := Lib.hid (drop_at ys i (by omega))
      have HZ := Lib.hid hz
      clear hz
      generalize xs[i] = p at e1 HD
      generalize ys[i] = q at e2 HD2
      obtain ⟨p1, p2⟩ := p
      obtain ⟨q1, q2⟩ := q
      cases hq : negIf true (p1 == q1 && (p2 == q2 && true))
      · repeat (first | apply ef_seq | (apply ef_mv; exact rfl; exact rfl) | (apply ef_bin; exact rfl; exact rfl; exact rfl; (first | exact cmp_t rfl (by first | exact rfl | (simp only [cmpP]; omega)) | ((with_reducible refine bin_add (wrap_of ?_ ?_)) <;> omega))) | (apply ef_len; exact rfl; exact rfl; (exact rfl)) | (apply ef_ldr; exact rfl; exact rfl; (exact rd_2 rfl rfl)) | (apply ef_ias; exact rfl; exact rfl; exact rfl; (omega); assumption; exact rfl) | (apply ef_eqa; exact rfl; exact rfl; exact rfl; exact rfl; exact rfl; exact rfl) | apply ef_nil | apply seqQ.normal | apply blockQ.normal | apply ef_block | apply ef_skip | (apply ef_condt; exact rfl; (exact (rfl : true = true))) | (apply ef_condf; exact rfl; (assumption)))
        (refine loopQ.normal _ _ ⟨i + 1, ⟨hlt, by rw [HZ.out, HD.out, HD2.out]; simp [negIf] at hq; simp [hq]⟩, (by first | (simp only; omega) | omega), by ((repeat (refine Hold.cons (by exact rfl) ?_)); exact Hold.nil), .inl (Nat.le_refl _), (by first | exact List.take_length | exact rfl)⟩)
      · repeat (first | apply ef_seq | (apply ef_mv; exact rfl; exact rfl) | (apply ef_bin; exact rfl; exact rfl; exact rfl; (exact cmp_t rfl (by first | exact rfl | (simp only [cmpP]; omega)))) | (apply ef_len; exact rfl; exact rfl; (exact rfl)) | (apply ef_ldr; exact rfl; exact rfl; (exact rd_2 rfl rfl)) | (apply ef_ias; exact rfl; exact rfl; exact rfl; (omega); assumption; exact rfl) | (apply ef_eqa; exact rfl; exact rfl; exact rfl; exact rfl; exact rfl; exact rfl) | apply ef_nil | apply seqQ.normal | apply loopQ.ret | apply ef_ret | apply seqQ.ret | apply blockQ.ret | apply ef_block | apply ef_skip | (apply ef_condt; exact rfl; (first | exact (rfl : true = true) | assumption)))
        (refine fin1 rfl (by exact rfl) rfl ?_)
        rw [HZ.out, HD.out, HD2.out]
        simp [negIf] at hq
        have hne : ((p1, p2) == (q1, q2)) = false := by
          rw [beq_eq_false_iff_ne]; intro e; cases e; simp at hq
        simp only [List.cons_beq_cons, hne, Bool.false_and]
    · repeat (first | apply ef_seq | (apply ef_mv; exact rfl; exact rfl) | (apply ef_bin; exact rfl; exact rfl; exact rfl; (exact cmp_f rfl (by simp only [cmpP]; omega))) | (apply ef_len; exact rfl; exact rfl; (exact rfl)) | apply ef_nil | apply seqQ.normal | apply loopQ.exit | apply ef_ret | apply ef_exit | apply seqQ.exit | apply blockQ.here | (apply ef_condf; exact rfl; (exact (rfl : false = false))))
      (refine fin1 rfl (by exact rfl) rfl ?_)
      rw [hz, List.drop_eq_nil_of_le (by omega), List.drop_eq_nil_of_le (by omega)]; rfl
  · repeat (first | apply ef_seq | (apply ef_mv; exact rfl; exact rfl) | (apply ef_bin; exact rfl; exact rfl; exact rfl; (exact cmp_t rfl (by first | exact rfl | (simp only [cmpP]; omega)))) | (apply ef_len; exact rfl; exact rfl; (exact rfl)) | apply ef_nil | apply seqQ.normal | apply ef_ret | apply seqQ.ret | (apply ef_condt; exact rfl; (exact (rfl : true = true))))
    (refine fin1 rfl (by exact rfl) rfl ?_)
    have : (xs == ys) = false := by
      rw [beq_eq_false_iff_ne]; exact fun e => hlen (by rw [e])
    rw [this]
theorem bRanges_c (k : Nat) (xs ys : List (Int × Int)) (h : MHeap) {v w : MV} (hx : xs.length < 1000000) (hv : frz 0 [] h 8 v = some (.sl (xs.map encR))) (hw : frz 0 [] h 8 w = some (.sl (ys.map encR))) {t : Bool} (ht : (xs == ys) = t) : orA (k + 1) 85 [v, w] h = some (Bo t, h) :=
  callL (args' := [.sl (xs.map encR), .sl (ys.map encR)]) (by simp [List.mapM_cons, hv, hw]) rfl (by rw [← ht]; exact bRanges_z k xs ys hx)
theorem SpoiltIn_bc (k : Nat) (a b c d e x : Int) (fs : List Fx) (h : MHeap) {v : MV} (hx : fs.length ≤ 1000) (he : fixE ⟨a, b, c, d, e⟩ fs = x) (h0 : x ≠ 0) (hv : frz 0 [] h 8 v = some (.sl (fs.map encX))) : orA (k + 8) 80 [.agg [I64 a, I64 b, I64 c, I64 d, I64 e], v] h = some (.tup [.arr h.length 0 0 0, I64 x], h ++ [⟨0, true, 2, []⟩]) := by
  have := callA (rul_args hv) rfl (SpoiltIn_bad k a b c d e x fs hx he h0) (by simp [okV, ok1, MV.lt, MV.pure]) (by simp [okH, ltL, pureL])
  simpa [shV, sh1] using this
theorem SpoiltIn_gc (k : Nat) (a b c d e : Int) (fs : List Fx) (h : MHeap) {v : MV} (hx : fs.length ≤ 1000) (he : fixE ⟨a, b, c, d, e⟩ fs = 0) (hv : frz 0 [] h 8 v = some (.sl (fs.map encX))) : orA (k + 8) 80 [.agg [I64 a, I64 b, I64 c, I64 d, I64 e], v] h = some (.tup [.arr h.length 0 (spoilt ⟨a, b, c, d, e⟩ fs).length 0, I64 0], h ++ [⟨0, nlN (spoilt ⟨a, b, c, d, e⟩ fs).length, 2, (spoilt ⟨a, b, c, d, e⟩ fs).map encR⟩]) := by
  have := callA (rul_args hv) rfl (SpoiltIn_z k a b c d e fs hx he) (by simp [okV, ok1, MV.lt, MV.pure]) (by simp [okH, ltL_R, pureL_R])
  simpa [shV, sh1] using this
theorem rSpoilt_c (k : Nat) (a b c d e : Int) (fs : List Fx) (h : MHeap) {v : MV} (hx : fs.length ≤ 1000) (he : fixE ⟨a, b, c, d, e⟩ fs = 0) (hv : frz 0 [] h 8 v = some (.sl (fs.map encX))) : orA (k + 8) 86 [.agg [I64 a, I64 b, I64 c, I64 d, I64 e], v] h = some (.arr h.length 0 (spoilt ⟨a, b, c, d, e⟩ fs).length 0, h ++ [⟨0, nlN (spoilt ⟨a, b, c, d, e⟩ fs).length, 2, (spoilt ⟨a, b, c, d, e⟩ fs).map encR⟩]) := by
  have := callA (rul_args hv) rfl (rSpoilt_z k a b c d e fs hx he) (by simp [okV, ok1]) (by simp [okH, ltL_R, pureL_R])
  simpa [shV, sh1] using this
end Go.Proofs.Ytgjpdjihjphbdaa
