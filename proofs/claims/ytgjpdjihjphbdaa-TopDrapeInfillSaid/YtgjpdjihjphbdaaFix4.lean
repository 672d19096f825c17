/- Contracts: spoilt pieces, copies, equal pieces. -/
import Derived.Test.YtgjpdjihjphbdaaFix3
namespace Go.Proofs.Ytgjpdjihjphbdaa
open Go.RowKit

theorem rul_args {h : MHeap} {v : MV} {a b c d e : Int} {es : List MV} (hv : frz 0 [] h 8 v = some (.sl es)) : [.agg [I64 a, I64 b, I64 c, I64 d, I64 e], v].mapM (frz 0 [] h 8) = some [.agg [I64 a, I64 b, I64 c, I64 d, I64 e], .sl es] := by
  simp [List.mapM_cons, hv]; simp [frz, MV.lt, ltL]
theorem ReasonsOf_bc (k : Nat) (a b c d e x : Int) (fs : List Fx) (h : MHeap) {v : MV} (hx : fs.length ≤ 1000) (he : fixE ⟨a, b, c, d, e⟩ fs = x) (h0 : x ≠ 0) (hv : frz 0 [] h 8 v = some (.sl (fs.map encX))) : orA (k + 7) 78 [.agg [I64 a, I64 b, I64 c, I64 d, I64 e], v] h = some (.tup [.arr h.length 0 0 0, I64 x], h ++ [⟨0, true, 1, []⟩]) := by
  have := callA (rul_args hv) rfl (ReasonsOf_bad k a b c d e x fs hx he h0) (by simp [okV, ok1, MV.lt, MV.pure]) (by simp [okH, ltL, pureL])
  simpa [shV, sh1] using this
theorem ReasonsOf_gc (k : Nat) (a b c d e : Int) (fs : List Fx) (h : MHeap) {v : MV} (hx : fs.length ≤ 1000) (he : fixE ⟨a, b, c, d, e⟩ fs = 0) (hv : frz 0 [] h 8 v = some (.sl (fs.map encX))) : orA (k + 7) 78 [.agg [I64 a, I64 b, I64 c, I64 d, I64 e], v] h = some (.tup [.arr h.length 0 fs.length 0, I64 0], h ++ [⟨0, nlN fs.length, 1, (reasonsL ⟨a, b, c, d, e⟩ fs).map I64⟩]) := by
  have := callA (rul_args hv) rfl (ReasonsOf_z k a b c d e fs hx he) (by simp [okV, ok1, MV.lt, MV.pure]) (by simp [okH, ltL_I, pureL_I])
  simpa [shV, sh1] using this
theorem rReasons_c (k : Nat) (a b c d e : Int) (fs : List Fx) (h : MHeap) {v : MV} (hx : fs.length ≤ 1000) (he : fixE ⟨a, b, c, d, e⟩ fs = 0) (hv : frz 0 [] h 8 v = some (.sl (fs.map encX))) : orA (k + 7) 84 [.agg [I64 a, I64 b, I64 c, I64 d, I64 e], v] h = some (.arr h.length 0 fs.length 0, h ++ [⟨0, nlN fs.length, 1, (reasonsL ⟨a, b, c, d, e⟩ fs).map I64⟩]) := by
  have := callA (rul_args hv) rfl (rReasons_z k a b c d e fs hx he) (by simp [okV, ok1]) (by simp [okH, ltL_I, pureL_I])
  simpa [shV, sh1] using this

theorem ltL_appR (n : Nat) (acc : List (Int × Int)) (x y : Int) : ltL n (acc.map encR ++ [.agg [I64 x, I64 y]]) = true := by
  rw [show acc.map encR ++ [.agg [I64 x, I64 y]] = (acc ++ [(x, y)]).map encR by simp [encR]]; exact ltL_R n _
theorem ltL_setR (n : Nat) (acc : List (Int × Int)) (k : Nat) (x y : Int) : ltL n ((acc.map encR).set k (.agg [I64 x, I64 y])) = true := by
  rw [show (acc.map encR).set k (.agg [I64 x, I64 y]) = (acc.set k (x, y)).map encR by rw [List.map_set]; rfl]; exact ltL_R n _
theorem last_set {α : Type} {acc : List α} {p q : α} (h : acc.getLast? = some p) : acc.set (0 + ((acc.length : Int) - 1).toNat) q = acc.dropLast ++ [q] := by
  rcases List.eq_nil_or_concat acc with rfl | ⟨l, x, rfl⟩
  · cases h
  · simp
theorem last_at {α : Type} {acc : List α} {p : α} (h : acc.getLast? = some p) (f : α → MV) : (acc.map f)[0 + ((acc.length : Int) - 1).toNat]? = some (f p) := by
  rcases List.eq_nil_or_concat acc with rfl | ⟨l, x, rfl⟩
  · cases h
  · simp at h; subst h; simp

theorem mf_SpoiltIn : MT.mf 80 = some ⟨59, [(.tmp 4), (.tmp 5)], (.seq (.reg [⟨none, (some 2), (.box 5 (.s 0))⟩, ⟨none, (some 4), (.nil0 2)⟩, ⟨none, (some 5), (.mv (.c (.lit (.int .i64 0))))⟩]) (.seq (.reg [⟨none, (some 13), (.ld (some 5) (.s 2))⟩, ⟨none, (some 14), (.mv (.s 1))⟩, ⟨none, (some 15), (.call 78 [(.s 13), (.s 14)])⟩, ⟨none, (some 12), (.mv (.s 15))⟩, ⟨none, (some 16), (.ext (.s 12) 0)⟩, ⟨none, (some 17), (.ext (.s 12) 1)⟩, ⟨none, (some 6), (.mv (.s 16))⟩, ⟨none, (some 7), (.mv (.s 17))⟩]) (.seq (.seq (.reg [⟨none, (some 18), (.mv (.s 7))⟩, ⟨none, (some 19), (.bin .neq (.s 18) (.c (.lit (.int .i64 0))))⟩]) (.cond (.s 19) (.seq (.reg [⟨none, (some 20), (.mv (.s 7))⟩, ⟨none, (some 4), (.nil0 2)⟩, ⟨none, (some 5), (.mv (.s 20))⟩]) .ret) .skip)) (.seq (.reg [⟨none, (some 8), (.nil0 2)⟩]) (.seq (.seq (.reg [⟨none, (some 21), (.mv (.s 6))⟩, ⟨none, (some 22), (.len (.s 21))⟩, ⟨none, (some 23), (.mv (.c (.lit (.int .i64 0))))⟩]) (.block 0 (.loop [23, 22, 21, 8] (.seq (.reg [⟨none, (some 24), (.bin .lss (.s 23) (.s 22))⟩]) (.seq (.cond (.s 24) .skip (.exit 0)) (.seq (.block 1 (.seq (.reg [⟨none, (some 25), (.mv (.s 23))⟩, ⟨none, (some 26), (.ia 1 (.s 21) (.s 23))⟩, ⟨none, (some 27), (.ld none (.s 26))⟩, ⟨none, (some 9), (.mv (.s 25))⟩, ⟨none, (some 10), (.mv (.s 27))⟩]) (.seq (.seq (.reg [⟨none, (some 28), (.mv (.s 10))⟩, ⟨none, (some 29), (.bin .eql (.s 28) (.c (.lit (.int .i64 0))))⟩]) (.cond (.s 29) (.exit 1) .skip)) (.seq (.reg [⟨none, (some 30), (.mv (.s 8))⟩, ⟨none, (some 31), (.len (.s 30))⟩, ⟨none, (some 11), (.mv (.s 31))⟩]) (.seq (.reg [⟨none, (some 32), (.mv (.s 11))⟩, ⟨none, (some 33), (.bin .gtr (.s 32) (.c (.lit (.int .i64 0))))⟩, ⟨none, (some 34), (.mv (.s 33))⟩, ⟨(some (34, true)), (some 35), (.mv (.s 8))⟩, ⟨(some (34, true)), (some 36), (.mv (.s 11))⟩, ⟨(some (34, true)), (some 37), (.bin .sub (.s 36) (.c (.lit (.int .i64 1))))⟩, ⟨(some (34, true)), (some 38), (.ia 2 (.s 35) (.s 37))⟩, ⟨(some (34, true)), (some 39), (.fa 1 (.s 38))⟩, ⟨(some (34, true)), (some 40), (.ld none (.s 39))⟩, ⟨(some (34, true)), (some 41), (.mv (.s 9))⟩, ⟨(some (34, true)), (some 42), (.bin .sub (.s 41) (.c (.lit (.int .i64 1))))⟩, ⟨(some (34, true)), (some 43), (.bin .eql (.s 40) (.s 42))⟩, ⟨none, (some 44), (.pick (.s 34) (.s 43) (.c (.lit (.bool false))))⟩]) (.cond (.s 44) (.reg [⟨none, (some 45), (.mv (.s 8))⟩, ⟨none, (some 46), (.mv (.s 11))⟩, ⟨none, (some 47), (.bin .sub (.s 46) (.c (.lit (.int .i64 1))))⟩, ⟨none, (some 48), (.mv (.s 9))⟩, ⟨none, (some 49), (.ia 2 (.s 45) (.s 47))⟩, ⟨none, (some 50), (.fa 1 (.s 49))⟩, ⟨none, none, (.st 1 (.s 50) (.s 48))⟩]) (.reg [⟨none, (some 51), (.mv (.s 8))⟩, ⟨none, (some 52), (.mv (.s 9))⟩, ⟨none, (some 53), (.mv (.s 9))⟩, ⟨none, (some 54), (.build [(.lit (.int .i64 0)), (.lit (.int .i64 0))] [(0, (1, (.s 52))), (1, (1, (.s 53)))])⟩, ⟨none, (some 55), (.bsl (.agg [(.lit (.int .i64 0)), (.lit (.int .i64 0))]) 2 1 [(0, (.s 54))])⟩, ⟨none, (some 56), (.app 2 (.s 51) (.s 55))⟩, ⟨none, (some 8), (.mv (.s 56))⟩]))))))) (.reg [⟨none, (some 57), (.bin .add (.s 23) (.c (.lit (.int .i64 1))))⟩, ⟨none, (some 23), (.mv (.s 57))⟩]))))))) (.seq (.reg [⟨none, (some 58), (.mv (.s 8))⟩, ⟨none, (some 4), (.mv (.s 58))⟩, ⟨none, (some 5), (.mv (.c (.lit (.int .i64 0))))⟩]) .ret))))))⟩ := by kernel_rfl
theorem SpoiltIn_bad (k : Nat) (a b c d e x : Int) (fs : List Fx) (hx : fs.length ≤ 1000) (he : fixE ⟨a, b, c, d, e⟩ fs = x) (h0 : x ≠ 0) : runZ MT (orA (k + 7)) (itA (k + 7)) 1000000 80 [.agg [I64 a, I64 b, I64 c, I64 d, I64 e], .sl (fs.map encX)] [] = some (.tup [.arr 0 0 0 0, I64 x], [⟨0, true, 2, []⟩]) := by
  refine runZ_of mf_SpoiltIn (by simp) ?_
  simp only [argsL]
  have hr := fun h => ReasonsOf_bc k a b c d e x fs h (v := .sl (fs.map encX)) hx he h0 (frz_sl (ltL_X 0 fs))
  repeat (first | apply ef_seq | (apply ef_mv; exact rfl; exact rfl) | (apply ef_ldp; exact rfl; exact rfl; exact rfl; exact rfl; (exact rfl); (exact rd_5 rfl rfl rfl rfl rfl)) | (apply ef_box; exact rfl; exact rfl; exact rfl; exact rfl) | (apply ef_nil0; exact rfl) | apply ef_nil | apply seqQ.normal)
  (apply ef_call; exact rfl; ((repeat (apply XVs.cons; exact rfl)); exact XVs.nil); exact hr _)
  repeat (first | apply ef_seq | (apply ef_mv; exact rfl; exact rfl) | (apply ef_bin; exact rfl; exact rfl; exact rfl; (exact cmp_t rfl (by first | exact rfl | (simp only [cmpP]; omega)))) | (apply ef_ext; exact rfl; exact rfl; exact rfl) | (apply ef_nil0; exact rfl) | apply ef_nil | apply seqQ.normal | apply ef_ret | apply seqQ.ret | (apply ef_condt; exact rfl; (exact (rfl : true = true))))
  (apply fin_al; (· exact rfl); (· exact rfl); (· exact rfl); (· exact rfl); (· exact rfl); (· exact rfl); (· exact rfl); (· exact rfl); (· exact rfl); (· exact rfl))
def spoilt (r : Ru) (fs : List Fx) : List (Int × Int) := spoiltF [] 0 (reasonsL r fs)

set_option maxHeartbeats 4000000 in
theorem SpoiltIn_z (k : Nat) (a b c d e : Int) (fs : List Fx) (hx : fs.length ≤ 1000) (he : fixE ⟨a, b, c, d, e⟩ fs = 0) : runZ MT (orA (k + 7)) (itA (k + 7)) 1000000 80 [.agg [I64 a, I64 b, I64 c, I64 d, I64 e], .sl (fs.map encX)] [] =
    some (.tup [.arr 0 0 (spoilt ⟨a, b, c, d, e⟩ fs).length 0, I64 0], [⟨0, nlN (spoilt ⟨a, b, c, d, e⟩ fs).length, 2, (spoilt ⟨a, b, c, d, e⟩ fs).map encR⟩]) := by
  refine runZ_of mf_SpoiltIn (by simp) ?_
  simp only [argsL]
  have hr := fun h => ReasonsOf_gc k a b c d e fs h (v := .sl (fs.map encX)) hx he (frz_sl (ltL_X 0 fs))
  have hrl : (reasonsL ⟨a, b, c, d, e⟩ fs).length = fs.length := by simp [reasonsL]
  have hsp : spoilt ⟨a, b, c, d, e⟩ fs = spoiltF [] 0 (reasonsL ⟨a, b, c, d, e⟩ fs) := rfl
  generalize spoilt ⟨a, b, c, d, e⟩ fs = sp at hsp
  generalize reasonsL ⟨a, b, c, d, e⟩ fs = xs at hr hrl hsp
  repeat (first | apply ef_seq | (apply ef_mv; exact rfl; exact rfl) | (apply ef_ldp; exact rfl; exact rfl; exact rfl; exact rfl; (exact rfl); (exact rd_5 rfl rfl rfl rfl rfl)) | (apply ef_box; exact rfl; exact rfl; exact rfl; exact rfl) | (apply ef_nil0; exact rfl) | apply ef_nil | apply seqQ.normal)
  (apply ef_call; exact rfl; ((repeat (apply XVs.cons; exact rfl)); exact XVs.nil); exact hr _)
  repeat (first | apply ef_seq | (apply ef_mv; exact rfl; exact rfl) | (apply ef_bin; exact rfl; exact rfl; exact rfl; (exact cmp_f rfl (by simp only [cmpP]; omega))) | (apply ef_len; exact rfl; exact rfl; (exact rfl)) | (apply ef_ext; exact rfl; exact rfl; exact rfl) | (apply ef_nil0; exact rfl) | apply ef_nil | apply seqQ.normal | apply ef_block | apply ef_skip | (apply ef_condf; exact rfl; (exact (rfl : false = false))))
  refine ef_loop (α := Nat × Nat × List (Int × Int)) (fun s => s.1 ≤ xs.length ∧ s.2.1 ≤ s.1 ∧ s.2.2.length = s.2.1 ∧ sp = spoiltF s.2.2 s.1 (xs.drop s.1))
    (fun s => [(23, I64 (s.1 : Int)), (22, I64 (fs.length : Int)), (21, .arr 2 0 fs.length 0), (8, .arr 3 0 s.2.1 s.2.1)])
    (fun s => [⟨0, false, 5, [.agg [I64 a, I64 b, I64 c, I64 d, I64 e]]⟩, ⟨0, true, 2, []⟩, ⟨0, nlN fs.length, 1, xs.map I64⟩, ⟨s.2.1, nlN s.2.1, 2, s.2.2.map encR⟩]) (fun s => fs.length - s.1)
    (0, 0, []) [23, 22, 21, 8] (fun _ => rfl) rfl ⟨by omega, by simp, rfl, by simpa using hsp⟩ (by simp only; omega) (by ((repeat (refine Hold.cons (by exact rfl) ?_)); exact Hold.nil)) rfl ?_
  rintro ⟨i, m, acc⟩ ⟨hi, hal, hm, hz⟩
  simp only at hi hal hm hz ⊢
  by_cases hlt : i < fs.length
  · have e1 := at_I (xs := xs) (k := i) (v := xs[i]) (j := (i : Int)) (by simp) rfl
    have HD := Lib.hid (drop_at xs i (by omega))
    have HS := Lib.hid (show sp = spoiltF (spStep acc i xs[i]) (i + 1) (xs.drop (i + 1)) by rw [hz, HD.out]; rfl)
    clear hz hsp HD
    generalize xs[i] = x at e1 HS
    by_cases h0 : x = 0
    · subst h0
      repeat (first | apply ef_seq | (apply ef_mv; exact rfl; exact rfl) | (apply ef_bin; exact rfl; exact rfl; exact rfl; (first | exact cmp_t rfl (by first | exact rfl | (simp only [cmpP]; omega)) | ((with_reducible refine bin_add (wrap_of ?_ ?_)) <;> omega))) | (apply ef_ldp; exact rfl; exact rfl; exact rfl; exact rfl; (assumption); (exact rfl)) | (apply ef_iaa; exact rfl; exact rfl; exact rfl; (omega); (omega); (exact rfl)) | apply ef_nil | apply seqQ.normal | apply ef_exit | apply seqQ.exit | apply blockQ.here | apply ef_block | apply ef_skip | (apply ef_condt; exact rfl; (exact (rfl : true = true))))
      (refine loopQ.normal _ _ ⟨(i + 1, m, acc), ⟨by omega, by simp only; omega, hm, by rw [HS.out]; rfl⟩, (by first | (simp only; omega) | omega), by ((repeat (refine Hold.cons (by exact rfl) ?_)); exact Hold.nil), .inl (Nat.le_refl _), (by first | exact List.take_length | exact rfl)⟩)
    · have happ := Lib.hid (fun hh : spStep acc i x = acc ++ [((i : Int), (i : Int))] => (show sp = spoiltF (acc ++ [((i : Int), (i : Int))]) (i + 1) (xs.drop (i + 1)) by rw [HS.out, hh]))
      cases hlast : acc.getLast? with
      | none =>
        have hnil : m = 0 := by rw [← hm]; simpa using hlast
        repeat (first | apply ef_seq | (apply ef_mv; exact rfl; exact rfl) | (apply ef_bin; exact rfl; exact rfl; exact rfl; (first | exact cmp_t rfl (by first | exact rfl | (simp only [cmpP]; omega)) | exact cmp_f rfl (by simp only [cmpP]; omega))) | (apply ef_gn; exact rfl; (exact (rfl : false = false)); exact rfl) | (apply ef_pick; exact rfl; exact rfl; exact rfl) | (apply ef_len; exact rfl; exact rfl; (exact rfl)) | (apply ef_ldp; exact rfl; exact rfl; exact rfl; exact rfl; (assumption); (exact rfl)) | (apply ef_iaa; exact rfl; exact rfl; exact rfl; (omega); (omega); (exact rfl)) | (apply ef_build; exact rfl; (repeat (apply XVs.cons; exact rfl)); exact XVs.nil; exact rfl; exact rfl) | (apply ef_bsl; exact rfl; (repeat (apply XVs.cons; exact rfl)); exact XVs.nil; exact rfl) | apply ef_nil | apply seqQ.normal | apply ef_block | apply ef_skip | (apply ef_condt; exact rfl; (exact (rfl : true = true))) | (apply ef_condf; exact rfl; (exact (rfl : false = false))))
        (apply ef_app; (· exact rfl); (· exact rfl); (· exact rfl); (· exact rfl); (· exact rfl); (· exact rfl); (· (simp only [List.length_map]; omega)); (· exact rfl); (· ((show (acc.map encR).length + 1 ≤ 1000000); rw [List.length_map]; omega)); (· exact rfl); (· exact rfl))
        repeat (first | (apply ef_mv; exact rfl; exact rfl) | (apply ef_bin; exact rfl; exact rfl; exact rfl; (((with_reducible refine bin_add (wrap_of ?_ ?_)) <;> omega))) | apply ef_nil | apply seqQ.normal | apply blockQ.normal)
        (refine loopQ.normal _ _ ⟨(i + 1, m + 1, acc ++ [((i : Int), (i : Int))]), ⟨by omega, by simp only; omega, by simp [hm], happ.out (by simp [spStep, h0, hlast])⟩, (by first | (simp only; omega) | omega), by ((repeat (refine Hold.cons (by exact rfl) ?_)); exact Hold.nil), .inr ⟨by ((repeat (refine hdl_cons rfl (by first | rfl | (simp [MV.lt, ltL_I, ltL_R, ltL_app1, splice, MV.cells])) ?_)); exact hdl_nil), by first | rfl | (simp [hltL, ltL, MV.lt, ltL_I, ltL_R, ltL_app1, splice, MV.cells])⟩, by first | exact rfl | (simp only [List.map_append, List.map_set]; exact rfl)⟩)
      | some p =>
        obtain ⟨lo, hi'⟩ := p
        have hpos : 0 < m := by
          cases acc with
          | nil => cases hlast
          | cons _ _ => rw [← hm]; simp
        have e2 := last_at hlast encR
        simp only [encR] at e2
        rw [hm] at e2
        by_cases hh : hi' = (i : Int) - 1
        · repeat (first | apply ef_seq | (apply ef_mv; exact rfl; exact rfl) | (apply ef_bin; exact rfl; exact rfl; exact rfl; (first | exact cmp_t rfl (by first | exact rfl | (simp only [cmpP]; omega)) | exact cmp_f rfl (by simp only [cmpP]; omega) | ((with_reducible refine bin_add (wrap_of ?_ ?_)) <;> omega) | ((with_reducible refine bin_sub (wrap_of ?_ ?_)) <;> omega))) | (apply ef_gy; exact rfl; (exact (rfl : true = true))) | (apply ef_pick; exact rfl; exact rfl; exact rfl) | (apply ef_len; exact rfl; exact rfl; (exact rfl)) | (apply ef_ldp; exact rfl; exact rfl; exact rfl; exact rfl; (assumption); (exact rfl)) | (apply ef_iaa; exact rfl; exact rfl; exact rfl; (omega); (omega); (first | exact rfl | exact ok_of rfl rfl rfl)) | (apply ef_fap; exact rfl; exact rfl) | (apply ef_st; exact rfl; exact rfl; exact rfl; exact rfl; exact rfl; exact rfl; (assumption); exact rfl) | apply ef_nil | apply seqQ.normal | apply blockQ.normal | apply ef_block | apply ef_skip | (apply ef_condt; exact rfl; (exact (rfl : true = true))) | (apply ef_condf; exact rfl; (exact (rfl : false = false))))
          (refine loopQ.normal _ _ ⟨(i + 1, m, acc.set (0 + ((m : Int) - 1).toNat) (lo, (i : Int))), ⟨by omega, by simp only; omega, by simp only [List.length_set]; exact hm, by rw [HS.out, ← hm, last_set hlast]; simp [spStep, h0, hlast, hh]⟩, (by first | (simp only; omega) | omega), by ((repeat (refine Hold.cons (by exact rfl) ?_)); exact Hold.nil), .inr ⟨by ((repeat (refine hdl_cons rfl (by first | rfl | (simp [MV.lt, ltL_I, ltL_R, ltL_setR, splice, MV.cells])) ?_)); exact hdl_nil), by first | rfl | (simp [hltL, ltL, MV.lt, ltL_I, ltL_R, ltL_setR, splice, MV.cells])⟩, by first | exact rfl | (simp only [List.map_append, List.map_set]; exact rfl)⟩)
        · repeat (first | apply ef_seq | (apply ef_mv; exact rfl; exact rfl) | (apply ef_bin; exact rfl; exact rfl; exact rfl; (first | exact cmp_t rfl (by first | exact rfl | (simp only [cmpP]; omega)) | exact cmp_f rfl (by simp only [cmpP]; omega) | ((with_reducible refine bin_sub (wrap_of ?_ ?_)) <;> omega))) | (apply ef_gy; exact rfl; (exact (rfl : true = true))) | (apply ef_pick; exact rfl; exact rfl; exact rfl) | (apply ef_len; exact rfl; exact rfl; (exact rfl)) | (apply ef_ldp; exact rfl; exact rfl; exact rfl; exact rfl; (assumption); (exact rfl)) | (apply ef_iaa; exact rfl; exact rfl; exact rfl; (omega); (omega); (first | exact rfl | exact ok_of rfl rfl rfl)) | (apply ef_fap; exact rfl; exact rfl) | (apply ef_build; exact rfl; (repeat (apply XVs.cons; exact rfl)); exact XVs.nil; exact rfl; exact rfl) | (apply ef_bsl; exact rfl; (repeat (apply XVs.cons; exact rfl)); exact XVs.nil; exact rfl) | apply ef_nil | apply seqQ.normal | apply ef_block | apply ef_skip | (apply ef_condt; exact rfl; (exact (rfl : true = true))) | (apply ef_condf; exact rfl; (exact (rfl : false = false))))
          (apply ef_app; (· exact rfl); (· exact rfl); (· exact rfl); (· exact rfl); (· exact rfl); (· exact rfl); (· (simp only [List.length_map]; omega)); (· exact rfl); (· ((show (acc.map encR).length + 1 ≤ 1000000); rw [List.length_map]; omega)); (· exact rfl); (· exact rfl))
          repeat (first | (apply ef_mv; exact rfl; exact rfl) | (apply ef_bin; exact rfl; exact rfl; exact rfl; (((with_reducible refine bin_add (wrap_of ?_ ?_)) <;> omega))) | apply ef_nil | apply seqQ.normal | apply blockQ.normal)
          (refine loopQ.normal _ _ ⟨(i + 1, m + 1, acc ++ [((i : Int), (i : Int))]), ⟨by omega, by simp only; omega, by simp [hm], happ.out (by simp [spStep, h0, hlast, hh])⟩, (by first | (simp only; omega) | omega), by ((repeat (refine Hold.cons (by exact rfl) ?_)); exact Hold.nil), .inr ⟨by ((repeat (refine hdl_cons rfl (by first | rfl | (simp [MV.lt, ltL_I, ltL_R, ltL_app1, splice, MV.cells])) ?_)); exact hdl_nil), by first | rfl | (simp [hltL, ltL, MV.lt, ltL_I, ltL_R, ltL_app1, splice, MV.cells])⟩, by first | exact rfl | (simp only [List.map_append, List.map_set]; exact rfl)⟩)
  · repeat (first | apply ef_seq | (apply ef_mv; exact rfl; exact rfl) | (apply ef_bin; exact rfl; exact rfl; exact rfl; (exact cmp_f rfl (by simp only [cmpP]; omega))) | apply ef_nil | apply seqQ.normal | apply loopQ.exit | apply ef_ret | apply ef_exit | apply seqQ.exit | apply blockQ.here | (apply ef_condf; exact rfl; (exact (rfl : false = false))))
    have hac : sp = acc := by rw [hz, List.drop_eq_nil_of_le (by omega)]; rfl
    subst hac hm
    (apply fin_al; (· exact rfl); (· exact rfl); (· exact rfl); (· exact rfl); (· exact rfl); (· simp); (· exact ltL_R 0 _); (· exact rfl); (· exact rfl); (· exact rfl))
end Go.Proofs.Ytgjpdjihjphbdaa
