/- Contracts of the program: the words of chapter 1. -/
import Derived.Test.YtgjpdjihjphbdaaGr2
namespace Go.Proofs.Ytgjpdjihjphbdaa
open Go.RowKit

theorem mf_pwithin : MT.mf 129 = some ⟨15, [(.tmp 6)], (.seq (.reg [⟨none, (some 6), (.mv (.c (.lit (.bool false))))⟩]) (.seq (.reg [⟨none, (some 7), (.mv (.s 1))⟩, ⟨none, (some 8), (.mv (.s 0))⟩, ⟨none, (some 9), (.bin .leq (.s 7) (.s 8))⟩, ⟨none, (some 10), (.mv (.s 9))⟩, ⟨(some (10, true)), (some 11), (.mv (.s 0))⟩, ⟨(some (10, true)), (some 12), (.mv (.s 2))⟩, ⟨(some (10, true)), (some 13), (.bin .leq (.s 11) (.s 12))⟩, ⟨none, (some 14), (.pick (.s 10) (.s 13) (.c (.lit (.bool false))))⟩, ⟨none, (some 6), (.mv (.s 14))⟩]) .ret))⟩ := by kernel_rfl
theorem within_c (k : Nat) (a b c : Int) (h : MHeap) {t : Bool} (ht : inB a b c = t) : orA (k + 1) 129 [I64 a, I64 b, I64 c] h = some (Bo t, h) := by
  refine callL (frz_lits [.int .i64 a, .int .i64 b, .int .i64 c]) rfl (runZ_of mf_pwithin (by simp) ?_)
  simp only [argsL, List.map_cons, List.map_nil]
  by_cases h1 : b ≤ a
  all_goals repeat (first | apply ef_seq | (apply ef_mv; exact rfl; exact rfl) | (apply ef_bin; exact rfl; exact rfl; exact rfl; (first | exact cmp_t rfl (by first | exact rfl | (simp only [cmpP]; omega)) | exact cmp_f rfl (by simp only [cmpP]; omega) | exact rfl)) | (apply ef_gy; exact rfl; (exact (rfl : true = true))) | (apply ef_gn; exact rfl; (exact (rfl : false = false)); exact rfl) | (apply ef_pick; exact rfl; exact rfl; exact rfl) | apply ef_nil | apply seqQ.normal | apply ef_ret)
  · (refine fin1 rfl (by exact rfl) rfl ?_)
    simp [inB, h1] at ht; simp [← ht]
  · (refine fin1 rfl (by exact rfl) rfl ?_)
    simp [inB, h1] at ht; simp [← ht]

theorem mf_unless : MT.mf 93 = some ⟨7, [(.tmp 4)], (.seq (.reg [⟨none, (some 4), (.mv (.c (.lit (.int .i64 0))))⟩]) (.seq (.seq (.reg [⟨none, (some 5), (.mv (.s 0))⟩]) (.cond (.s 5) (.seq (.reg [⟨none, (some 4), (.mv (.c (.lit (.int .i64 0))))⟩]) .ret) .skip)) (.seq (.reg [⟨none, (some 6), (.mv (.s 1))⟩, ⟨none, (some 4), (.mv (.s 6))⟩]) .ret)))⟩ := by kernel_rfl
theorem unless_c (k : Nat) (b : Bool) (n : Int) (h : MHeap) {e : Int} (he : unl b n = e) : orA (k + 1) 93 [Bo b, I64 n] h = some (I64 e, h) := by
  subst he
  refine callL (frz_lits [.bool b, .int .i64 n]) rfl (runZ_of mf_unless (by simp) ?_)
  simp only [argsL, List.map_cons, List.map_nil]
  cases b
  all_goals repeat (first | apply ef_seq | (apply ef_mv; exact rfl; exact rfl) | apply ef_nil | apply seqQ.normal | apply ef_ret | apply seqQ.ret | apply ef_skip | (apply ef_condt; exact rfl; (exact (rfl : true = true))) | (apply ef_condf; exact rfl; (exact (rfl : false = false))))
  all_goals (refine fin1 rfl (by exact rfl) rfl ?_)
  all_goals rfl

theorem mf_first : MT.mf 92 = some ⟨15, [(.tmp 2)], (.seq (.reg [⟨none, (some 2), (.mv (.c (.lit (.int .i64 0))))⟩]) (.seq (.seq (.reg [⟨none, (some 5), (.mv (.s 0))⟩, ⟨none, (some 6), (.len (.s 5))⟩, ⟨none, (some 7), (.mv (.c (.lit (.int .i64 0))))⟩]) (.block 0 (.loop [7, 6, 5] (.seq (.reg [⟨none, (some 8), (.bin .lss (.s 7) (.s 6))⟩]) (.seq (.cond (.s 8) .skip (.exit 0)) (.seq (.block 1 (.seq (.reg [⟨none, (some 9), (.ia 1 (.s 5) (.s 7))⟩, ⟨none, (some 10), (.ld none (.s 9))⟩, ⟨none, (some 4), (.mv (.s 10))⟩]) (.seq (.reg [⟨none, (some 11), (.mv (.s 4))⟩, ⟨none, (some 12), (.bin .neq (.s 11) (.c (.lit (.int .i64 0))))⟩]) (.cond (.s 12) (.seq (.reg [⟨none, (some 13), (.mv (.s 4))⟩, ⟨none, (some 2), (.mv (.s 13))⟩]) .ret) .skip)))) (.reg [⟨none, (some 14), (.bin .add (.s 7) (.c (.lit (.int .i64 1))))⟩, ⟨none, (some 7), (.mv (.s 14))⟩]))))))) (.seq (.reg [⟨none, (some 2), (.mv (.c (.lit (.int .i64 0))))⟩]) .ret)))⟩ := by kernel_rfl
theorem first_z (k : Nat) (xs : List Int) (hx : xs.length ≤ 1000) : runZ MT (orA k) (itA k) 1000000 92 [.sl (xs.map I64)] [] = some (I64 (firstE xs), []) := by
  have hl : (MV.sl (xs.map I64)).slen = some xs.length := by simp [MV.slen]
  refine runZ_of mf_first (by simp) ?_
  simp only [argsL]
  repeat (first | apply ef_seq | (apply ef_mv; exact rfl; exact rfl) | (apply ef_len; exact rfl; exact rfl; (assumption)) | apply ef_nil | apply seqQ.normal | apply ef_block)
  refine ef_loop (α := Nat) (fun i => i ≤ xs.length ∧ firstE xs = firstE (xs.drop i)) (fun i => [(7, I64 (i : Int)), (6, I64 (xs.length : Int)), (5, .sl (xs.map I64))]) (fun _ => []) (fun i => xs.length - i) 0 [7, 6, 5] (fun _ => rfl) rfl ⟨by omega, rfl⟩ (by simp; omega) (by ((repeat (refine Hold.cons (by exact rfl) ?_)); exact Hold.nil)) rfl ?_
  rintro i ⟨hi, hz⟩
  by_cases hlt : i < xs.length
  · have e1 := at_map I64 xs i hlt
    have HD := Lib.hid (drop_at xs i hlt)
    have HZ := Lib.hid hz
    clear hz
    generalize xs[i] = x at e1 HD
    by_cases h0 : x = 0
    · subst h0
      repeat (first | apply ef_seq | (apply ef_mv; exact rfl; exact rfl) | (apply ef_bin; exact rfl; exact rfl; exact rfl; (first | exact cmp_t rfl (by first | exact rfl | (simp only [cmpP]; omega)) | exact cmp_f rfl (by simp only [cmpP]; omega) | ((with_reducible refine bin_add (wrap_of ?_ ?_)) <;> omega))) | (apply ef_ldr; exact rfl; exact rfl; (exact rfl)) | (apply ef_ias; exact rfl; exact rfl; exact rfl; (omega); assumption; exact rfl) | apply ef_nil | apply seqQ.normal | apply blockQ.normal | apply ef_block | apply ef_skip | (apply ef_condt; exact rfl; (exact (rfl : true = true))) | (apply ef_condf; exact rfl; (exact (rfl : false = false))))
      (refine loopQ.normal _ _ ⟨i + 1, ⟨hlt, by rw [HZ.out, HD.out]; simp [firstE]⟩, (by first | (simp only; omega) | omega), by ((repeat (refine Hold.cons (by exact rfl) ?_)); exact Hold.nil), .inl (Nat.le_refl _), (by first | exact List.take_length | exact rfl)⟩)
    · repeat (first | apply ef_seq | (apply ef_mv; exact rfl; exact rfl) | (apply ef_bin; exact rfl; exact rfl; exact rfl; (exact cmp_t rfl (by first | exact rfl | (simp only [cmpP]; omega)))) | (apply ef_ldr; exact rfl; exact rfl; (exact rfl)) | (apply ef_ias; exact rfl; exact rfl; exact rfl; (omega); assumption; exact rfl) | apply ef_nil | apply seqQ.normal | apply loopQ.ret | apply ef_ret | apply seqQ.ret | apply blockQ.ret | apply ef_block | apply ef_skip | (apply ef_condt; exact rfl; (exact (rfl : true = true))))
      (refine fin1 rfl (by exact rfl) rfl ?_)
      rw [HZ.out, HD.out]; simp [firstE, h0]
  · repeat (first | apply ef_seq | (apply ef_mv; exact rfl; exact rfl) | (apply ef_bin; exact rfl; exact rfl; exact rfl; (exact cmp_f rfl (by simp only [cmpP]; omega))) | apply ef_nil | apply seqQ.normal | apply loopQ.exit | apply ef_ret | apply ef_exit | apply seqQ.exit | apply blockQ.here | (apply ef_condf; exact rfl; (exact (rfl : false = false))))
    (refine fin1 rfl (by exact rfl) rfl ?_)
    rw [hz, List.drop_eq_nil_of_le (by omega)]; rfl
theorem first_c (k : Nat) (xs : List Int) (h : MHeap) {v : MV} {e : Int} (hv : frz 0 [] h 8 v = some (.sl (xs.map I64))) (he : firstE xs = e) (hx : xs.length ≤ 1000 := by simp) : orA (k + 1) 92 [v] h = some (I64 e, h) :=
  callL (args' := [.sl (xs.map I64)]) (by simp [List.mapM_cons, hv]) rfl (by rw [← he]; exact first_z k xs hx)

theorem first2_c {k id : Nat} {a0 a1 e : Int} {h : MHeap} {o : MObj} (ho : h[id]? = some o) (hg : o.g = 0) (hes : o.es = [I64 a0, I64 a1]) (he : firstE [a0, a1] = e) : orA (k + 1) 92 [.arr id 0 2 0] h = some (I64 e, h) :=
  first_c k [a0, a1] h (fz_arr ho hg rfl rfl hes).now he
theorem first3_c {k id : Nat} {a0 a1 a2 e : Int} {h : MHeap} {o : MObj} (ho : h[id]? = some o) (hg : o.g = 0) (hes : o.es = [I64 a0, I64 a1, I64 a2]) (he : firstE [a0, a1, a2] = e) : orA (k + 1) 92 [.arr id 0 3 0] h = some (I64 e, h) :=
  first_c k [a0, a1, a2] h (fz_arr ho hg rfl rfl hes).now he
theorem first6_c {k id : Nat} {a0 a1 a2 a3 a4 a5 e : Int} {h : MHeap} {o : MObj} (ho : h[id]? = some o) (hg : o.g = 0) (hes : o.es = [I64 a0, I64 a1, I64 a2, I64 a3, I64 a4, I64 a5]) (he : firstE [a0, a1, a2, a3, a4, a5] = e) : orA (k + 1) 92 [.arr id 0 6 0] h = some (I64 e, h) :=
  first_c k [a0, a1, a2, a3, a4, a5] h (fz_arr ho hg rfl rfl hes).now he
theorem mf_isDate : MT.mf 127 = some ⟨5, [(.tmp 2)], (.seq (.reg [⟨none, (some 2), (.mv (.c (.lit (.bool false))))⟩]) (.seq (.reg [⟨none, (some 3), (.mv (.s 0))⟩, ⟨none, (some 4), (.call 129 [(.s 3), (.c (.lit (.int .i64 0))), (.c (.lit (.int .i64 100000)))])⟩, ⟨none, (some 2), (.mv (.s 4))⟩]) .ret))⟩ := by kernel_rfl
theorem isDate_c (k : Nat) (a : Int) (h : MHeap) {t : Bool} (ht : inB a 0 100000 = t) : orA (k + 2) 127 [I64 a] h = some (Bo t, h) := by
  refine callL (frz_lits [.int .i64 a]) rfl (runZ_of mf_isDate (by simp) ?_)
  simp only [argsL, List.map_cons, List.map_nil]
  repeat (first | apply ef_seq | (apply ef_mv; exact rfl; exact rfl) | apply ef_nil | apply seqQ.normal | apply ef_ret | (apply ef_call; exact rfl; ((repeat (apply XVs.cons; exact rfl)); exact XVs.nil); (with_reducible exact within_c _ _ _ _ _ rfl)))
  (refine fin1 rfl (by exact rfl) rfl ?_)
  rw [ht]
theorem mf_isPosition : MT.mf 128 = some ⟨5, [(.tmp 2)], (.seq (.reg [⟨none, (some 2), (.mv (.c (.lit (.bool false))))⟩]) (.seq (.reg [⟨none, (some 3), (.mv (.s 0))⟩, ⟨none, (some 4), (.call 129 [(.s 3), (.c (.lit (.int .i64 0))), (.c (.lit (.int .i64 1000)))])⟩, ⟨none, (some 2), (.mv (.s 4))⟩]) .ret))⟩ := by kernel_rfl
theorem isPosition_c (k : Nat) (a : Int) (h : MHeap) {t : Bool} (ht : inB a 0 1000 = t) : orA (k + 2) 128 [I64 a] h = some (Bo t, h) := by
  refine callL (frz_lits [.int .i64 a]) rfl (runZ_of mf_isPosition (by simp) ?_)
  simp only [argsL, List.map_cons, List.map_nil]
  repeat (first | apply ef_seq | (apply ef_mv; exact rfl; exact rfl) | apply ef_nil | apply seqQ.normal | apply ef_ret | (apply ef_call; exact rfl; ((repeat (apply XVs.cons; exact rfl)); exact XVs.nil); (with_reducible exact within_c _ _ _ _ _ rfl)))
  (refine fin1 rfl (by exact rfl) rfl ?_)
  rw [ht]
theorem mf_positionErr : MT.mf 96 = some ⟨12, [(.tmp 2)], (.seq (.reg [⟨none, (some 1), (.box 2 (.s 0))⟩, ⟨none, (some 2), (.mv (.c (.lit (.int .i64 0))))⟩]) (.seq (.reg [⟨none, (some 3), (.fa 0 (.s 1))⟩, ⟨none, (some 4), (.ld none (.s 3))⟩, ⟨none, (some 5), (.call 128 [(.s 4)])⟩, ⟨none, (some 6), (.mv (.s 5))⟩, ⟨(some (6, true)), (some 7), (.fa 1 (.s 1))⟩, ⟨(some (6, true)), (some 8), (.ld none (.s 7))⟩, ⟨(some (6, true)), (some 9), (.call 128 [(.s 8)])⟩, ⟨none, (some 10), (.pick (.s 6) (.s 9) (.c (.lit (.bool false))))⟩, ⟨none, (some 11), (.call 93 [(.s 10), (.c (.lit (.int .i64 2)))])⟩, ⟨none, (some 2), (.mv (.s 11))⟩]) .ret))⟩ := by kernel_rfl
def posE2 (a b : Int) : Int := unl (inB a 0 1000 && inB b 0 1000) 2
theorem positionErr_c (k : Nat) (a b : Int) (h : MHeap) {e : Int} (he : posE2 a b = e) : orA (k + 3) 96 [.agg [I64 a, I64 b]] h = some (I64 e, h) := by
  refine callL (args' := [.agg [I64 a, I64 b]]) rfl rfl (runZ_of mf_positionErr (by simp) ?_)
  simp only [argsL]
  cases h1 : inB a 0 1000
  · repeat (first | apply ef_seq | (apply ef_mv; exact rfl; exact rfl) | (apply ef_gn; exact rfl; (exact (rfl : false = false)); exact rfl) | (apply ef_pick; exact rfl; exact rfl; exact rfl) | (apply ef_ldp; exact rfl; exact rfl; exact rfl; exact rfl; (exact rfl); (exact rfl)) | (apply ef_fap; exact rfl; exact rfl) | (apply ef_box; exact rfl; exact rfl; exact rfl; exact rfl) | apply ef_nil | apply seqQ.normal | apply ef_ret | (apply ef_call; exact rfl; ((repeat (apply XVs.cons; exact rfl)); exact XVs.nil); (with_reducible first | exact isPosition_c _ _ _ (by assumption) | exact unless_c _ _ _ _ rfl)))
    (refine fin1 rfl (by exact rfl) rfl ?_)
    rw [← he]; simp [posE2, h1]
  · repeat (first | apply ef_seq | (apply ef_mv; exact rfl; exact rfl) | (apply ef_gy; exact rfl; (exact (rfl : true = true))) | (apply ef_pick; exact rfl; exact rfl; exact rfl) | (apply ef_ldp; exact rfl; exact rfl; exact rfl; exact rfl; (exact rfl); (exact rfl)) | (apply ef_fap; exact rfl; exact rfl) | (apply ef_box; exact rfl; exact rfl; exact rfl; exact rfl) | apply ef_nil | apply seqQ.normal | apply ef_ret | (apply ef_call; exact rfl; ((repeat (apply XVs.cons; exact rfl)); exact XVs.nil); (with_reducible first | exact isPosition_c _ _ _ (by assumption) | exact isPosition_c _ _ _ rfl | exact unless_c _ _ _ _ rfl)))
    (refine fin1 rfl (by exact rfl) rfl ?_)
    rw [← he]; simp [posE2, h1]
theorem mf_rPositionErr : MT.mf 31 = some ⟨13, [(.tmp 2)], (.seq (.reg [⟨none, (some 1), (.box 2 (.s 0))⟩, ⟨none, (some 2), (.mv (.c (.lit (.int .i64 0))))⟩]) (.seq (.seq (.reg [⟨none, (some 3), (.fa 0 (.s 1))⟩, ⟨none, (some 4), (.ld none (.s 3))⟩, ⟨none, (some 5), (.call 22 [(.s 4), (.c (.lit (.int .i64 0))), (.c (.lit (.int .i64 1000)))])⟩, ⟨none, (some 6), (.un .not (.s 5))⟩, ⟨none, (some 7), (.mv (.s 6))⟩, ⟨(some (7, false)), (some 8), (.fa 1 (.s 1))⟩, ⟨(some (7, false)), (some 9), (.ld none (.s 8))⟩, ⟨(some (7, false)), (some 10), (.call 22 [(.s 9), (.c (.lit (.int .i64 0))), (.c (.lit (.int .i64 1000)))])⟩, ⟨(some (7, false)), (some 11), (.un .not (.s 10))⟩, ⟨none, (some 12), (.pick (.s 7) (.c (.lit (.bool true))) (.s 11))⟩]) (.cond (.s 12) (.seq (.reg [⟨none, (some 2), (.mv (.c (.lit (.int .i64 2))))⟩]) .ret) .skip)) (.seq (.reg [⟨none, (some 2), (.mv (.c (.lit (.int .i64 0))))⟩]) .ret)))⟩ := by kernel_rfl
theorem rPositionErr_c (k : Nat) (a b : Int) (h : MHeap) {e : Int} (he : posE2 a b = e) : orA (k + 2) 31 [.agg [I64 a, I64 b]] h = some (I64 e, h) := by
  refine callL (args' := [.agg [I64 a, I64 b]]) rfl rfl (runZ_of mf_rPositionErr (by simp) ?_)
  simp only [argsL]
  cases h1 : inB a 0 1000
  · repeat (first | apply ef_seq | (apply ef_mv; exact rfl; exact rfl) | (apply ef_gn; exact rfl; (exact (rfl : true = true)); exact rfl) | (apply ef_pick; exact rfl; exact rfl; exact rfl) | (apply ef_ldp; exact rfl; exact rfl; exact rfl; exact rfl; (exact rfl); (exact rfl)) | (apply ef_fap; exact rfl; exact rfl) | (apply ef_notF; exact rfl; exact rfl) | (apply ef_box; exact rfl; exact rfl; exact rfl; exact rfl) | apply ef_nil | apply seqQ.normal | apply ef_ret | apply seqQ.ret | (apply ef_condt; exact rfl; (exact (rfl : true = true))) | (apply ef_call; exact rfl; ((repeat (apply XVs.cons; exact rfl)); exact XVs.nil); (with_reducible exact Within_c _ _ _ _ _ (by assumption))))
    (refine fin1 rfl (by exact rfl) rfl ?_)
    rw [← he]; simp [posE2, h1, unl]
  · cases h2 : inB b 0 1000
    all_goals repeat (first | apply ef_seq | (apply ef_mv; exact rfl; exact rfl) | (apply ef_gy; exact rfl; (exact (rfl : false = false))) | (apply ef_pick; exact rfl; exact rfl; exact rfl) | (apply ef_ldp; exact rfl; exact rfl; exact rfl; exact rfl; (exact rfl); (exact rfl)) | (apply ef_fap; exact rfl; exact rfl) | (apply ef_notT; exact rfl; exact rfl) | (apply ef_notF; exact rfl; exact rfl) | (apply ef_box; exact rfl; exact rfl; exact rfl; exact rfl) | apply ef_nil | apply seqQ.normal | apply ef_ret | apply seqQ.ret | apply ef_skip | (apply ef_condt; exact rfl; (exact (rfl : true = true))) | (apply ef_condf; exact rfl; (exact (rfl : false = false))) | (apply ef_call; exact rfl; ((repeat (apply XVs.cons; exact rfl)); exact XVs.nil); (with_reducible exact Within_c _ _ _ _ _ (by assumption))))
    all_goals (refine fin1 rfl (by exact rfl) rfl ?_)
    all_goals (rw [← he]; simp [posE2, h1, h2, unl])
end Go.Proofs.Ytgjpdjihjphbdaa
