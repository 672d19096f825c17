/- Contracts for the laws of strips: copies of rows, few lines. -/
import Derived.Test.YtgjpdjihjphbdaaSp7
namespace Go.Proofs.Ytgjpdjihjphbdaa
open Go.RowKit

theorem bCopyInts_n (k : Nat) (h : MHeap) : orA (k + 1) 64 [.lit (.slice none 0 0)] h = some (.arr h.length 0 0 0, h ++ [⟨0, false, 1, []⟩]) := by
  have hz : runZ MT (orA k) (itA k) 1000000 64 [.lit (.slice none 0 0)] [] = some (.arr 0 0 0 0, [⟨0, false, 1, []⟩]) := by
    refine runZ_of mf_CopyInts (by simp) ?_
    simp only [argsL]
    repeat (first | apply ef_seq | (apply ef_mv; exact rfl; exact rfl) | (apply ef_nil0; exact rfl) | (apply ef_bsl; exact rfl; (repeat (apply XVs.cons; exact rfl)); exact XVs.nil; exact rfl) | apply ef_nil | apply seqQ.normal)
    (apply ef_app0; (· exact rfl); (· exact rfl); (· exact rfl); (· exact rfl); (· exact rfl); (· exact rfl); (· exact rfl); (· exact rfl))
    repeat (first | (apply ef_mv; exact rfl; exact rfl) | apply ef_nil | apply seqQ.normal | apply ef_ret)
    (apply fin_arr; (· exact rfl); (· exact rfl); (· exact rfl); (· exact rfl); (· simp); (· exact rfl); (· exact rfl); (· exact rfl); (· exact rfl); (· exact rfl))
  have := callA (k := k) (args := [.lit (.slice none 0 0)]) (args' := [.lit (.slice none 0 0)]) (h := h) (frzL_lt rfl) rfl hz rfl (by simp [okH, ltL, pureL])
  simpa [shV, sh1] using this
theorem mf_fewLines : MT.mf 58 = some ⟨13, [(.tmp 2)], (.seq (.reg [⟨none, (some 1), (.box 5 (.s 0))⟩, ⟨none, (some 2), (.mv (.c (.lit (.bool false))))⟩]) (.seq (.reg [⟨none, (some 3), (.fa 3 (.s 1))⟩, ⟨none, (some 4), (.ld none (.s 3))⟩, ⟨none, (some 5), (.len (.s 4))⟩, ⟨none, (some 6), (.bin .leq (.s 5) (.c (.lit (.int .i64 42))))⟩, ⟨none, (some 7), (.mv (.s 6))⟩, ⟨(some (7, true)), (some 8), (.fa 4 (.s 1))⟩, ⟨(some (7, true)), (some 9), (.ld none (.s 8))⟩, ⟨(some (7, true)), (some 10), (.len (.s 9))⟩, ⟨(some (7, true)), (some 11), (.bin .leq (.s 10) (.c (.lit (.int .i64 42))))⟩, ⟨none, (some 12), (.pick (.s 7) (.s 11) (.c (.lit (.bool false))))⟩, ⟨none, (some 2), (.mv (.s 12))⟩]) .ret))⟩ := by kernel_rfl
theorem fewLines_c (k : Nat) (a b c : Int) (fl lo : List Int) (h : MHeap) {t : Bool} (hf : fl.length ≤ 9223372036854775807) (hl : lo.length ≤ 9223372036854775807) (ht : (decide (fl.length ≤ 42) && decide (lo.length ≤ 42)) = t) : orA (k + 1) 58 [encS a b c fl lo] h = some (Bo t, h) := by
  have hl1 : (MV.sl (fl.map I64)).slen = some fl.length := by simp [MV.slen]
  have hl2 : (MV.sl (lo.map I64)).slen = some lo.length := by simp [MV.slen]
  refine callL (args' := [encS a b c fl lo]) (frzL_lt (by simp [ltL, MV.lt, ltL_I])) rfl (runZ_of mf_fewLines (by simp) ?_)
  simp only [argsL]
  by_cases h1 : fl.length ≤ 42
  · by_cases h2 : lo.length ≤ 42
    · repeat (first | apply ef_seq | (apply ef_mv; exact rfl; exact rfl) | (apply ef_bin; exact rfl; exact rfl; exact rfl; (exact cmp_t rfl (by first | exact rfl | (simp only [cmpP]; omega)))) | (apply ef_gy; exact rfl; (exact (rfl : true = true))) | (apply ef_pick; exact rfl; exact rfl; exact rfl) | (apply ef_len; exact rfl; exact rfl; (assumption)) | (apply ef_ldp; exact rfl; exact rfl; exact rfl; exact rfl; (exact rfl); (exact rfl)) | (apply ef_fap; exact rfl; exact rfl) | (apply ef_box; exact rfl; exact rfl; exact rfl; exact rfl) | apply ef_nil | apply seqQ.normal | apply ef_ret)
      (refine fin1 rfl (by exact rfl) rfl ?_)
      rw [← ht, decide_eq_true h1, decide_eq_true h2]; rfl
    · repeat (first | apply ef_seq | (apply ef_mv; exact rfl; exact rfl) | (apply ef_bin; exact rfl; exact rfl; exact rfl; (first | exact cmp_t rfl (by first | exact rfl | (simp only [cmpP]; omega)) | exact cmp_f rfl (by simp only [cmpP]; omega))) | (apply ef_gy; exact rfl; (exact (rfl : true = true))) | (apply ef_pick; exact rfl; exact rfl; exact rfl) | (apply ef_len; exact rfl; exact rfl; (assumption)) | (apply ef_ldp; exact rfl; exact rfl; exact rfl; exact rfl; (exact rfl); (exact rfl)) | (apply ef_fap; exact rfl; exact rfl) | (apply ef_box; exact rfl; exact rfl; exact rfl; exact rfl) | apply ef_nil | apply seqQ.normal | apply ef_ret)
      (refine fin1 rfl (by exact rfl) rfl ?_)
      rw [← ht, decide_eq_true h1, decide_eq_false h2]; rfl
  · repeat (first | apply ef_seq | (apply ef_mv; exact rfl; exact rfl) | (apply ef_bin; exact rfl; exact rfl; exact rfl; (exact cmp_f rfl (by simp only [cmpP]; omega))) | (apply ef_gn; exact rfl; (exact (rfl : false = false)); exact rfl) | (apply ef_pick; exact rfl; exact rfl; exact rfl) | (apply ef_len; exact rfl; exact rfl; (assumption)) | (apply ef_ldp; exact rfl; exact rfl; exact rfl; exact rfl; (exact rfl); (exact rfl)) | (apply ef_fap; exact rfl; exact rfl) | (apply ef_box; exact rfl; exact rfl; exact rfl; exact rfl) | apply ef_nil | apply seqQ.normal | apply ef_ret)
    (refine fin1 rfl (by exact rfl) rfl ?_)
    rw [← ht, decide_eq_false h1]; rfl
end Go.Proofs.Ytgjpdjihjphbdaa
