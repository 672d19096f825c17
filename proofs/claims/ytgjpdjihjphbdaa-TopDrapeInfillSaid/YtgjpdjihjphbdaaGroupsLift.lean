/- Open values of common shapes. -/
import Derived.Test.YtgjpdjihjphbdaaLaw
namespace Go.Proofs.Ytgjpdjihjphbdaa
open Go.ChangeShapes Go.WideShapes Go.ChangeAt Go.RowKit

theorem fits_ints {m : MV} (h : Fits (.slice (.int .i64)) m) : ∃ xs : List Int, m = .sl (xs.map I64) ∧ xs.length ≤ maxLen ∧ ∀ n ∈ xs, (Lit.int .i64 n).wf = true := by
  simp only [Fits] at h
  obtain ⟨es, rfl, hl, he⟩ := h
  induction es with
  | nil => exact ⟨[], rfl, by simp, fun n hn => by cases hn⟩
  | cons e es ih =>
    obtain ⟨n, rfl, hw⟩ := he e List.mem_cons_self
    obtain ⟨xs, h1, h2, h3⟩ := ih (by simp at hl; omega) fun e h => he e (List.mem_cons_of_mem _ h)
    refine ⟨n :: xs, by simpa using h1, ?_, fun k hk => ?_⟩
    · have : es = xs.map I64 := by simpa using h1
      subst this
      simpa using hl
    · rcases List.mem_cons.1 hk with rfl | hk
      · exact hw
      · exact h3 k hk
theorem fits_pair {m : MV} (h : Fits (.agg [.int .i64, .int .i64]) m) : ∃ a b, m = .agg [I64 a, I64 b] ∧ (Lit.int .i64 a).wf = true ∧ (Lit.int .i64 b).wf = true := by
  simp only [Fits, FitsL] at h
  obtain ⟨ms, ⟨m1, r1, rfl, ⟨a, rfl, ha⟩, m2, r2, rfl, ⟨b, rfl, hb⟩, rfl⟩, rfl⟩ := h
  exact ⟨a, b, rfl, ha, hb⟩
theorem fits_pairs {m : MV} (h : Fits (.slice (.agg [.int .i64, .int .i64])) m) : ∃ xs : List (Int × Int), m = .sl (xs.map encR) ∧ xs.length ≤ maxLen ∧ ∀ p ∈ xs, (Lit.int .i64 p.1).wf = true ∧ (Lit.int .i64 p.2).wf = true := by
  rw [Fits] at h
  obtain ⟨es, rfl, hl, he⟩ := h
  induction es with
  | nil => exact ⟨[], rfl, by simp, fun n hn => by cases hn⟩
  | cons e es ih =>
    obtain ⟨a, b, rfl, ha, hb⟩ := fits_pair (he e List.mem_cons_self)
    obtain ⟨xs, h1, h2, h3⟩ := ih (by simp at hl; omega) fun e h => he e (List.mem_cons_of_mem _ h)
    have e1 : es = xs.map encR := by simpa using h1
    subst e1
    refine ⟨(a, b) :: xs, rfl, by simpa using hl, fun k hk => ?_⟩
    rcases List.mem_cons.1 hk with rfl | hk
    · exact ⟨ha, hb⟩
    · exact h3 k hk
theorem maxLen_le : maxLen ≤ 9223372036854775807 := by decide

theorem fits_int {k : IntKind} {m : MV} (h : Fits (.int k) m) : ∃ n, m = .lit (.int k n) ∧ (Lit.int k n).wf = true := by
  simp only [Fits] at h; exact h
theorem fits_agg {ss : List Sh} {m : MV} (h : Fits (.agg ss) m) : ∃ ms, FitsL ss ms ∧ m = .agg (ms.flatMap MV.cells) := by
  simp only [Fits] at h; exact h
theorem fitsL_cons {s : Sh} {ss : List Sh} {ms : List MV} (h : FitsL (s :: ss) ms) : ∃ m r, ms = m :: r ∧ Fits s m ∧ FitsL ss r := by
  simp only [FitsL] at h; exact h
theorem fitsL_nil {ms : List MV} (h : FitsL [] ms) : ms = [] := by
  simp only [FitsL] at h; exact h
end Go.Proofs.Ytgjpdjihjphbdaa
