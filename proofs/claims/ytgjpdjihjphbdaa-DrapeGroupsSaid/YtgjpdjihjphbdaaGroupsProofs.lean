/- The law DrapeGroups: for every cost, every list of pieces and every list of group sizes it returns true; the arguments read as before. -/
import Derived.Test.YtgjpdjihjphbdaaLaw
import Derived.Test.YtgjpdjihjphbdaaGrW
namespace Go.Proofs.Ytgjpdjihjphbdaa
open Go.ChangeShapes Go.WideShapes Go.ChangeAt Go.RowKit

theorem fits_ints {m : MV} (h : Fits (.slice (.int .i64)) m) : ∃ xs : List Int, m = .sl (xs.map I64) ∧ xs.length ≤ maxLen ∧ ∀ n ∈ xs, (Lit.int .i64 n).wf = true := by
  simp only [Fits] at h
  obtain ⟨es, rfl, hl, he⟩ := h
  induction es with
  | nil => exact ⟨[], rfl, by simp, fun n hn => by cases hn⟩
  | cons e es ih =>
    obtain ⟨n, rfl, hw⟩ := he e List.mem_cons_self
    obtain ⟨xs, h1, h2, h3⟩ := ih (by simp at hl; omega) fun e h => he e (List.mem_cons_of_mem _ h)
    refine ⟨n :: xs, by simpa using h1, ?_, fun k hk => ?_⟩
    · have : es = xs.map I64 := by simpa using h1
      subst this
      simpa using hl
    · rcases List.mem_cons.1 hk with rfl | hk
      · exact hw
      · exact h3 k hk
theorem fits_pair {m : MV} (h : Fits (.agg [.int .i64, .int .i64]) m) : ∃ a b, m = .agg [I64 a, I64 b] ∧ (Lit.int .i64 a).wf = true ∧ (Lit.int .i64 b).wf = true := by
  simp only [Fits, FitsL] at h
  obtain ⟨ms, ⟨m1, r1, rfl, ⟨a, rfl, ha⟩, m2, r2, rfl, ⟨b, rfl, hb⟩, rfl⟩, rfl⟩ := h
  exact ⟨a, b, rfl, ha, hb⟩
theorem fits_pairs {m : MV} (h : Fits (.slice (.agg [.int .i64, .int .i64])) m) : ∃ xs : List (Int × Int), m = .sl (xs.map encR) ∧ xs.length ≤ maxLen ∧ ∀ p ∈ xs, (Lit.int .i64 p.1).wf = true ∧ (Lit.int .i64 p.2).wf = true := by
  rw [Fits] at h
  obtain ⟨es, rfl, hl, he⟩ := h
  induction es with
  | nil => exact ⟨[], rfl, by simp, fun n hn => by cases hn⟩
  | cons e es ih =>
    obtain ⟨a, b, rfl, ha, hb⟩ := fits_pair (he e List.mem_cons_self)
    obtain ⟨xs, h1, h2, h3⟩ := ih (by simp at hl; omega) fun e h => he e (List.mem_cons_of_mem _ h)
    have e1 : es = xs.map encR := by simpa using h1
    subst e1
    refine ⟨(a, b) :: xs, rfl, by simpa using hl, fun k hk => ?_⟩
    rcases List.mem_cons.1 hk with rfl | hk
    · exact ⟨ha, hb⟩
    · exact h3 k hk
theorem maxLen_le : maxLen ≤ 9223372036854775807 := by decide

def groupsShs : List Sh := [.agg [.int .i64, .int .i64], .slice (.agg [.int .i64, .int .i64]), .slice (.int .i64)]
theorem groups_runs (ms : List MV) (h : FitsL groupsShs ms) : runZ MT (orA 12) (itA 12) 1000000 3 ms [] = some (.lit (.bool true), []) := by
  unfold groupsShs FitsL at h
  obtain ⟨m1, r1, rfl, h1, h⟩ := h
  unfold FitsL at h
  obtain ⟨m2, r2, rfl, h2, h⟩ := h
  unfold FitsL at h
  obtain ⟨m3, r3, rfl, h3, h⟩ := h
  unfold FitsL at h
  subst h
  obtain ⟨a, b, rfl, _⟩ := fits_pair h1
  obtain ⟨xs, rfl, hx, _⟩ := fits_pairs h2
  obtain ⟨gs, rfl, hg, _⟩ := fits_ints h3
  exact DrapeGroups_z a b xs gs (Nat.le_trans hx maxLen_le) (Nat.le_trans hg maxLen_le)

set_option maxRecDepth 100000 in
theorem groups_lifted (os : Os) (started : os.Started) (H : Type) (enc : TypeId × Value → H) :
    ReturnsInHanded {} Try.checked os 3 .any (Rows.drapeGroupsSpec.pre6 enc Try.prog Try.f3 Rows.drapeGroupsRow.domain false) (Rows.drapeGroupsSpec.post enc Try.prog Try.f3 false true false false) := by
  refine returnsInHanded_of_change (C := Try.checked) Try.own started (by kernel_rfl) Try.func3
    (ChangeSpec.witness6 (enc := enc) (C := Try.checked) false ⟨#[], #[.agg #[.int .i64 0, .int .i64 0], .slice none 0 0, .slice none 0 0], []⟩ 8 (by kernel_rfl) (by kernel_rfl) (by kernel_rfl) (by kernel_rfl)) ?_
  intro W base args ds gs before hval hW _ _
  exact law_contract groupsShs (by kernel_rfl) (by kernel_rfl) rfl rfl (fun ds h => by match ds, h with | [_, _, _], _ => exact ⟨rfl, rfl, rfl⟩) groups_runs W base args ds gs before hval hW

theorem drapeGroups_holds : Rows.DrapeGroupsSaid :=
  OpenClaim.holds_of_wide 3 Try.f3 rfl rfl rfl rfl rfl rfl rfl ⟨rfl, rfl, rfl, rfl, rfl⟩ rfl rfl rfl rfl rfl (by kernel_rfl) Try.func3 (by kernel_rfl)
    (of_decide_eq_true (by kernel_rfl)) (by unfold Func.isWrapper; rw [if_neg (of_decide_eq_false (by kernel_rfl))]; exact ⟨rfl, rfl⟩)
    (fun os started H enc _ => groups_lifted os started H enc)
#print axioms drapeGroups_holds
end Go.Proofs.Ytgjpdjihjphbdaa
