/- The law LevelKept: for every net and anomaly it returns true; the arguments read as before. -/
import Derived.Test.YtbdleggmdbihnaaLvKeptProofsPf
namespace Go.Proofs.Ytbdleggmdbihnaa
open Go.ChangeShapes Go.WideShapes Go.ChangeAt Go.RowKit
def keptShs : List Sh := [netSh, .slice (.int .i64)]
theorem kept_runs (ms : List MV) (h : FitsL keptShs ms) : runZ MT (orC LZ 13) (itA 14) 4000000 3 ms [] = some (.lit (.bool true), []) := by
  obtain ⟨m1, r1, rfl, h1, h⟩ := fitsL_cons h
  obtain ⟨m2, r2, rfl, h2, h⟩ := fitsL_cons h
  obtain rfl := fitsL_nil h
  obtain ⟨n, rfl, q1, q2⟩ := fits_net h1
  obtain ⟨a, rfl, q3, -⟩ := fits_ints h2
  exact LevelKept_z n a q1 q2 (Nat.le_trans q3 maxLen_le)
set_option maxRecDepth 100000 in
theorem kept_lifted (os : Os) (started : os.Started) (H : Type) (enc : TypeId × Value → H) :
    ReturnsInHanded {} Try.checked os 3 .any (Rows.levelKeptSpec.pre6 enc Try.prog Try.f3 Rows.levelKeptRow.domain false) (Rows.levelKeptSpec.post enc Try.prog Try.f3 false true false false) := by
  refine returnsInHanded_of_change (C := Try.checked) Try.own started (by kernel_rfl) Try.func3
    (ChangeSpec.witness6 (enc := enc) (C := Try.checked) false ⟨#[], #[.agg #[.slice none 0 0, .slice none 0 0], .slice none 0 0], []⟩ 8 (by kernel_rfl) (by kernel_rfl) (by kernel_rfl) (by kernel_rfl)) ?_
  intro W base args ds gs before hval hW _ _
  exact law_contract (orC_ok LZ 13) keptShs (by kernel_rfl) (by kernel_rfl) rfl rfl (fun ds h => by match ds, h with | [_, _], _ => exact ⟨rfl, rfl, rfl⟩) kept_runs W base args ds gs before hval hW
theorem levelKept_holds : Rows.LevelKeptSaid :=
  OpenClaim.holds_of_wide 3 Try.f3 rfl rfl rfl rfl rfl rfl rfl ⟨rfl, rfl, rfl, rfl, rfl⟩ rfl rfl rfl rfl rfl (by kernel_rfl) Try.func3 (by kernel_rfl)
    (of_decide_eq_true (by kernel_rfl)) (by unfold Func.isWrapper; rw [if_neg (of_decide_eq_false (by kernel_rfl))]; exact ⟨rfl, rfl⟩)
    (fun os started H enc _ => kept_lifted os started H enc)
#print axioms levelKept_holds
end Go.Proofs.Ytbdleggmdbihnaa
