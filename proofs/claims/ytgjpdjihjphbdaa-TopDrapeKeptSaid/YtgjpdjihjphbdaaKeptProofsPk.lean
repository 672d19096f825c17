/- The law TopDrapeKept: for every task and every number it returns true; the arguments read as before. -/
import Derived.Test.YtgjpdjihjphbdaaKeptProofsPf
namespace Go.Proofs.Ytgjpdjihjphbdaa
open Go.ChangeShapes Go.WideShapes Go.ChangeAt Go.RowKit
def keptShs : List Sh := [taskSh, .int .i64]
theorem kept_runs (ms : List MV) (h : FitsL keptShs ms) : runZ MT (orA 12) (itA 12) 4000000 13 ms [] = some (.lit (.bool true), []) := by
  obtain ⟨m1, r1, rfl, h1, h⟩ := fitsL_cons h
  obtain ⟨m2, r2, rfl, h2, h⟩ := fitsL_cons h
  obtain rfl := fitsL_nil h
  obtain ⟨t, rfl, q1, q2, q3, q4⟩ := fits_task h1
  obtain ⟨a, rfl, -⟩ := fits_int h2
  exact TopDrapeKept_z t a q1 q2 q3 q4
set_option maxRecDepth 100000 in
theorem kept_lifted (os : Os) (started : os.Started) (H : Type) (enc : TypeId × Value → H) :
    ReturnsInHanded {} Try.checked os 13 .any (Rows.topDrapeKeptSpec.pre6 enc Try.prog Try.f13 Rows.topDrapeKeptRow.domain false) (Rows.topDrapeKeptSpec.post enc Try.prog Try.f13 false true false false) := by
  refine returnsInHanded_of_change (C := Try.checked) Try.own started (by kernel_rfl) Try.func13
    (ChangeSpec.witness6 (enc := enc) (C := Try.checked) false ⟨#[], #[.agg #[.slice none 0 0, .slice none 0 0, .slice none 0 0, .int .i64 0, .int .i64 0], .int .i64 0], []⟩ 8 (by kernel_rfl) (by kernel_rfl) (by kernel_rfl) (by kernel_rfl)) ?_
  intro W base args ds gs before hval hW _ _
  exact law_contract keptShs (by kernel_rfl) (by kernel_rfl) rfl rfl (fun ds h => by match ds, h with | [_, _], _ => exact ⟨rfl, rfl, rfl⟩) kept_runs W base args ds gs before hval hW
theorem topDrapeKept_holds : Rows.TopDrapeKeptSaid :=
  OpenClaim.holds_of_wide 13 Try.f13 rfl rfl rfl rfl rfl rfl rfl ⟨rfl, rfl, rfl, rfl, rfl⟩ rfl rfl rfl rfl rfl (by kernel_rfl) Try.func13 (by kernel_rfl)
    (of_decide_eq_true (by kernel_rfl)) (by unfold Func.isWrapper; rw [if_neg (of_decide_eq_false (by kernel_rfl))]; exact ⟨rfl, rfl⟩)
    (fun os started H enc _ => kept_lifted os started H enc)
#print axioms topDrapeKept_holds
end Go.Proofs.Ytgjpdjihjphbdaa
