/- The law DrapeForces: for every task and every position it returns true; the arguments read as before. -/
import Derived.Test.YtgjpdjihjphbdaaForcesProofsPf
namespace Go.Proofs.Ytgjpdjihjphbdaa
open Go.ChangeShapes Go.WideShapes Go.ChangeAt Go.RowKit

def forcesShs : List Sh := [taskSh, .agg [.int .i64, .int .i64]]
theorem forces_runs (ms : List MV) (h : FitsL forcesShs ms) : runZ MT (orA 12) (itA 12) 4000000 6 ms [] = some (.lit (.bool true), []) := by
  obtain ⟨m1, r1, rfl, h1, h⟩ := fitsL_cons h
  obtain ⟨m2, r2, rfl, h2, h⟩ := fitsL_cons h
  obtain rfl := fitsL_nil h
  obtain ⟨t, rfl, q1, q2, q3, q4⟩ := fits_task h1
  obtain ⟨ms2, h2', rfl⟩ := fits_agg h2
  obtain ⟨k1, r3, rfl, h3, h4⟩ := fitsL_cons h2'
  obtain ⟨k2, r4, rfl, h5, h6⟩ := fitsL_cons h4
  obtain rfl := fitsL_nil h6
  obtain ⟨a, rfl, -⟩ := fits_int h3
  obtain ⟨b, rfl, -⟩ := fits_int h5
  exact DrapeForces_z t a b q1 q2 q3 q4

set_option maxRecDepth 100000 in
theorem forces_lifted (os : Os) (started : os.Started) (H : Type) (enc : TypeId × Value → H) :
    ReturnsInHanded {} Try.checked os 6 .any (Rows.drapeForcesSpec.pre6 enc Try.prog Try.f6 Rows.drapeForcesRow.domain false) (Rows.drapeForcesSpec.post enc Try.prog Try.f6 false true false false) := by
  refine returnsInHanded_of_change (C := Try.checked) Try.own started (by kernel_rfl) Try.func6
    (ChangeSpec.witness6 (enc := enc) (C := Try.checked) false ⟨#[], #[.agg #[.slice none 0 0, .slice none 0 0, .slice none 0 0, .int .i64 0, .int .i64 0], .agg #[.int .i64 0, .int .i64 0]], []⟩ 8 (by kernel_rfl) (by kernel_rfl) (by kernel_rfl) (by kernel_rfl)) ?_
  intro W base args ds gs before hval hW _ _
  exact law_contract forcesShs (by kernel_rfl) (by kernel_rfl) rfl rfl (fun ds h => by match ds, h with | [_, _], _ => exact ⟨rfl, rfl, rfl⟩) forces_runs W base args ds gs before hval hW

theorem drapeForces_holds : Rows.DrapeForcesSaid :=
  OpenClaim.holds_of_wide 6 Try.f6 rfl rfl rfl rfl rfl rfl rfl ⟨rfl, rfl, rfl, rfl, rfl⟩ rfl rfl rfl rfl rfl (by kernel_rfl) Try.func6 (by kernel_rfl)
    (of_decide_eq_true (by kernel_rfl)) (by unfold Func.isWrapper; rw [if_neg (of_decide_eq_false (by kernel_rfl))]; exact ⟨rfl, rfl⟩)
    (fun os started H enc _ => forces_lifted os started H enc)
#print axioms drapeForces_holds
end Go.Proofs.Ytgjpdjihjphbdaa
