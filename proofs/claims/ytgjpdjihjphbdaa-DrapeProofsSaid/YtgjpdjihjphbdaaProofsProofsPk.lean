/- The law DrapeProofs: for every task and every surface it returns true; the arguments read as before. -/
import Derived.Test.YtgjpdjihjphbdaaProofsProofsPf
namespace Go.Proofs.Ytgjpdjihjphbdaa
open Go.ChangeShapes Go.WideShapes Go.ChangeAt Go.RowKit

def proofsShs : List Sh := [taskSh, .slice (.slice (.int .i64))]
theorem proofs_runs (ms : List MV) (h : FitsL proofsShs ms) : runZ MT (orA 12) (itA 12) 4000000 10 ms [] = some (.lit (.bool true), []) := by
  obtain ⟨m1, r1, rfl, h1, h⟩ := fitsL_cons h
  obtain ⟨m2, r2, rfl, h2, h⟩ := fitsL_cons h
  obtain rfl := fitsL_nil h
  obtain ⟨t, rfl, q1, q2, q3, q4⟩ := fits_task h1
  obtain ⟨s, rfl, q5, q6⟩ := fits_lists h2
  exact DrapeProofs_z t s q1 q2 q3 q4 (Nat.le_trans q5 maxLen_le) fun r hr => Nat.le_trans (q6 r hr) maxLen_le

set_option maxRecDepth 100000 in
theorem proofs_lifted (os : Os) (started : os.Started) (H : Type) (enc : TypeId × Value → H) :
    ReturnsInHanded {} Try.checked os 10 .any (Rows.drapeProofsSpec.pre6 enc Try.prog Try.f10 Rows.drapeProofsRow.domain false) (Rows.drapeProofsSpec.post enc Try.prog Try.f10 false true false false) := by
  refine returnsInHanded_of_change (C := Try.checked) Try.own started (by kernel_rfl) Try.func10
    (ChangeSpec.witness6 (enc := enc) (C := Try.checked) false ⟨#[], #[.agg #[.slice none 0 0, .slice none 0 0, .slice none 0 0, .int .i64 0, .int .i64 0], .slice none 0 0], []⟩ 8 (by kernel_rfl) (by kernel_rfl) (by kernel_rfl) (by kernel_rfl)) ?_
  intro W base args ds gs before hval hW _ _
  exact law_contract proofsShs (by kernel_rfl) (by kernel_rfl) rfl rfl (fun ds h => by match ds, h with | [_, _], _ => exact ⟨rfl, rfl, rfl⟩) proofs_runs W base args ds gs before hval hW

theorem drapeProofs_holds : Rows.DrapeProofsSaid :=
  OpenClaim.holds_of_wide 10 Try.f10 rfl rfl rfl rfl rfl rfl rfl ⟨rfl, rfl, rfl, rfl, rfl⟩ rfl rfl rfl rfl rfl (by kernel_rfl) Try.func10 (by kernel_rfl)
    (of_decide_eq_true (by kernel_rfl)) (by unfold Func.isWrapper; rw [if_neg (of_decide_eq_false (by kernel_rfl))]; exact ⟨rfl, rfl⟩)
    (fun os started H enc _ => proofs_lifted os started H enc)
#print axioms drapeProofs_holds
end Go.Proofs.Ytgjpdjihjphbdaa
