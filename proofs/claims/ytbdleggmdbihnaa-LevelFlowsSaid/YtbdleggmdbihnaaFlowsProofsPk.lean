/- The law LevelFlows: for every net, flow and walk it returns true; the arguments read as before. -/
import Derived.Test.YtbdleggmdbihnaaFlowsProofsPg
namespace Go.Proofs.Ytbdleggmdbihnaa
open Go.ChangeShapes Go.WideShapes Go.ChangeAt Go.RowKit
def flowsShs : List Sh := [netSh, .slice (.int .i64), .slice (.int .i64)]
theorem flows_runs (ms : List MV) (h : FitsL flowsShs ms) : runZ MT (orA 14) (itA 14) 4000000 6 ms [] = some (.lit (.bool true), []) := by
  obtain ⟨m1, r1, rfl, h1, h⟩ := fitsL_cons h
  obtain ⟨m2, r2, rfl, h2, h⟩ := fitsL_cons h
  obtain ⟨m3, r3, rfl, h3, h⟩ := fitsL_cons h
  obtain rfl := fitsL_nil h
  obtain ⟨n, rfl, q1, q2⟩ := fits_net h1
  obtain ⟨c, rfl, q3, -⟩ := fits_ints h2
  obtain ⟨w, rfl, q4, -⟩ := fits_ints h3
  exact LevelFlows_z n c w q1 q2 (Nat.le_trans q3 maxLen_le) (Nat.le_trans q4 maxLen_le)
set_option maxRecDepth 100000 in
theorem flows_lifted (os : Os) (started : os.Started) (H : Type) (enc : TypeId × Value → H) :
    ReturnsInHanded {} Try.checked os 6 .any (Rows.levelFlowsSpec.pre6 enc Try.prog Try.f6 Rows.levelFlowsRow.domain false) (Rows.levelFlowsSpec.post enc Try.prog Try.f6 false true false false) := by
  refine returnsInHanded_of_change (C := Try.checked) Try.own started (by kernel_rfl) Try.func6
    (ChangeSpec.witness6 (enc := enc) (C := Try.checked) false ⟨#[], #[.agg #[.slice none 0 0, .slice none 0 0], .slice none 0 0, .slice none 0 0], []⟩ 8 (by kernel_rfl) (by kernel_rfl) (by kernel_rfl) (by kernel_rfl)) ?_
  intro W base args ds gs before hval hW _ _
  exact law_contract flowsShs (by kernel_rfl) (by kernel_rfl) rfl rfl (fun ds h => by match ds, h with | [_, _, _], _ => exact ⟨rfl, rfl, rfl⟩) flows_runs W base args ds gs before hval hW
theorem levelFlows_holds : Rows.LevelFlowsSaid :=
  OpenClaim.holds_of_wide 6 Try.f6 rfl rfl rfl rfl rfl rfl rfl ⟨rfl, rfl, rfl, rfl, rfl⟩ rfl rfl rfl rfl rfl (by kernel_rfl) Try.func6 (by kernel_rfl)
    (of_decide_eq_true (by kernel_rfl)) (by unfold Func.isWrapper; rw [if_neg (of_decide_eq_false (by kernel_rfl))]; exact ⟨rfl, rfl⟩)
    (fun os started H enc _ => flows_lifted os started H enc)
#print axioms levelFlows_holds
end Go.Proofs.Ytbdleggmdbihnaa
