/- The law TargetHoles: for every input it returns true; the arguments read as before; where the listed tables lie as the program's text lays them. -/
import Derived.Test.YtnmgpbihknjdjaaGreatDoorHolesProofsPg
set_option linter.unusedVariables false
set_option linter.unusedSimpArgs false
namespace Go.Proofs.YtnmgpbihknjdjaaGreatDoor
open Go.ChangeShapes Go.WideShapes Go.ChangeAt Go.RowKit
theorem cdholes_1 : Rows.targetHolesRow.wfByText (OpenSpec.ofChange Rows.targetHolesSpec) = true := by kernel_rfl
theorem cdholes_2 : Tryz.pinned.checked.prog.mainIs = some (Rows.targetHolesCard.stood.harness.1, Rows.targetHolesCard.stood.harness.2.toList) := by kernel_rfl
theorem cdholes_4 : Tryz.prog.funcNamed Rows.targetHolesRow.func = some 10 := by kernel_rfl
theorem cdholes_5 : Rows.targetHolesCard.stood.looks = Tryz.pinned.checked.prog.looks [] := by kernel_rfl
theorem cdholes_6 : (Tryz.f10.params.toList.all fun u => !Tryz.prog.wantsStandIn u) = true := by kernel_rfl
theorem cdholes_7 : false = Rows.targetHolesRow.goesBy Tryz.pinned.checked.prog := by kernel_rfl
theorem targetHoles_card : Rows.TargetHolesCardSaid :=
 Claim7.holds_tied_plain_at .later [] [.data, .data] true Rows.targetHolesCard.stood.harness Rows.targetHolesCard.stood.looks
  targetHoles_row (fun _ h => by cases h) cdholes_1 (fun _ h => by cases h) targetHoles_row_tie rfl ⟨rfl, rfl⟩ cdholes_2 rfl
  (fun f fn hf hfn => by
   obtain rfl : f = 10 := Option.some.inj (cdholes_4.symm.trans hf) |>.symm
   obtain rfl : fn = Tryz.f10 := (Option.some.inj (Tryz.func10.symm.trans hfn)).symm
   refine ⟨cdholes_5, fun j t ht => ?_⟩
   have hm : t ∈ Tryz.f10.params.toList := by simpa using Array.mem_of_getElem? ht
   exact (show Tryz.prog.wantsStandIn t = false by simpa using List.all_eq_true.1 cdholes_6 t hm))
  cdholes_7
#print axioms targetHoles_card
end Go.Proofs.YtnmgpbihknjdjaaGreatDoor
