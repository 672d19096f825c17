/- The law TargetEveryBody: for every input it returns true; the arguments read as before; where the listed tables lie as the program's text lays them. -/
import Derived.Test.YtnmgpbihknjdjaaGreatDoorEveryBodyProofsPg
set_option linter.unusedVariables false
set_option linter.unusedSimpArgs false
namespace Go.Proofs.YtnmgpbihknjdjaaGreatDoor
open Go.ChangeShapes Go.WideShapes Go.ChangeAt Go.RowKit
theorem cdeveryBody_1 : Rows.targetEveryBodyRow.wfByText (OpenSpec.ofChange Rows.targetEveryBodySpec) = true := by kernel_rfl
theorem cdeveryBody_2 : Tryz.pinned.checked.prog.mainIs = some (Rows.targetEveryBodyCard.stood.harness.1, Rows.targetEveryBodyCard.stood.harness.2.toList) := by kernel_rfl
theorem cdeveryBody_4 : Tryz.prog.funcNamed Rows.targetEveryBodyRow.func = some 14 := by kernel_rfl
theorem cdeveryBody_5 : Rows.targetEveryBodyCard.stood.looks = Tryz.pinned.checked.prog.looks [] := by kernel_rfl
theorem cdeveryBody_6 : (Tryz.f14.params.toList.all fun u => !Tryz.prog.wantsStandIn u) = true := by kernel_rfl
theorem cdeveryBody_7 : false = Rows.targetEveryBodyRow.goesBy Tryz.pinned.checked.prog := by kernel_rfl
theorem targetEveryBody_card : Rows.TargetEveryBodyCardSaid :=
 Claim7.holds_tied_plain_at .later [] [.data, .data] true Rows.targetEveryBodyCard.stood.harness Rows.targetEveryBodyCard.stood.looks
  targetEveryBody_row (fun _ h => by cases h) cdeveryBody_1 (fun _ h => by cases h) targetEveryBody_row_tie rfl ⟨rfl, rfl⟩ cdeveryBody_2 rfl
  (fun f fn hf hfn => by
   obtain rfl : f = 14 := Option.some.inj (cdeveryBody_4.symm.trans hf) |>.symm
   obtain rfl : fn = Tryz.f14 := (Option.some.inj (Tryz.func14.symm.trans hfn)).symm
   refine ⟨cdeveryBody_5, fun j t ht => ?_⟩
   have hm : t ∈ Tryz.f14.params.toList := by simpa using Array.mem_of_getElem? ht
   exact (show Tryz.prog.wantsStandIn t = false by simpa using List.all_eq_true.1 cdeveryBody_6 t hm))
  cdeveryBody_7
#print axioms targetEveryBody_card
end Go.Proofs.YtnmgpbihknjdjaaGreatDoor
