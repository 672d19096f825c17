/- The law TargetDates: for every input it returns true; the arguments read as before; where the listed tables lie as the program's text lays them. -/
import Derived.Test.YtnmgpbihknjdjaaGreatDoorDatesProofsPg
set_option linter.unusedVariables false
set_option linter.unusedSimpArgs false
namespace Go.Proofs.YtnmgpbihknjdjaaGreatDoor
open Go.ChangeShapes Go.WideShapes Go.ChangeAt Go.RowKit
theorem cddates_1 : Rows.targetDatesRow.wfByText (OpenSpec.ofChange Rows.targetDatesSpec) = true := by kernel_rfl
theorem cddates_2 : Tryz.pinned.checked.prog.mainIs = some (Rows.targetDatesCard.stood.harness.1, Rows.targetDatesCard.stood.harness.2.toList) := by kernel_rfl
theorem cddates_4 : Tryz.prog.funcNamed Rows.targetDatesRow.func = some 7 := by kernel_rfl
theorem cddates_5 : Rows.targetDatesCard.stood.looks = Tryz.pinned.checked.prog.looks [] := by kernel_rfl
theorem cddates_6 : (Tryz.f7.params.toList.all fun u => !Tryz.prog.wantsStandIn u) = true := by kernel_rfl
theorem cddates_7 : false = Rows.targetDatesRow.goesBy Tryz.pinned.checked.prog := by kernel_rfl
theorem targetDates_card : Rows.TargetDatesCardSaid :=
 Claim7.holds_tied_plain_at .later [] [.data, .data] true Rows.targetDatesCard.stood.harness Rows.targetDatesCard.stood.looks
  targetDates_row (fun _ h => by cases h) cddates_1 (fun _ h => by cases h) targetDates_row_tie rfl ⟨rfl, rfl⟩ cddates_2 rfl
  (fun f fn hf hfn => by
   obtain rfl : f = 7 := Option.some.inj (cddates_4.symm.trans hf) |>.symm
   obtain rfl : fn = Tryz.f7 := (Option.some.inj (Tryz.func7.symm.trans hfn)).symm
   refine ⟨cddates_5, fun j t ht => ?_⟩
   have hm : t ∈ Tryz.f7.params.toList := by simpa using Array.mem_of_getElem? ht
   exact (show Tryz.prog.wantsStandIn t = false by simpa using List.all_eq_true.1 cddates_6 t hm))
  cddates_7
#print axioms targetDates_card
end Go.Proofs.YtnmgpbihknjdjaaGreatDoor
