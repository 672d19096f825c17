/- The law TargetSets: for every input it returns true; the arguments read as before; where the listed tables lie as the program's text lays them. -/
import Derived.Test.YtnmgpbihknjdjaaGreatDoorSetsProofsPf
set_option linter.unusedVariables false
set_option linter.unusedSimpArgs false
namespace Go.Proofs.YtnmgpbihknjdjaaGreatDoor
open Go.ChangeShapes Go.WideShapes Go.ChangeAt Go.RowKit
theorem cdsets_1 : Rows.targetSetsRow.wfByText (OpenSpec.ofChange Rows.targetSetsSpec) = true := by kernel_rfl
theorem cdsets_2 : Tryz.pinned.checked.prog.mainIs = some (Rows.targetSetsCard.stood.harness.1, Rows.targetSetsCard.stood.harness.2.toList) := by kernel_rfl
theorem cdsets_4 : Tryz.prog.funcNamed Rows.targetSetsRow.func = some 3 := by kernel_rfl
theorem cdsets_5 : Rows.targetSetsCard.stood.looks = Tryz.pinned.checked.prog.looks [] := by kernel_rfl
theorem cdsets_6 : (Tryz.f3.params.toList.all fun u => !Tryz.prog.wantsStandIn u) = true := by kernel_rfl
theorem cdsets_7 : false = Rows.targetSetsRow.goesBy Tryz.pinned.checked.prog := by kernel_rfl
theorem targetSets_card : Rows.TargetSetsCardSaid :=
 Claim7.holds_tied_plain_at .later [] [.data, .data] true Rows.targetSetsCard.stood.harness Rows.targetSetsCard.stood.looks
  targetSets_row (fun _ h => by cases h) cdsets_1 (fun _ h => by cases h) targetSets_row_tie rfl ⟨rfl, rfl⟩ cdsets_2 rfl
  (fun f fn hf hfn => by
   obtain rfl : f = 3 := Option.some.inj (cdsets_4.symm.trans hf) |>.symm
   obtain rfl : fn = Tryz.f3 := (Option.some.inj (Tryz.func3.symm.trans hfn)).symm
   refine ⟨cdsets_5, fun j t ht => ?_⟩
   have hm : t ∈ Tryz.f3.params.toList := by simpa using Array.mem_of_getElem? ht
   exact (show Tryz.prog.wantsStandIn t = false by simpa using List.all_eq_true.1 cdsets_6 t hm))
  cdsets_7
#print axioms targetSets_card
end Go.Proofs.YtnmgpbihknjdjaaGreatDoor
