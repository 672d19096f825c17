/- The law TargetBounded: for every input it returns true; the arguments read as before; where the listed tables lie as the program's text lays them. -/
import Derived.Test.YtnmgpbihknjdjaaGreatDoorBoundedProofsPg
set_option linter.unusedVariables false
set_option linter.unusedSimpArgs false
namespace Go.Proofs.YtnmgpbihknjdjaaGreatDoor
open Go.ChangeShapes Go.WideShapes Go.ChangeAt Go.RowKit
theorem cdbounded_1 : Rows.targetBoundedRow.wfByText (OpenSpec.ofChange Rows.targetBoundedSpec) = true := by kernel_rfl
theorem cdbounded_2 : Tryz.pinned.checked.prog.mainIs = some (Rows.targetBoundedCard.stood.harness.1, Rows.targetBoundedCard.stood.harness.2.toList) := by kernel_rfl
theorem cdbounded_4 : Tryz.prog.funcNamed Rows.targetBoundedRow.func = some 6 := by kernel_rfl
theorem cdbounded_5 : Rows.targetBoundedCard.stood.looks = Tryz.pinned.checked.prog.looks [] := by kernel_rfl
theorem cdbounded_6 : (Tryz.f6.params.toList.all fun u => !Tryz.prog.wantsStandIn u) = true := by kernel_rfl
theorem cdbounded_7 : false = Rows.targetBoundedRow.goesBy Tryz.pinned.checked.prog := by kernel_rfl
theorem targetBounded_card : Rows.TargetBoundedCardSaid :=
 Claim7.holds_tied_plain_at .later [] [.data, .data] true Rows.targetBoundedCard.stood.harness Rows.targetBoundedCard.stood.looks
  targetBounded_row (fun _ h => by cases h) cdbounded_1 (fun _ h => by cases h) targetBounded_row_tie rfl ⟨rfl, rfl⟩ cdbounded_2 rfl
  (fun f fn hf hfn => by
   obtain rfl : f = 6 := Option.some.inj (cdbounded_4.symm.trans hf) |>.symm
   obtain rfl : fn = Tryz.f6 := (Option.some.inj (Tryz.func6.symm.trans hfn)).symm
   refine ⟨cdbounded_5, fun j t ht => ?_⟩
   have hm : t ∈ Tryz.f6.params.toList := by simpa using Array.mem_of_getElem? ht
   exact (show Tryz.prog.wantsStandIn t = false by simpa using List.all_eq_true.1 cdbounded_6 t hm))
  cdbounded_7
#print axioms targetBounded_card
end Go.Proofs.YtnmgpbihknjdjaaGreatDoor
