/- The law TargetCalls: for every input it returns true; the arguments read as before; where the listed tables lie as the program's text lays them. -/
import Derived.Test.YtnmgpbihknjdjaaGreatDoorCallsProofsPg
set_option linter.unusedVariables false
set_option linter.unusedSimpArgs false
namespace Go.Proofs.YtnmgpbihknjdjaaGreatDoor
open Go.ChangeShapes Go.WideShapes Go.ChangeAt Go.RowKit
theorem cdcalls_1 : Rows.targetCallsRow.wfByText (OpenSpec.ofChange Rows.targetCallsSpec) = true := by kernel_rfl
theorem cdcalls_2 : Tryz.pinned.checked.prog.mainIs = some (Rows.targetCallsCard.stood.harness.1, Rows.targetCallsCard.stood.harness.2.toList) := by kernel_rfl
theorem cdcalls_4 : Tryz.prog.funcNamed Rows.targetCallsRow.func = some 11 := by kernel_rfl
theorem cdcalls_5 : Rows.targetCallsCard.stood.looks = Tryz.pinned.checked.prog.looks [] := by kernel_rfl
theorem cdcalls_6 : (Tryz.f11.params.toList.all fun u => !Tryz.prog.wantsStandIn u) = true := by kernel_rfl
theorem cdcalls_7 : false = Rows.targetCallsRow.goesBy Tryz.pinned.checked.prog := by kernel_rfl
theorem targetCalls_card : Rows.TargetCallsCardSaid :=
 Claim7.holds_tied_plain_at .later [] [.data, .data] true Rows.targetCallsCard.stood.harness Rows.targetCallsCard.stood.looks
  targetCalls_row (fun _ h => by cases h) cdcalls_1 (fun _ h => by cases h) targetCalls_row_tie rfl ⟨rfl, rfl⟩ cdcalls_2 rfl
  (fun f fn hf hfn => by
   obtain rfl : f = 11 := Option.some.inj (cdcalls_4.symm.trans hf) |>.symm
   obtain rfl : fn = Tryz.f11 := (Option.some.inj (Tryz.func11.symm.trans hfn)).symm
   refine ⟨cdcalls_5, fun j t ht => ?_⟩
   have hm : t ∈ Tryz.f11.params.toList := by simpa using Array.mem_of_getElem? ht
   exact (show Tryz.prog.wantsStandIn t = false by simpa using List.all_eq_true.1 cdcalls_6 t hm))
  cdcalls_7
#print axioms targetCalls_card
end Go.Proofs.YtnmgpbihknjdjaaGreatDoor
