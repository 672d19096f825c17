/- The law TargetCuts: for every input it returns true; the arguments read as before; where the listed tables lie as the program's text lays them. -/
import Derived.Test.YtnmgpbihknjdjaaGreatDoorCutsProofsPf
namespace Go.Proofs.YtnmgpbihknjdjaaGreatDoor
open Go.ChangeShapes Go.WideShapes Go.ChangeAt Go.RowKit
theorem cdcuts_1 : Rows.targetCutsRow.wfByText (OpenSpec.ofChange Rows.targetCutsSpec) = true := by kernel_rfl
theorem cdcuts_2 : Tryz.pinned.checked.prog.mainIs = some (Rows.targetCutsCard.stood.harness.1, Rows.targetCutsCard.stood.harness.2.toList) := by kernel_rfl
theorem cdcuts_4 : Tryz.prog.funcNamed Rows.targetCutsRow.func = some 4 := by kernel_rfl
theorem cdcuts_5 : Rows.targetCutsCard.stood.looks = Tryz.pinned.checked.prog.looks [] := by kernel_rfl
theorem cdcuts_6 : (Tryz.f4.params.toList.all fun u => !Tryz.prog.wantsStandIn u) = true := by kernel_rfl
theorem cdcuts_7 : false = Rows.targetCutsRow.goesBy Tryz.pinned.checked.prog := by kernel_rfl
theorem targetCuts_card : Rows.TargetCutsCardSaid :=
 Claim7.holds_tied_plain_at .later [] [.data, .data] true Rows.targetCutsCard.stood.harness Rows.targetCutsCard.stood.looks
  targetCuts_row (fun _ h => by cases h) cdcuts_1 (fun _ h => by cases h) targetCuts_row_tie rfl ⟨rfl, rfl⟩ cdcuts_2 rfl
  (fun f fn hf hfn => by
   obtain rfl : f = 4 := Option.some.inj (cdcuts_4.symm.trans hf) |>.symm
   obtain rfl : fn = Tryz.f4 := (Option.some.inj (Tryz.func4.symm.trans hfn)).symm
   refine ⟨cdcuts_5, fun j t ht => ?_⟩
   have hm : t ∈ Tryz.f4.params.toList := by simpa using Array.mem_of_getElem? ht
   exact (show Tryz.prog.wantsStandIn t = false by simpa using List.all_eq_true.1 cdcuts_6 t hm))
  cdcuts_7
#print axioms targetCuts_card
end Go.Proofs.YtnmgpbihknjdjaaGreatDoor
