/- The law TargetHonest: for every input it returns true; the arguments read as before; where the listed tables lie as the program's text lays them. -/
import Derived.Test.YtnmgpbihknjdjaaGreatDoorHonestProofsPf
set_option linter.unusedVariables false
set_option linter.unusedSimpArgs false
namespace Go.Proofs.YtnmgpbihknjdjaaGreatDoor
open Go.ChangeShapes Go.WideShapes Go.ChangeAt Go.RowKit
theorem cdhonest_1 : Rows.targetHonestRow.wfByText (OpenSpec.ofChange Rows.targetHonestSpec) = true := by kernel_rfl
theorem cdhonest_2 : Tryz.pinned.checked.prog.mainIs = some (Rows.targetHonestCard.stood.harness.1, Rows.targetHonestCard.stood.harness.2.toList) := by kernel_rfl
theorem cdhonest_4 : Tryz.prog.funcNamed Rows.targetHonestRow.func = some 12 := by kernel_rfl
theorem cdhonest_5 : Rows.targetHonestCard.stood.looks = Tryz.pinned.checked.prog.looks [] := by kernel_rfl
theorem cdhonest_6 : (Tryz.f12.params.toList.all fun u => !Tryz.prog.wantsStandIn u) = true := by kernel_rfl
theorem cdhonest_7 : false = Rows.targetHonestRow.goesBy Tryz.pinned.checked.prog := by kernel_rfl
theorem targetHonest_card : Rows.TargetHonestCardSaid :=
 Claim7.holds_tied_plain_at .later [] [.data, .data] true Rows.targetHonestCard.stood.harness Rows.targetHonestCard.stood.looks
  targetHonest_row (fun _ h => by cases h) cdhonest_1 (fun _ h => by cases h) targetHonest_row_tie rfl ⟨rfl, rfl⟩ cdhonest_2 rfl
  (fun f fn hf hfn => by
   obtain rfl : f = 12 := Option.some.inj (cdhonest_4.symm.trans hf) |>.symm
   obtain rfl : fn = Tryz.f12 := (Option.some.inj (Tryz.func12.symm.trans hfn)).symm
   refine ⟨cdhonest_5, fun j t ht => ?_⟩
   have hm : t ∈ Tryz.f12.params.toList := by simpa using Array.mem_of_getElem? ht
   exact (show Tryz.prog.wantsStandIn t = false by simpa using List.all_eq_true.1 cdhonest_6 t hm))
  cdhonest_7
#print axioms targetHonest_card
end Go.Proofs.YtnmgpbihknjdjaaGreatDoor
