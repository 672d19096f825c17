/- The law TopTargetMirror: for every input it returns true; the arguments read as before; where the listed tables lie as the program's text lays them. -/
import Derived.Test.YtnmgpbihknjdjaaDoorMirrorProofsPf
set_option linter.unusedVariables false
set_option linter.unusedSimpArgs false
namespace Go.Proofs.YtnmgpbihknjdjaaDoor
open Go.ChangeShapes Go.WideShapes Go.ChangeAt Go.RowKit
theorem cdmirror_1 : Rows.topTargetMirrorRow.wfByText (OpenSpec.ofChange Rows.topTargetMirrorSpec) = true := by kernel_rfl
theorem cdmirror_2 : Tryd.pinned.checked.prog.mainIs = some (Rows.topTargetMirrorCard.stood.harness.1, Rows.topTargetMirrorCard.stood.harness.2.toList) := by kernel_rfl
theorem cdmirror_4 : Tryd.prog.funcNamed Rows.topTargetMirrorRow.func = some 3 := by kernel_rfl
theorem cdmirror_5 : Rows.topTargetMirrorCard.stood.looks = Tryd.pinned.checked.prog.looks [] := by kernel_rfl
theorem cdmirror_6 : (Tryd.f3.params.toList.all fun u => !Tryd.prog.wantsStandIn u) = true := by kernel_rfl
theorem cdmirror_7 : false = Rows.topTargetMirrorRow.goesBy Tryd.pinned.checked.prog := by kernel_rfl
theorem topTargetMirror_card : Rows.TopTargetMirrorCardSaid :=
 Claim7.holds_tied_plain_at .later [] [.data, .data] true Rows.topTargetMirrorCard.stood.harness Rows.topTargetMirrorCard.stood.looks
  topTargetMirror_row (fun _ h => by cases h) cdmirror_1 (fun _ h => by cases h) topTargetMirror_row_tie rfl ⟨rfl, rfl⟩ cdmirror_2 rfl
  (fun f fn hf hfn => by
   obtain rfl : f = 3 := Option.some.inj (cdmirror_4.symm.trans hf) |>.symm
   obtain rfl : fn = Tryd.f3 := (Option.some.inj (Tryd.func3.symm.trans hfn)).symm
   refine ⟨cdmirror_5, fun j t ht => ?_⟩
   have hm : t ∈ Tryd.f3.params.toList := by simpa using Array.mem_of_getElem? ht
   exact (show Tryd.prog.wantsStandIn t = false by simpa using List.all_eq_true.1 cdmirror_6 t hm))
  cdmirror_7
#print axioms topTargetMirror_card
end Go.Proofs.YtnmgpbihknjdjaaDoor
