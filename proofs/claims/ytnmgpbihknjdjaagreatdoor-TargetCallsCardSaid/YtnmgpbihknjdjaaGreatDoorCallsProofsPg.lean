/- The row of TargetCalls. -/
import Derived.Test.YtnmgpbihknjdjaaGreatDoorCallsProofsPf
set_option linter.unusedVariables false
set_option linter.unusedSimpArgs false
/- The row of TargetCalls. -/
namespace Go.Proofs.YtnmgpbihknjdjaaGreatDoor
open Go Go.ChangeShapes Go.WideShapes Go.ChangeAt Go.RowKit
set_option linter.unusedVariables false
theorem jfcalls_0 : Rows.targetCallsRow.wf (OpenSpec.ofChange Rows.targetCallsSpec) = true := by kernel_rfl
theorem jfcalls_3 : Tryz.f11.params.all (Tryz.pinned.checked.prog.readableRec ·) = true := by kernel_rfl
theorem jfcalls_4 : namedTie Tryz.pinned.checked.prog Rows.targetCallsRow.named Rows.targetCallsSpec.vars = true := by kernel_rfl
theorem jfcalls_5 : (Rows.targetCallsRow.stops == []) = true := by kernel_rfl
theorem jfcalls_7 : (Rows.targetCallsRow.knobs == []) = true := by kernel_rfl
theorem jfcalls_9 : (Rows.targetCallsRow.inPlace == Tryz.pinned.checked.prog.inPlace 11) = true := by kernel_rfl
theorem jfcalls_10 : (Rows.targetCallsRow.unfollowed == Tryz.pinned.checked.prog.unfollowed 11) = true := by kernel_rfl
theorem jfcalls_11 : (Rows.targetCallsRow.recurses == Tryz.pinned.checked.prog.recurses 11) = true := by kernel_rfl
theorem jfcalls_12 : (Rows.targetCallsRow.named == Tryz.pinned.checked.prog.varsNamed 11) = true := by kernel_rfl
theorem jfcalls_13 : (Rows.targetCallsRow.maps == (Tryz.f11.params.toList ++ Rows.targetCallsSpec.plain.varTypes Tryz.pinned.checked.prog).any (Tryz.pinned.checked.prog.mapsRec ·)) = true := by kernel_rfl
theorem jfcalls_14 : (Rows.targetCallsRow.ifaces == (Tryz.f11.params.toList ++ Rows.targetCallsSpec.plain.varTypes Tryz.pinned.checked.prog).any (Tryz.pinned.checked.prog.ifacesRec ·)) = true := by kernel_rfl
theorem jfcalls_15 : (Rows.targetCallsRow.mapsOut == Tryz.pinned.checked.prog.mapsAmong Tryz.f11.resultTypes.toList) = true := by kernel_rfl
theorem jfcalls_16 : (Rows.targetCallsRow.loops == (Tryz.f11.params.toList ++ Rows.targetCallsSpec.plain.varTypes Tryz.pinned.checked.prog).any (Tryz.pinned.checked.prog.loopsFrom ·)) = true := by kernel_rfl
theorem jfcalls_17 : (Rows.targetCallsRow.wideKeys == (Tryz.f11.params.toList ++ Rows.targetCallsSpec.plain.varTypes Tryz.pinned.checked.prog ++ Tryz.f11.resultTypes.toList).any (Tryz.pinned.checked.prog.wideKeysFrom ·)) = true := by kernel_rfl
theorem jfcalls_18 : Rows.targetCallsSpec.vars.all (Tryz.pinned.checked.prog.varReadable ·) = true := by kernel_rfl
theorem jfcalls_19 : Tryz.f11.resultTypes.all (fun t => Tryz.pinned.checked.prog.readableRec t && decide (t < Tryz.pinned.checked.prog.types.size)) = true := by kernel_rfl
theorem jfcalls_20 : (Rows.targetCallsRow.ifacesOut == Tryz.f11.resultTypes.toList.any (Tryz.pinned.checked.prog.ifacesRec ·)) = true := by kernel_rfl
theorem jfcalls_21 : (Rows.targetCallsRow.loopsOut == Tryz.f11.resultTypes.toList.any (Tryz.pinned.checked.prog.loopsFrom ·)) = true := by kernel_rfl
theorem jfcalls_23 : Rows.targetCallsRow.shortTexts.isNone = true := by kernel_rfl
theorem jfcalls_26 : (Rows.targetCallsRow.lifted == Tryz.pinned.checked.prog.liftsFinal) = true := by kernel_rfl
theorem jfcalls_27 : (Tryz.pinned.checked.prog.make == some Rows.targetCallsRow.make) = true := by kernel_rfl
theorem jfcalls_29 : (Rows.targetCallsRow.pinned == Rows.targetCallsRow.pinnedBy) = true := by kernel_rfl
theorem jfcalls_30 : (Rows.targetCallsRow.veiled == (Tryz.f11.params.toList ++ Rows.targetCallsSpec.plain.varTypes Tryz.pinned.checked.prog ++ Tryz.f11.resultTypes.toList).any (Tryz.pinned.checked.prog.veiledRec ·)) = true := by kernel_rfl
theorem jfcalls_31 : Rows.targetCallsRow.veiledFits Tryz.pinned.checked.prog Tryz.f11.params.toList (Tryz.f11.params.toList ++ Rows.targetCallsSpec.plain.varTypes Tryz.pinned.checked.prog ++ Tryz.f11.resultTypes.toList) = true := by kernel_rfl
theorem jfcalls : joinedFacts Tryz.pinned.checked.prog 11 Tryz.f11 Rows.targetCallsSpec Rows.targetCallsRow = true := by
 unfold joinedFacts
 refine and_t (and_t (and_t (and_t (and_t (and_t (and_t (and_t (and_t (and_t (and_t (and_t (and_t (and_t (and_t (and_t (and_t (and_t (and_t (and_t (and_t (and_t (and_t (and_t (and_t (and_t (and_t (and_t (and_t (and_t (and_t jfcalls_0 jfA) jfB) jfcalls_3) jfcalls_4) jfcalls_5) jfC) jfcalls_7) jfD) jfcalls_9) jfcalls_10) jfcalls_11) jfcalls_12) jfcalls_13) jfcalls_14) jfcalls_15) jfcalls_16) jfcalls_17) jfcalls_18) jfcalls_19) jfcalls_20) jfcalls_21) jfG) jfcalls_23) jfE) jfF) jfcalls_26) jfcalls_27) (by kernel_rfl)) jfcalls_29) jfcalls_30) jfcalls_31
theorem targetCalls_row : Rows.targetCallsRow.holds Tryz.pinned (OpenSpec.ofChange Rows.targetCallsSpec) :=
 OpenClaim.holds_of_wide 11 Tryz.f11 rfl rfl rfl rfl rfl rfl rfl ⟨rfl, rfl, rfl, rfl, rfl⟩ rfl rfl rfl rfl rfl (by kernel_rfl) Tryz.func11 jfcalls
  (of_decide_eq_true (by kernel_rfl)) (by unfold Func.isWrapper; rw [if_neg (of_decide_eq_false (by kernel_rfl))]; exact ⟨rfl, rfl⟩)
  (fun os started H enc _ => calls_lifted os started H enc)
end Go.Proofs.YtnmgpbihknjdjaaGreatDoor
