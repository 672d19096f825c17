/- The law LevelAnomalies: for every net, anomaly, corrections and walk it returns true; the arguments read as before. -/
import Derived.Test.YtbdleggmdbihnaaAnomaliesProofsPf
namespace Go.Proofs.Ytbdleggmdbihnaa
open Go.ChangeShapes Go.WideShapes Go.ChangeAt Go.RowKit
def anomsShs : List Sh := [netSh, .slice (.int .i64), .agg [.slice (.int .i64), .slice (.int .i64)]]
theorem anoms_runs (ms : List MV) (h : FitsL anomsShs ms) : runZ MT (orC LZ 13) (itA 14) 4000000 4 ms [] = some (.lit (.bool true), []) := by
  obtain ⟨m1, r1, rfl, h1, h⟩ := fitsL_cons h
  obtain ⟨m2, r2, rfl, h2, h⟩ := fitsL_cons h
  obtain ⟨m3, r3, rfl, h3, h⟩ := fitsL_cons h
  obtain rfl := fitsL_nil h
  obtain ⟨n, rfl, q1, q2⟩ := fits_net h1
  obtain ⟨a, rfl, q3, -⟩ := fits_ints h2
  obtain ⟨ms, h', rfl⟩ := fits_agg h3
  obtain ⟨m4, r4, rfl, h4, h⟩ := fitsL_cons h'
  obtain ⟨m5, r5, rfl, h5, h⟩ := fitsL_cons h
  obtain rfl := fitsL_nil h
  obtain ⟨c, rfl, q4, -⟩ := fits_ints h4
  obtain ⟨w, rfl, q5, -⟩ := fits_ints h5
  exact LevelAnomalies_z n a c w q1 q2 (Nat.le_trans q3 maxLen_le) (Nat.le_trans q4 maxLen_le) (Nat.le_trans q5 maxLen_le)
set_option maxRecDepth 100000 in
theorem anoms_lifted (os : Os) (started : os.Started) (H : Type) (enc : TypeId × Value → H) :
    ReturnsInHanded {} Try.checked os 4 .any (Rows.levelAnomaliesSpec.pre6 enc Try.prog Try.f4 Rows.levelAnomaliesRow.domain false) (Rows.levelAnomaliesSpec.post enc Try.prog Try.f4 false true false false) := by
  refine returnsInHanded_of_change (C := Try.checked) Try.own started (by kernel_rfl) Try.func4
    (ChangeSpec.witness6 (enc := enc) (C := Try.checked) false ⟨#[], #[.agg #[.slice none 0 0, .slice none 0 0], .slice none 0 0, .agg #[.slice none 0 0, .slice none 0 0]], []⟩ 8 (by kernel_rfl) (by kernel_rfl) (by kernel_rfl) (by kernel_rfl)) ?_
  intro W base args ds gs before hval hW _ _
  exact law_contract (orC_ok LZ 13) anomsShs (by kernel_rfl) (by kernel_rfl) rfl rfl (fun ds h => by match ds, h with | [_, _, _], _ => exact ⟨rfl, rfl, rfl⟩) anoms_runs W base args ds gs before hval hW
theorem levelAnomalies_holds : Rows.LevelAnomaliesSaid :=
  OpenClaim.holds_of_wide 4 Try.f4 rfl rfl rfl rfl rfl rfl rfl ⟨rfl, rfl, rfl, rfl, rfl⟩ rfl rfl rfl rfl rfl (by kernel_rfl) Try.func4 (by kernel_rfl)
    (of_decide_eq_true (by kernel_rfl)) (by unfold Func.isWrapper; rw [if_neg (of_decide_eq_false (by kernel_rfl))]; exact ⟨rfl, rfl⟩)
    (fun os started H enc _ => anoms_lifted os started H enc)
#print axioms levelAnomalies_holds
end Go.Proofs.Ytbdleggmdbihnaa
