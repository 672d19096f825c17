/- The law LevelCrossed: for every net, corrections and value it returns true; the arguments read as before. -/
import Derived.Test.YtbdleggmdbihnaaCrossedProofsPf
namespace Go.Proofs.Ytbdleggmdbihnaa
open Go.ChangeShapes Go.WideShapes Go.ChangeAt Go.RowKit
def crossedShs : List Sh := [netSh, .slice (.int .i64), .int .i64]
theorem crossed_runs (ms : List MV) (h : FitsL crossedShs ms) : runZ MT (orA 14) (itA 14) 4000000 5 ms [] = some (.lit (.bool true), []) := by
  obtain ⟨m1, r1, rfl, h1, h⟩ := fitsL_cons h
  obtain ⟨m2, r2, rfl, h2, h⟩ := fitsL_cons h
  obtain ⟨m3, r3, rfl, h3, h⟩ := fitsL_cons h
  obtain rfl := fitsL_nil h
  obtain ⟨n, rfl, q1, q2⟩ := fits_net h1
  obtain ⟨c, rfl, q3, -⟩ := fits_ints h2
  obtain ⟨v, rfl, -⟩ := fits_int h3
  exact LevelCrossed_z n c v q1 q2 (Nat.le_trans q3 maxLen_le)
set_option maxRecDepth 100000 in
theorem crossed_lifted (os : Os) (started : os.Started) (H : Type) (enc : TypeId × Value → H) :
    ReturnsInHanded {} Try.checked os 5 .any (Rows.levelCrossedSpec.pre6 enc Try.prog Try.f5 Rows.levelCrossedRow.domain false) (Rows.levelCrossedSpec.post enc Try.prog Try.f5 false true false false) := by
  refine returnsInHanded_of_change (C := Try.checked) Try.own started (by kernel_rfl) Try.func5
    (ChangeSpec.witness6 (enc := enc) (C := Try.checked) false ⟨#[], #[.agg #[.slice none 0 0, .slice none 0 0], .slice none 0 0, .int .i64 0], []⟩ 8 (by kernel_rfl) (by kernel_rfl) (by kernel_rfl) (by kernel_rfl)) ?_
  intro W base args ds gs before hval hW _ _
  exact law_contract crossedShs (by kernel_rfl) (by kernel_rfl) rfl rfl (fun ds h => by match ds, h with | [_, _, _], _ => exact ⟨rfl, rfl, rfl⟩) crossed_runs W base args ds gs before hval hW
theorem levelCrossed_holds : Rows.LevelCrossedSaid :=
  OpenClaim.holds_of_wide 5 Try.f5 rfl rfl rfl rfl rfl rfl rfl ⟨rfl, rfl, rfl, rfl, rfl⟩ rfl rfl rfl rfl rfl (by kernel_rfl) Try.func5 (by kernel_rfl)
    (of_decide_eq_true (by kernel_rfl)) (by unfold Func.isWrapper; rw [if_neg (of_decide_eq_false (by kernel_rfl))]; exact ⟨rfl, rfl⟩)
    (fun os started H enc _ => crossed_lifted os started H enc)
#print axioms levelCrossed_holds
end Go.Proofs.Ytbdleggmdbihnaa
