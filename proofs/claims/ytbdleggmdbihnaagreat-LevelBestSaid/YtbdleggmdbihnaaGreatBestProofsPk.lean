/- The law LevelBest: for every net it returns true; the arguments read as before. -/
import Derived.Test.YtbdleggmdbihnaaGreatBestProofsPf
namespace Go.Proofs.YtbdleggmdbihnaaGreat
open Go.ChangeShapes Go.WideShapes Go.ChangeAt Go.RowKit
def bestShs : List Sh := [netSh]
theorem best_runs (ms : List MV) (h : FitsL bestShs ms) : runZ MT (orC LZ 13) (itA 14) 4000000 3 ms [] = some (.lit (.bool true), []) := by
 obtain ⟨m1, r1, rfl, h1, h⟩ := fitsL_cons h
 obtain rfl := fitsL_nil h
 obtain ⟨n, rfl, q1, q2⟩ := fits_net h1
 exact LevelBest_z n q1 q2
set_option maxRecDepth 100000 in
theorem best_lifted (os : Os) (started : os.Started) (H : Type) (enc : TypeId × Value → H) :
  ReturnsInHanded {} Tryz.checked os 3 .any (Rows.levelBestSpec.pre6 enc Tryz.prog Tryz.f3 Rows.levelBestRow.domain false) (Rows.levelBestSpec.post enc Tryz.prog Tryz.f3 false true false false) := by
 refine returnsInHanded_of_change (C := Tryz.checked) Tryz.own started (by kernel_rfl) Tryz.func3
  (ChangeSpec.witness6 (enc := enc) (C := Tryz.checked) false ⟨#[], #[.agg #[.slice none 0 0, .slice none 0 0]], []⟩ 8 (by kernel_rfl) (by kernel_rfl) (by kernel_rfl) (by kernel_rfl)) ?_
 intro W base args ds gs before hval hW _ _
 exact law_contract (orC_ok LZ 13) bestShs (by kernel_rfl) (by kernel_rfl) rfl rfl (fun ds h => by match ds, h with | [_], _ => exact ⟨rfl, rfl, rfl⟩) best_runs W base args ds gs before hval hW
theorem levelBest_holds : Rows.LevelBestSaid :=
 OpenClaim.holds_of_wide 3 Tryz.f3 rfl rfl rfl rfl rfl rfl rfl ⟨rfl, rfl, rfl, rfl, rfl⟩ rfl rfl rfl rfl rfl (by kernel_rfl) Tryz.func3 (by kernel_rfl)
  (of_decide_eq_true (by kernel_rfl)) (by unfold Func.isWrapper; rw [if_neg (of_decide_eq_false (by kernel_rfl))]; exact ⟨rfl, rfl⟩)
  (fun os started H enc _ => best_lifted os started H enc)
#print axioms levelBest_holds
end Go.Proofs.YtbdleggmdbihnaaGreat
