/- The law LevelNets: for every net and corrections it returns true; the arguments read as before. -/
import Derived.Test.YtbdleggmdbihnaaGreatNetsProofsPg
namespace Go.Proofs.YtbdleggmdbihnaaGreat
open Go.ChangeShapes Go.WideShapes Go.ChangeAt Go.RowKit
def netsShs : List Sh := [netSh, .slice (.int .i64)]
theorem nets_runs (ms : List MV) (h : FitsL netsShs ms) : runZ MT (orC LC 13) (itA 14) 4000000 5 ms [] = some (.lit (.bool true), []) := by
  obtain ⟨m1, r1, rfl, h1, h⟩ := fitsL_cons h
  obtain ⟨m2, r2, rfl, h2, h⟩ := fitsL_cons h
  obtain rfl := fitsL_nil h
  obtain ⟨n, rfl, q1, q2⟩ := fits_net h1
  obtain ⟨a, rfl, q3, -⟩ := fits_ints h2
  exact LevelNets_z n a q1 q2 (Nat.le_trans q3 maxLen_le)
set_option maxRecDepth 100000 in
theorem nets_lifted (os : Os) (started : os.Started) (H : Type) (enc : TypeId × Value → H) :
    ReturnsInHanded {} Tryz.checked os 5 .any (Rows.levelNetsSpec.pre6 enc Tryz.prog Tryz.f5 Rows.levelNetsRow.domain false) (Rows.levelNetsSpec.post enc Tryz.prog Tryz.f5 false true false false) := by
  refine returnsInHanded_of_change (C := Tryz.checked) Tryz.own started (by kernel_rfl) Tryz.func5
    (ChangeSpec.witness6 (enc := enc) (C := Tryz.checked) false ⟨#[], #[.agg #[.slice none 0 0, .slice none 0 0], .slice none 0 0], []⟩ 8 (by kernel_rfl) (by kernel_rfl) (by kernel_rfl) (by kernel_rfl)) ?_
  intro W base args ds gs before hval hW _ _
  exact law_contract (orC_ok LC 13) netsShs (by kernel_rfl) (by kernel_rfl) rfl rfl (fun ds h => by match ds, h with | [_, _], _ => exact ⟨rfl, rfl, rfl⟩) nets_runs W base args ds gs before hval hW
theorem levelNets_holds : Rows.LevelNetsSaid :=
  OpenClaim.holds_of_wide 5 Tryz.f5 rfl rfl rfl rfl rfl rfl rfl ⟨rfl, rfl, rfl, rfl, rfl⟩ rfl rfl rfl rfl rfl (by kernel_rfl) Tryz.func5 (by kernel_rfl)
    (of_decide_eq_true (by kernel_rfl)) (by unfold Func.isWrapper; rw [if_neg (of_decide_eq_false (by kernel_rfl))]; exact ⟨rfl, rfl⟩)
    (fun os started H enc _ => nets_lifted os started H enc)
#print axioms levelNets_holds
end Go.Proofs.YtbdleggmdbihnaaGreat
