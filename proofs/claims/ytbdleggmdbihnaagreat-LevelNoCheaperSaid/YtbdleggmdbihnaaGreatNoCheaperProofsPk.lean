/- The law LevelNoCheaper: for every net, corrections and flow it returns true; the arguments read as before. -/
import Derived.Test.YtbdleggmdbihnaaGreatNoCheaperProofsPf
namespace Go.Proofs.YtbdleggmdbihnaaGreat
open Go.ChangeShapes Go.WideShapes Go.ChangeAt Go.RowKit
def cheapShs : List Sh := [netSh, .slice (.int .i64), .slice (.int .i64)]
theorem cheap_runs (ms : List MV) (h : FitsL cheapShs ms) : runZ MT (orC LZ 13) (itA 14) 4000000 6 ms [] = some (.lit (.bool true), []) := by
 obtain ⟨m1, r1, rfl, h1, h⟩ := fitsL_cons h
 obtain ⟨m2, r2, rfl, h2, h⟩ := fitsL_cons h
 obtain ⟨m3, r3, rfl, h3, h⟩ := fitsL_cons h
 obtain rfl := fitsL_nil h
 obtain ⟨n, rfl, q1, q2⟩ := fits_net h1
 obtain ⟨a, rfl, q3, -⟩ := fits_ints h2
 obtain ⟨b, rfl, q4, -⟩ := fits_ints h3
 exact LevelNoCheaper_z n a b q1 q2 (Nat.le_trans q3 maxLen_le) (Nat.le_trans q4 maxLen_le)
set_option maxRecDepth 100000 in
theorem cheap_lifted (os : Os) (started : os.Started) (H : Type) (enc : TypeId × Value → H) :
  ReturnsInHanded {} Tryz.checked os 6 .any (Rows.levelNoCheaperSpec.pre6 enc Tryz.prog Tryz.f6 Rows.levelNoCheaperRow.domain false) (Rows.levelNoCheaperSpec.post enc Tryz.prog Tryz.f6 false true false false) := by
 refine returnsInHanded_of_change (C := Tryz.checked) Tryz.own started (by kernel_rfl) Tryz.func6
  (ChangeSpec.witness6 (enc := enc) (C := Tryz.checked) false ⟨#[], #[.agg #[.slice none 0 0, .slice none 0 0], .slice none 0 0, .slice none 0 0], []⟩ 8 (by kernel_rfl) (by kernel_rfl) (by kernel_rfl) (by kernel_rfl)) ?_
 intro W base args ds gs before hval hW _ _
 exact law_contract (orC_ok LZ 13) cheapShs (by kernel_rfl) (by kernel_rfl) rfl rfl (fun ds h => by match ds, h with | [_, _, _], _ => exact ⟨rfl, rfl, rfl⟩) cheap_runs W base args ds gs before hval hW
theorem levelNoCheaper_holds : Rows.LevelNoCheaperSaid :=
 OpenClaim.holds_of_wide 6 Tryz.f6 rfl rfl rfl rfl rfl rfl rfl ⟨rfl, rfl, rfl, rfl, rfl⟩ rfl rfl rfl rfl rfl (by kernel_rfl) Tryz.func6 (by kernel_rfl)
  (of_decide_eq_true (by kernel_rfl)) (by unfold Func.isWrapper; rw [if_neg (of_decide_eq_false (by kernel_rfl))]; exact ⟨rfl, rfl⟩)
  (fun os started H enc _ => cheap_lifted os started H enc)
#print axioms levelNoCheaper_holds
end Go.Proofs.YtbdleggmdbihnaaGreat
