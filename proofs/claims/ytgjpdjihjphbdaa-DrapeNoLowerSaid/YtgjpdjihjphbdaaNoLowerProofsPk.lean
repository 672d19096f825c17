/- The law DrapeNoLower: for every task, every surface and every number it returns true; the arguments read as before. -/
import Derived.Test.YtgjpdjihjphbdaaNoLowerProofsPf
namespace Go.Proofs.Ytgjpdjihjphbdaa
open Go.ChangeShapes Go.WideShapes Go.ChangeAt Go.RowKit

def noLowerShs : List Sh := [taskSh, .slice (.slice (.int .i64)), .int .i64]
theorem noLower_runs (ms : List MV) (h : FitsL noLowerShs ms) : runZ MT (orA 12) (itA 12) 4000000 11 ms [] = some (.lit (.bool true), []) := by
  obtain ⟨m1, r1, rfl, h1, h⟩ := fitsL_cons h
  obtain ⟨m2, r2, rfl, h2, h⟩ := fitsL_cons h
  obtain ⟨m3, r3, rfl, h3, h⟩ := fitsL_cons h
  obtain rfl := fitsL_nil h
  obtain ⟨t, rfl, q1, q2, q3, q4⟩ := fits_task h1
  obtain ⟨s, rfl, q5, q6⟩ := fits_lists h2
  obtain ⟨n, rfl, -⟩ := fits_int h3
  exact DrapeNoLower_z t s n q1 q2 q3 q4 (Nat.le_trans q5 maxLen_le) fun r hr => Nat.le_trans (q6 r hr) maxLen_le

set_option maxRecDepth 100000 in
theorem noLower_lifted (os : Os) (started : os.Started) (H : Type) (enc : TypeId × Value → H) :
    ReturnsInHanded {} Try.checked os 11 .any (Rows.drapeNoLowerSpec.pre6 enc Try.prog Try.f11 Rows.drapeNoLowerRow.domain false) (Rows.drapeNoLowerSpec.post enc Try.prog Try.f11 false true false false) := by
  refine returnsInHanded_of_change (C := Try.checked) Try.own started (by kernel_rfl) Try.func11
    (ChangeSpec.witness6 (enc := enc) (C := Try.checked) false ⟨#[], #[.agg #[.slice none 0 0, .slice none 0 0, .slice none 0 0, .int .i64 0, .int .i64 0], .slice none 0 0, .int .i64 0], []⟩ 8 (by kernel_rfl) (by kernel_rfl) (by kernel_rfl) (by kernel_rfl)) ?_
  intro W base args ds gs before hval hW _ _
  exact law_contract noLowerShs (by kernel_rfl) (by kernel_rfl) rfl rfl (fun ds h => by match ds, h with | [_, _, _], _ => exact ⟨rfl, rfl, rfl⟩) noLower_runs W base args ds gs before hval hW

theorem drapeNoLower_holds : Rows.DrapeNoLowerSaid :=
  OpenClaim.holds_of_wide 11 Try.f11 rfl rfl rfl rfl rfl rfl rfl ⟨rfl, rfl, rfl, rfl, rfl⟩ rfl rfl rfl rfl rfl (by kernel_rfl) Try.func11 (by kernel_rfl)
    (of_decide_eq_true (by kernel_rfl)) (by unfold Func.isWrapper; rw [if_neg (of_decide_eq_false (by kernel_rfl))]; exact ⟨rfl, rfl⟩)
    (fun os started H enc _ => noLower_lifted os started H enc)
#print axioms drapeNoLower_holds
end Go.Proofs.Ytgjpdjihjphbdaa
