/- The law DrapeInfills: for all strips, infills and packings it returns true; the arguments read as before. -/
import Derived.Test.YtgjpdjihjphbdaaStripLift
import Derived.Test.YtgjpdjihjphbdaaInfW
namespace Go.Proofs.Ytgjpdjihjphbdaa
open Go.ChangeShapes Go.WideShapes Go.ChangeAt Go.RowKit

theorem infills_runs (ms : List MV) (h : FitsL stripShs ms) : runZ MT (orA 12) (itA 12) 1000000 8 ms [] = some (.lit (.bool true), []) := by
  obtain ⟨a, b, c, fl, lo, xs, ys, rfl, hf, hl, hx, hy⟩ := fits_strip h
  exact DrapeInfills_z a b c fl lo xs ys hf hl hx hy

set_option maxRecDepth 100000 in
theorem infills_lifted (os : Os) (started : os.Started) (H : Type) (enc : TypeId × Value → H) :
    ReturnsInHanded {} Try.checked os 8 .any (Rows.drapeInfillsSpec.pre6 enc Try.prog Try.f8 Rows.drapeInfillsRow.domain false) (Rows.drapeInfillsSpec.post enc Try.prog Try.f8 false true false false) := by
  refine returnsInHanded_of_change (C := Try.checked) Try.own started (by kernel_rfl) Try.func8
    (ChangeSpec.witness6 (enc := enc) (C := Try.checked) false ⟨#[], #[.agg #[.int .i64 0, .int .i64 0, .int .i64 0, .slice none 0 0, .slice none 0 0], .slice none 0 0, .slice none 0 0], []⟩ 8 (by kernel_rfl) (by kernel_rfl) (by kernel_rfl) (by kernel_rfl)) ?_
  intro W base args ds gs before hval hW _ _
  exact law_contract stripShs (by kernel_rfl) (by kernel_rfl) rfl rfl (fun ds h => by match ds, h with | [_, _, _], _ => exact ⟨rfl, rfl, rfl⟩) infills_runs W base args ds gs before hval hW

theorem drapeInfills_holds : Rows.DrapeInfillsSaid :=
  OpenClaim.holds_of_wide 8 Try.f8 rfl rfl rfl rfl rfl rfl rfl ⟨rfl, rfl, rfl, rfl, rfl⟩ rfl rfl rfl rfl rfl (by kernel_rfl) Try.func8 (by kernel_rfl)
    (of_decide_eq_true (by kernel_rfl)) (by unfold Func.isWrapper; rw [if_neg (of_decide_eq_false (by kernel_rfl))]; exact ⟨rfl, rfl⟩)
    (fun os started H enc _ => infills_lifted os started H enc)
#print axioms drapeInfills_holds
end Go.Proofs.Ytgjpdjihjphbdaa
