/- The law DrapeWindows: for all strips, infills and packings it returns true; the arguments read as before. -/
import Derived.Test.YtgjpdjihjphbdaaStripLift
import Derived.Test.YtgjpdjihjphbdaaWinW
namespace Go.Proofs.Ytgjpdjihjphbdaa
open Go.ChangeShapes Go.WideShapes Go.ChangeAt Go.RowKit

theorem windows_runs (ms : List MV) (h : FitsL stripShs ms) : runZ MT (orA 12) (itA 12) 1000000 9 ms [] = some (.lit (.bool true), []) := by
  obtain ⟨a, b, c, fl, lo, xs, ys, rfl, hf, hl, hx, hy⟩ := fits_strip h
  exact DrapeWindows_z a b c fl lo xs ys hf hl hx hy

set_option maxRecDepth 100000 in
theorem windows_lifted (os : Os) (started : os.Started) (H : Type) (enc : TypeId × Value → H) :
    ReturnsInHanded {} Try.checked os 9 .any (Rows.drapeWindowsSpec.pre6 enc Try.prog Try.f9 Rows.drapeWindowsRow.domain false) (Rows.drapeWindowsSpec.post enc Try.prog Try.f9 false true false false) := by
  refine returnsInHanded_of_change (C := Try.checked) Try.own started (by kernel_rfl) Try.func9
    (ChangeSpec.witness6 (enc := enc) (C := Try.checked) false ⟨#[], #[.agg #[.int .i64 0, .int .i64 0, .int .i64 0, .slice none 0 0, .slice none 0 0], .slice none 0 0, .slice none 0 0], []⟩ 8 (by kernel_rfl) (by kernel_rfl) (by kernel_rfl) (by kernel_rfl)) ?_
  intro W base args ds gs before hval hW _ _
  exact law_contract stripShs (by kernel_rfl) (by kernel_rfl) rfl rfl (fun ds h => by match ds, h with | [_, _, _], _ => exact ⟨rfl, rfl, rfl⟩) windows_runs W base args ds gs before hval hW

theorem drapeWindows_holds : Rows.DrapeWindowsSaid :=
  OpenClaim.holds_of_wide 9 Try.f9 rfl rfl rfl rfl rfl rfl rfl ⟨rfl, rfl, rfl, rfl, rfl⟩ rfl rfl rfl rfl rfl (by kernel_rfl) Try.func9 (by kernel_rfl)
    (of_decide_eq_true (by kernel_rfl)) (by unfold Func.isWrapper; rw [if_neg (of_decide_eq_false (by kernel_rfl))]; exact ⟨rfl, rfl⟩)
    (fun os started H enc _ => windows_lifted os started H enc)
#print axioms drapeWindows_holds
end Go.Proofs.Ytgjpdjihjphbdaa
