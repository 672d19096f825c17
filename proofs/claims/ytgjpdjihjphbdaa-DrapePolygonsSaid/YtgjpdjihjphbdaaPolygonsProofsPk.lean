/- The law DrapePolygons: for every polygon and every position it returns true; the arguments read as before. -/
import Derived.Test.YtgjpdjihjphbdaaPolygonsProofsPe
namespace Go.Proofs.Ytgjpdjihjphbdaa
open Go.ChangeShapes Go.WideShapes Go.ChangeAt Go.RowKit

def polygonsShs : List Sh := [.agg [.slice (.agg [.int .i64, .int .i64])], .agg [.int .i64, .int .i64]]
theorem encR_pt (cs : List Pt) : cs.map encR = cs.map encPt := by
  have : encR = (fun p : Pt => encPt p) := funext fun ⟨a, b⟩ => rfl
  rw [this]
theorem polygons_runs (ms : List MV) (h : FitsL polygonsShs ms) : runZ MT (orA 12) (itA 12) 4000000 4 ms [] = some (.lit (.bool true), []) := by
  obtain ⟨m1, r1, rfl, h1, h⟩ := fitsL_cons h
  obtain ⟨m2, r2, rfl, h2, h⟩ := fitsL_cons h
  obtain rfl := fitsL_nil h
  obtain ⟨ns, h3, rfl⟩ := fits_agg h1
  obtain ⟨n1, s1, rfl, h4, h5⟩ := fitsL_cons h3
  obtain rfl := fitsL_nil h5
  obtain ⟨cs, rfl, _, _⟩ := fits_pairs h4
  obtain ⟨a, b, rfl, _, _⟩ := fits_pair h2
  rw [encR_pt]
  exact DrapePolygons_z cs (a, b)

set_option maxRecDepth 100000 in
theorem polygons_lifted (os : Os) (started : os.Started) (H : Type) (enc : TypeId × Value → H) :
    ReturnsInHanded {} Try.checked os 4 .any (Rows.drapePolygonsSpec.pre6 enc Try.prog Try.f4 Rows.drapePolygonsRow.domain false) (Rows.drapePolygonsSpec.post enc Try.prog Try.f4 false true false false) := by
  refine returnsInHanded_of_change (C := Try.checked) Try.own started (by kernel_rfl) Try.func4
    (ChangeSpec.witness6 (enc := enc) (C := Try.checked) false ⟨#[], #[.agg #[.slice none 0 0], .agg #[.int .i64 0, .int .i64 0]], []⟩ 8 (by kernel_rfl) (by kernel_rfl) (by kernel_rfl) (by kernel_rfl)) ?_
  intro W base args ds gs before hval hW _ _
  exact law_contract polygonsShs (by kernel_rfl) (by kernel_rfl) rfl rfl (fun ds h => by match ds, h with | [_, _], _ => exact ⟨rfl, rfl, rfl⟩) polygons_runs W base args ds gs before hval hW

theorem drapePolygons_holds : Rows.DrapePolygonsSaid :=
  OpenClaim.holds_of_wide 4 Try.f4 rfl rfl rfl rfl rfl rfl rfl ⟨rfl, rfl, rfl, rfl, rfl⟩ rfl rfl rfl rfl rfl (by kernel_rfl) Try.func4 (by kernel_rfl)
    (of_decide_eq_true (by kernel_rfl)) (by unfold Func.isWrapper; rw [if_neg (of_decide_eq_false (by kernel_rfl))]; exact ⟨rfl, rfl⟩)
    (fun os started H enc _ => polygons_lifted os started H enc)
#print axioms drapePolygons_holds
end Go.Proofs.Ytgjpdjihjphbdaa
