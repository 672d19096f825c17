/- The law DrapeSurfaces: for every task it returns true; the arguments read as before. -/
import Derived.Test.YtgjpdjihjphbdaaSurfacesProofsPe
namespace Go.Proofs.Ytgjpdjihjphbdaa
open Go.ChangeShapes Go.WideShapes Go.ChangeAt Go.RowKit

def taskSh : Sh := .agg [.slice (.slice (.int .i64)), .slice (.int .i64), .slice (.int .i64), .int .i64, .int .i64]
theorem fits_lists {m : MV} (h : Fits (.slice (.slice (.int .i64))) m) : ∃ g : List (List Int), m = .sl (g.map encW) ∧ g.length ≤ maxLen ∧ ∀ r ∈ g, r.length ≤ maxLen := by
  rw [Fits] at h
  obtain ⟨es, rfl, hl, he⟩ := h
  induction es with
  | nil => exact ⟨[], rfl, by simp, fun n hn => by cases hn⟩
  | cons e es ih =>
    obtain ⟨r, rfl, hr, _⟩ := fits_ints (he e List.mem_cons_self)
    obtain ⟨g, h1, h2, h3⟩ := ih (by simp at hl; omega) fun e h => he e (List.mem_cons_of_mem _ h)
    have e1 : es = g.map encW := by simpa using h1
    subst e1
    refine ⟨r :: g, rfl, by simpa using hl, fun k hk => ?_⟩
    rcases List.mem_cons.1 hk with rfl | hk
    · exact hr
    · exact h3 k hk
theorem fits_task {m : MV} (h : Fits taskSh m) : ∃ t : Tk, m = encT t ∧ t.ter.length ≤ 9223372036854775807 ∧ t.rows.length ≤ 9223372036854775807 ∧ t.ties.length ≤ 9223372036854775807 ∧ ∀ r ∈ t.ter, r.length ≤ 9223372036854775807 := by
  obtain ⟨ms, h', rfl⟩ := fits_agg h
  obtain ⟨m1, r1, rfl, h1, h⟩ := fitsL_cons h'
  obtain ⟨m2, r2, rfl, h2, h⟩ := fitsL_cons h
  obtain ⟨m3, r3, rfl, h3, h⟩ := fitsL_cons h
  obtain ⟨m4, r4, rfl, h4, h⟩ := fitsL_cons h
  obtain ⟨m5, r5, rfl, h5, h⟩ := fitsL_cons h
  obtain rfl := fitsL_nil h
  obtain ⟨g, rfl, hg, hr⟩ := fits_lists h1
  obtain ⟨rs, rfl, hrs, _⟩ := fits_ints h2
  obtain ⟨ts, rfl, hts, _⟩ := fits_ints h3
  obtain ⟨a, rfl, _⟩ := fits_int h4
  obtain ⟨b, rfl, _⟩ := fits_int h5
  exact ⟨⟨g, rs, ts, a, b⟩, rfl, Nat.le_trans hg maxLen_le, Nat.le_trans hrs maxLen_le, Nat.le_trans hts maxLen_le, fun r h => Nat.le_trans (hr r h) maxLen_le⟩
def surfacesShs : List Sh := [taskSh]
theorem surfaces_runs (ms : List MV) (h : FitsL surfacesShs ms) : runZ MT (orA 12) (itA 12) 4000000 5 ms [] = some (.lit (.bool true), []) := by
  obtain ⟨m1, r1, rfl, h1, h⟩ := fitsL_cons h
  obtain rfl := fitsL_nil h
  obtain ⟨t, rfl, q1, q2, q3, q4⟩ := fits_task h1
  exact DrapeSurfaces_z t q1 q2 q3 q4

set_option maxRecDepth 100000 in
theorem surfaces_lifted (os : Os) (started : os.Started) (H : Type) (enc : TypeId × Value → H) :
    ReturnsInHanded {} Try.checked os 5 .any (Rows.drapeSurfacesSpec.pre6 enc Try.prog Try.f5 Rows.drapeSurfacesRow.domain false) (Rows.drapeSurfacesSpec.post enc Try.prog Try.f5 false true false false) := by
  refine returnsInHanded_of_change (C := Try.checked) Try.own started (by kernel_rfl) Try.func5
    (ChangeSpec.witness6 (enc := enc) (C := Try.checked) false ⟨#[], #[.agg #[.slice none 0 0, .slice none 0 0, .slice none 0 0, .int .i64 0, .int .i64 0]], []⟩ 8 (by kernel_rfl) (by kernel_rfl) (by kernel_rfl) (by kernel_rfl)) ?_
  intro W base args ds gs before hval hW _ _
  exact law_contract surfacesShs (by kernel_rfl) (by kernel_rfl) rfl rfl (fun ds h => by match ds, h with | [_], _ => exact ⟨rfl, rfl, rfl⟩) surfaces_runs W base args ds gs before hval hW

theorem drapeSurfaces_holds : Rows.DrapeSurfacesSaid :=
  OpenClaim.holds_of_wide 5 Try.f5 rfl rfl rfl rfl rfl rfl rfl ⟨rfl, rfl, rfl, rfl, rfl⟩ rfl rfl rfl rfl rfl (by kernel_rfl) Try.func5 (by kernel_rfl)
    (of_decide_eq_true (by kernel_rfl)) (by unfold Func.isWrapper; rw [if_neg (of_decide_eq_false (by kernel_rfl))]; exact ⟨rfl, rfl⟩)
    (fun os started H enc _ => surfaces_lifted os started H enc)
#print axioms drapeSurfaces_holds
end Go.Proofs.Ytgjpdjihjphbdaa
