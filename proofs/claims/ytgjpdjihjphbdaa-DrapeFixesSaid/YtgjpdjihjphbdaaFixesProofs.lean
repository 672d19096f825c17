/- The law DrapeFixes: for all rules and fixes it returns true; the arguments read as before. -/
import Derived.Test.YtgjpdjihjphbdaaGroupsLift
import Derived.Test.YtgjpdjihjphbdaaFixW
namespace Go.Proofs.Ytgjpdjihjphbdaa
open Go.ChangeShapes Go.WideShapes Go.ChangeAt Go.RowKit

def fixSh : Sh := .agg [.int .i64, .int .i64, .int .i64]
theorem fits_fix {m : MV} (h : Fits fixSh m) : ∃ z, m = encX z := by
  simp only [fixSh, Fits, FitsL] at h
  obtain ⟨ms, ⟨a1, q1, rfl, ⟨a, rfl, _⟩, a2, q2, rfl, ⟨b, rfl, _⟩, a3, q3, rfl, ⟨c, rfl, _⟩, rfl⟩, rfl⟩ := h
  exact ⟨⟨a, b, c⟩, rfl⟩
theorem fits_fixes {m : MV} (h : Fits (.slice fixSh) m) : ∃ zs : List Fx, m = .sl (zs.map encX) ∧ zs.length ≤ maxLen := by
  rw [Fits] at h
  obtain ⟨es, rfl, hl, he⟩ := h
  induction es with
  | nil => exact ⟨[], rfl, by simp⟩
  | cons e es ih =>
    obtain ⟨z, rfl⟩ := fits_fix (he e List.mem_cons_self)
    obtain ⟨zs, h1, h2⟩ := ih (by simp at hl; omega) fun e h => he e (List.mem_cons_of_mem _ h)
    have e1 : es = zs.map encX := by simpa using h1
    subst e1
    exact ⟨z :: zs, rfl, by simpa using hl⟩

def fixShs : List Sh := [.agg [.int .i64, .int .i64, .int .i64, .int .i64, .int .i64], .slice fixSh]
theorem fix_runs (ms : List MV) (h : FitsL fixShs ms) : runZ MT (orA 12) (itA 12) 1000000 12 ms [] = some (.lit (.bool true), []) := by
  obtain ⟨m1, r1, rfl, h1, h⟩ := fitsL_cons h
  obtain ⟨m2, r2, rfl, h2, h⟩ := fitsL_cons h
  obtain rfl := fitsL_nil h
  obtain ⟨ns, h6, rfl⟩ := fits_agg h1
  obtain ⟨n1, s1, rfl, g1, h7⟩ := fitsL_cons h6
  obtain ⟨n2, s2, rfl, g2, h7⟩ := fitsL_cons h7
  obtain ⟨n3, s3, rfl, g3, h7⟩ := fitsL_cons h7
  obtain ⟨n4, s4, rfl, g4, h7⟩ := fitsL_cons h7
  obtain ⟨n5, s5, rfl, g5, h7⟩ := fitsL_cons h7
  obtain rfl := fitsL_nil h7
  obtain ⟨a, rfl, _⟩ := fits_int g1
  obtain ⟨b, rfl, _⟩ := fits_int g2
  obtain ⟨c, rfl, _⟩ := fits_int g3
  obtain ⟨d, rfl, _⟩ := fits_int g4
  obtain ⟨e, rfl, _⟩ := fits_int g5
  obtain ⟨zs, rfl, hz⟩ := fits_fixes h2
  exact DrapeFixes_z a b c d e zs (Nat.le_trans hz maxLen_le)

set_option maxRecDepth 100000 in
theorem fix_lifted (os : Os) (started : os.Started) (H : Type) (enc : TypeId × Value → H) :
    ReturnsInHanded {} Try.checked os 12 .any (Rows.drapeFixesSpec.pre6 enc Try.prog Try.f12 Rows.drapeFixesRow.domain false) (Rows.drapeFixesSpec.post enc Try.prog Try.f12 false true false false) := by
  refine returnsInHanded_of_change (C := Try.checked) Try.own started (by kernel_rfl) Try.func12
    (ChangeSpec.witness6 (enc := enc) (C := Try.checked) false ⟨#[], #[.agg #[.int .i64 0, .int .i64 0, .int .i64 0, .int .i64 0, .int .i64 0], .slice none 0 0], []⟩ 8 (by kernel_rfl) (by kernel_rfl) (by kernel_rfl) (by kernel_rfl)) ?_
  intro W base args ds gs before hval hW _ _
  exact law_contract fixShs (by kernel_rfl) (by kernel_rfl) rfl rfl (fun ds h => by match ds, h with | [_, _], _ => exact ⟨rfl, rfl, rfl⟩) fix_runs W base args ds gs before hval hW

theorem drapeFixes_holds : Rows.DrapeFixesSaid :=
  OpenClaim.holds_of_wide 12 Try.f12 rfl rfl rfl rfl rfl rfl rfl ⟨rfl, rfl, rfl, rfl, rfl⟩ rfl rfl rfl rfl rfl (by kernel_rfl) Try.func12 (by kernel_rfl)
    (of_decide_eq_true (by kernel_rfl)) (by unfold Func.isWrapper; rw [if_neg (of_decide_eq_false (by kernel_rfl))]; exact ⟨rfl, rfl⟩)
    (fun os started H enc _ => fix_lifted os started H enc)
#print axioms drapeFixes_holds
end Go.Proofs.Ytgjpdjihjphbdaa
