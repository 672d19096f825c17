/- The law DrapeCalendars: for every width, row and calendar it returns true; the arguments read as before. -/
import Derived.Test.YtgjpdjihjphbdaaGroupsLift
import Derived.Test.YtgjpdjihjphbdaaCalW
namespace Go.Proofs.Ytgjpdjihjphbdaa
open Go.ChangeShapes Go.WideShapes Go.ChangeAt Go.RowKit

def zoneSh : Sh := .agg [.agg [.int .i64, .int .i64], .agg [.int .i64, .int .i64], .agg [.int .i64, .int .i64]]
theorem fits_zone {m : MV} (h : Fits zoneSh m) : ∃ z, m = encZ z := by
  simp only [zoneSh, Fits, FitsL] at h
  obtain ⟨ms, ⟨m1, r1, rfl, ⟨n1, ⟨a1, q1, rfl, ⟨a, rfl, _⟩, a2, q2, rfl, ⟨b, rfl, _⟩, rfl⟩, rfl⟩, m2, r2, rfl, ⟨n2, ⟨c1, q3, rfl, ⟨c, rfl, _⟩, c2, q4, rfl, ⟨d, rfl, _⟩, rfl⟩, rfl⟩, m3, r3, rfl, ⟨n3, ⟨e1, q5, rfl, ⟨e, rfl, _⟩, e2, q6, rfl, ⟨f, rfl, _⟩, rfl⟩, rfl⟩, rfl⟩, rfl⟩ := h
  exact ⟨⟨a, b, c, d, e, f⟩, rfl⟩
theorem fits_zones {m : MV} (h : Fits (.slice zoneSh) m) : ∃ zs : List Zn, m = .sl (zs.map encZ) ∧ zs.length ≤ maxLen := by
  rw [Fits] at h
  obtain ⟨es, rfl, hl, he⟩ := h
  induction es with
  | nil => exact ⟨[], rfl, by simp⟩
  | cons e es ih =>
    obtain ⟨z, rfl⟩ := fits_zone (he e List.mem_cons_self)
    obtain ⟨zs, h1, h2⟩ := ih (by simp at hl; omega) fun e h => he e (List.mem_cons_of_mem _ h)
    have e1 : es = zs.map encZ := by simpa using h1
    subst e1
    exact ⟨z :: zs, rfl, by simpa using hl⟩

def calShs : List Sh := [.int .i64, .int .i64, .agg [.slice zoneSh, .int .i64]]
theorem cal_runs (ms : List MV) (h : FitsL calShs ms) : runZ MT (orA 12) (itA 12) 1000000 7 ms [] = some (.lit (.bool true), []) := by
  obtain ⟨m1, r1, rfl, h1, h⟩ := fitsL_cons h
  obtain ⟨m2, r2, rfl, h2, h⟩ := fitsL_cons h
  obtain ⟨m3, r3, rfl, h3, h⟩ := fitsL_cons h
  obtain rfl := fitsL_nil h
  obtain ⟨a, rfl, _⟩ := fits_int h1
  obtain ⟨b, rfl, _⟩ := fits_int h2
  obtain ⟨ns, h6, rfl⟩ := fits_agg h3
  obtain ⟨n1, s1, rfl, h4, h7⟩ := fitsL_cons h6
  obtain ⟨n2, s2, rfl, h5, h8⟩ := fitsL_cons h7
  obtain rfl := fitsL_nil h8
  obtain ⟨zs, rfl, hz⟩ := fits_zones h4
  obtain ⟨d, rfl, _⟩ := fits_int h5
  exact DrapeCalendars_z a b d zs (Nat.le_trans hz maxLen_le)

set_option maxRecDepth 100000 in
theorem cal_lifted (os : Os) (started : os.Started) (H : Type) (enc : TypeId × Value → H) :
    ReturnsInHanded {} Try.checked os 7 .any (Rows.drapeCalendarsSpec.pre6 enc Try.prog Try.f7 Rows.drapeCalendarsRow.domain false) (Rows.drapeCalendarsSpec.post enc Try.prog Try.f7 false true false false) := by
  refine returnsInHanded_of_change (C := Try.checked) Try.own started (by kernel_rfl) Try.func7
    (ChangeSpec.witness6 (enc := enc) (C := Try.checked) false ⟨#[], #[.int .i64 0, .int .i64 0, .agg #[.slice none 0 0, .int .i64 0]], []⟩ 8 (by kernel_rfl) (by kernel_rfl) (by kernel_rfl) (by kernel_rfl)) ?_
  intro W base args ds gs before hval hW _ _
  exact law_contract calShs (by kernel_rfl) (by kernel_rfl) rfl rfl (fun ds h => by match ds, h with | [_, _, _], _ => exact ⟨rfl, rfl, rfl⟩) cal_runs W base args ds gs before hval hW

theorem drapeCalendars_holds : Rows.DrapeCalendarsSaid :=
  OpenClaim.holds_of_wide 7 Try.f7 rfl rfl rfl rfl rfl rfl rfl ⟨rfl, rfl, rfl, rfl, rfl⟩ rfl rfl rfl rfl rfl (by kernel_rfl) Try.func7 (by kernel_rfl)
    (of_decide_eq_true (by kernel_rfl)) (by unfold Func.isWrapper; rw [if_neg (of_decide_eq_false (by kernel_rfl))]; exact ⟨rfl, rfl⟩)
    (fun os started H enc _ => cal_lifted os started H enc)
#print axioms drapeCalendars_holds
end Go.Proofs.Ytgjpdjihjphbdaa
