/- 'CheckPolygon', 'polygonErr' and 'AreaOf' on any polygon. -/
import Derived.Test.YtgjpdjihjphbdaaChkPoly
namespace Go.Proofs.Ytgjpdjihjphbdaa
open Go.RowKit

theorem polyCheck_shape {cs : List Pt} (h : shapeE cs.length ≠ 0) : polyCheck cs = (0, shapeE cs.length) := by unfold polyCheck; rw [if_pos h]

theorem CheckPolygon_any (A : Option Addr) (cap : Nat) (cs : List Pt) (w : World) (hr : Rd w 2 A cs.length (enc2 cs)) :
    Calls Try.prog 25 #[.agg #[.slice A cs.length cap]] w (Ret w (.tuple #[(.int .i64 ((polyCheck cs).1)), (.int .i64 ((polyCheck cs).2))])) := by
  by_cases h : shapeE cs.length = 0
  · obtain ⟨b, off, rfl, _⟩ := hr.2 (by have := shapeE_zero h; omega)
    exact CheckPolygon_ok b off cap cs w hr h
  · rw [polyCheck_shape h]
    exact CheckPolygon_shape A cs.length cap w h

set_option maxHeartbeats 1000000 in
theorem polygonErr_any (A : Option Addr) (cap : Nat) (cs : List Pt) (w : World) (hr : Rd w 2 A cs.length (enc2 cs)) :
    Calls Try.prog 99 #[.agg #[.slice A cs.length cap]] w (Ret w (.int .i64 ((polyCheck cs).2))) := by
  have HC := Lib.hid (CheckPolygon_any A cap cs (w.alloc (.cells #[.slice A cs.length cap] 41)) (hr.below rfl ((Below.refl _ w).alloc (Nat.le_refl _) _)))
  obtain ⟨x, hx⟩ : ∃ x, x = polyCheck cs := ⟨_, rfl⟩
  rw [← hx] at HC ⊢
  clear hx hr
  obtain ⟨i, e⟩ := x
  go_enter Try.func99, Try.ntmps99
  go_wp2_with ((go_at_call 25; (with_reducible refine (HC.out).mono ?_); rintro e w1 ⟨rfl, hb1⟩))
  go_ret
  exact ⟨rfl, ((Below.refl _ w).alloc (Nat.le_refl _) _).trans (hb1.mono (by simp))⟩

theorem polyCheck_inP {cs : List Pt} (h : (polyCheck cs).2 = 0) : 3 ≤ cs.length ∧ cs.length ≤ 12 ∧ ∀ p ∈ cs, InP p := by
  unfold polyCheck at h
  by_cases h0 : shapeE cs.length = 0
  · obtain ⟨h1, h2⟩ := shapeE_zero h0
    refine ⟨h1, h2, ?_⟩
    rw [if_neg (by simp [h0])] at h
    cases hf : (List.range cs.length).find? (fun i => posE (corner cs i) != 0) with
    | some i =>
      rw [hf] at h
      have := List.find?_some hf
      simp only at h
      simp [h] at this
    | none =>
      refine inP_all fun j hj => ?_
      have := List.find?_eq_none.1 hf j (List.mem_range.2 hj)
      simpa using this
  · rw [if_pos h0] at h; exact absurd h h0

/-- What 'AreaOf' answers. -/
def areaRes (cs : List Pt) : Int × Int := if (polyCheck cs).2 = 0 then (mx (areaAll cs) (-(areaAll cs)), 0) else (0, (polyCheck cs).2)

set_option maxHeartbeats 1000000 in
theorem AreaOf_any (A : Option Addr) (cap : Nat) (cs : List Pt) (w : World) (hr : Rd w 2 A cs.length (enc2 cs)) :
    Calls Try.prog 27 #[.agg #[.slice A cs.length cap]] w (Ret w (.tuple #[(.int .i64 ((areaRes cs).1)), (.int .i64 ((areaRes cs).2))])) := by
  by_cases h : (polyCheck cs).2 = 0
  · obtain ⟨h1, h2, hP⟩ := polyCheck_inP h
    obtain ⟨b, off, rfl, _⟩ := hr.2 (by omega)
    unfold areaRes
    rw [if_pos h]
    refine AreaOf_ok b off cap cs w (by omega) hr (by omega) hP fun W hW => ?_
    have := polygonErr_any (some ⟨b, off, none⟩) cap cs W hW
    rwa [h] at this
  · have hpe := Lib.hid (polygonErr_any A cap cs (w.alloc (.cells #[.slice A cs.length cap] 41)) (hr.below rfl ((Below.refl _ w).alloc (Nat.le_refl _) _)))
    unfold areaRes
    rw [if_neg h]
    obtain ⟨e, he⟩ : ∃ e, e = (polyCheck cs).2 := ⟨_, rfl⟩
    rw [← he] at hpe h ⊢
    clear he hr
    have hz' : (e != 0) = true := by simpa using h
    clear h
    refine (callsIn_wide (n := 9)).1 (callsIn_of_wp_marks Try.func27 rfl trivial ?_ rfl)
    simp only [Try.ntmps27, List.size_toArray, List.length_cons, List.length_nil, Nat.reduceAdd, Nat.reduceSub, Array.replicate_succ, Array.replicate_zero, List.push_toArray, List.append_toArray, List.nil_append, List.cons_append]
    refine wpIn_wide.2 ?_
    go_wp2_with ((go_at_call 99; (with_reducible refine (hpe.out).mono ?_); rintro e w1 ⟨rfl, hb1⟩))
    refine ret_marks (B := w.heap.size) trivial (fun W' hck => ⟨results_tmp2 rfl _ _ _, rfl, ?_⟩)
    have hb := ((Below.refl w.heap.size w).alloc (Nat.le_refl _) (.cells #[.slice A cs.length cap] 41)).trans (hb1.mono (by simp))
    exact hb.trans (hck.below hb.size)

end Go.Proofs.Ytgjpdjihjphbdaa
