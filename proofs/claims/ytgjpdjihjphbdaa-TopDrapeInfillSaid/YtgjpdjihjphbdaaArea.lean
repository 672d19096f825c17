/- 'AreaOf'. -/
import Derived.Test.YtgjpdjihjphbdaaSides
import Derived.Test.YtgjpdjihjphbdaaRangeLaw
namespace Go.Proofs.Ytgjpdjihjphbdaa
open Go.RowKit

attribute [local go_sem] Oper.semAt_some

def areaT (cs : List Pt) (i : Nat) : Int := (corner cs i).1 * (nextC cs i).2 - (nextC cs i).1 * (corner cs i).2
def areaS (cs : List Pt) (l : List (Fin cs.length)) : Int := (l.map fun i => areaT cs i.val).sum
theorem areaS_snoc (cs : List Pt) (l : List (Fin cs.length)) (x : Fin cs.length) : areaS cs (l ++ [x]) = areaS cs l + areaT cs x.val := by simp [areaS]

theorem inP_getD {cs : List Pt} (h : ∀ p ∈ cs, InP p) (i : Nat) : InP (cs.getD i (0, 0)) := by
  by_cases hi : i < cs.length
  · have := h cs[i] (List.getElem_mem hi)
    simpa [hi] using this
  · simp [hi, InP]
theorem corner_inP {cs : List Pt} (h : ∀ p ∈ cs, InP p) (i : Nat) : InP (corner cs i) := inP_getD h i
theorem nextC_inP {cs : List Pt} (h : ∀ p ∈ cs, InP p) (i : Nat) : InP (nextC cs i) := inP_getD h _

theorem areaT_bd {cs : List Pt} (h : ∀ p ∈ cs, InP p) (i : Nat) : -1000000 ≤ areaT cs i ∧ areaT cs i ≤ 1000000 := by
  obtain ⟨a1, a2, a3, a4⟩ := corner_inP h i
  obtain ⟨b1, b2, b3, b4⟩ := nextC_inP h i
  unfold areaT
  have m1 : 0 ≤ (corner cs i).1 * (nextC cs i).2 := Int.mul_nonneg a1 b3
  have m2 : 0 ≤ (nextC cs i).1 * (corner cs i).2 := Int.mul_nonneg b1 a3
  have m3 := mul_bd (a := (corner cs i).1) (b := (nextC cs i).2) (A := 1000) (B := 1000) (by omega) (by omega) (by omega) (by omega)
  have m4 := mul_bd (a := (nextC cs i).1) (b := (corner cs i).2) (A := 1000) (B := 1000) (by omega) (by omega) (by omega) (by omega)
  omega
theorem areaS_bd {cs : List Pt} (h : ∀ p ∈ cs, InP p) (l : List (Fin cs.length)) : -(l.length * 1000000 : Int) ≤ areaS cs l ∧ areaS cs l ≤ l.length * 1000000 := by
  induction l with
  | nil => simp [areaS]
  | cons x l ih =>
    have := areaT_bd h x.val
    have e : areaS cs (x :: l) = areaT cs x.val + areaS cs l := by simp [areaS]
    rw [e]
    simp only [List.length_cons]
    constructor <;> push_cast <;> omega

def areaAll (cs : List Pt) : Int := areaS cs (allFin cs.length)

set_option maxRecDepth 100000 in
set_option maxHeartbeats 4000000 in
theorem AreaOf_ok (b off cap : Nat) (cs : List Pt) (w : World) (hlen : cs.length ≤ 1000) (hr : Rd w 2 (some ⟨b, off, none⟩) cs.length (enc2 cs)) (h0 : 0 < cs.length) (hP : ∀ p ∈ cs, InP p)
    (hpe : ∀ W, Rd W 2 (some ⟨b, off, none⟩) cs.length (enc2 cs) → Calls Try.prog 99 #[.agg #[.slice (some ⟨b, off, none⟩) cs.length cap]] W (Ret W (.int .i64 (0)))) :
    Calls Try.prog 27 #[.agg #[.slice (some ⟨b, off, none⟩) cs.length cap]] w (Ret w (.tuple #[(.int .i64 (mx (areaAll cs) (-(areaAll cs)))), (.int .i64 (0))])) := by
  have HPE := Lib.hid hpe
  clear hpe
  have hbl : b < w.heap.size := by
    obtain ⟨b', off', e, hb, _⟩ := hr.2 h0
    cases e; exact hb
  have HR := Lib.hid hr
  clear hr
  refine (callsIn_wide (n := 9)).1 (callsIn_of_wp_marks Try.func27 rfl trivial ?_ rfl)
  simp only [Try.ntmps27, List.size_toArray, List.length_cons, List.length_nil, Nat.reduceAdd, Nat.reduceSub, Array.replicate_succ, Array.replicate_zero, List.push_toArray, List.append_toArray, List.nil_append, List.cons_append]
  refine wpIn_wide.2 ?_
  go_wp2_with fail
  refine (HPE.out _ (HR.out.below rfl ((Below.refl _ w).alloc (Nat.le_refl _) _))).mono ?_
  rintro e w1 ⟨rfl, hb1⟩
  obtain ⟨hcc, hff⟩ := bcell hb1
  have hz1 := lt_alloc_below hb1
  have HB1 := Lib.hid (((Below.refl _ w).alloc (Nat.le_refl _) (.cells #[.slice (some ⟨b, off, none⟩) cs.length cap] 41)).trans (hb1.mono (by simp)))
  go_wp2_with fail
  refine (sides_any _ _ ⟨_, _, _, rfl⟩).mono ?_
  rintro e w2 ⟨rfl, rfl⟩
  go_wp2_with fail
  clear hcc hff hb1
  have HO := Lib.hid ((OneC.new w1 3 (.int .i64 (0))).alloc (.cells #[.slice (some ⟨b, off, none⟩) cs.length cap] 41))
  refine (wpIn_wide (n := 9)).1 ?_
  refine wpIn_gen fun a0 ha0 => ?_
  refine range_out (m := 0) (gf := 147) (lb := #[.pointer (some ⟨w1.heap.size + 1, 0, none⟩)]) (by rw [ha0]; rfl) (enters_of Try.func147 (by kernel_rfl) rfl) (encs := sideV cs)
    (sides_stops (w1.heap.size + 1) b off cap (fun k => k < w1.heap.size ∨ k = w1.heap.size + 1) cs hlen _ (.inr rfl) (.inl (by omega)) (by intro k hk; simp; omega) ?hbox ?hrd) (Below.refl _ _) (by intro k hk; simp; omega) (fun _ => rfl)
    (fun pre W => OneC W w1.heap.size 3 (.int .i64 (areaS cs pre)) ∧ Below w1.heap.size w1 W) (fun _ _ _ => False) (fun pre => Stable.one.and (Stable.below (by simp; omega) (Nat.le_refl _))) (fun _ _ => Stable.pure _) ?h0
    (fun x bx W => w1.heap.size + 1 < bx ∧ Box4 W bx (corner cs x.val) (nextC cs x.val)) (fun x bx => [(15, (.int .i64 ((x.val : Int)))), (16, (.agg #[.int .i64 ((corner cs x.val).1), .int .i64 ((corner cs x.val).2), .int .i64 ((nextC cs x.val).1), .int .i64 ((nextC cs x.val).2)])), (7, .pointer (some ⟨bx, 0, none⟩))]) (fun x bx => (Stable.pure _).and Stable.box4) ?assign ?body ?done ?stop
  case assign =>
    intro l pre x W K hi hsz hK
    subst ha0
    unfold sideV
    gi_wp2
    simp only [World.size_alloc] at hsz
    exact hK W.heap.size _ (Kept.alloc W (by intro k hk; omega) _) ⟨hi.1.alloc _, hi.2.alloc (by omega) _⟩ ⟨by omega, Box4.new _ _ _ _⟩
  case hbox => simp
  case hrd => exact (((HR.out.below rfl HB1.out).below rfl ((Below.refl _ _).alloc (Nat.le_refl _) _)).below rfl ((Below.refl _ _).alloc (Nat.le_refl _) _))
  case h0 => exact ⟨HO.out, ((Below.refl _ _).alloc (Nat.le_refl _) _).alloc (by simp) _⟩
  case stop => intro D c pre W _ _ h; exact h.elim
  case body =>
    intro l pre x bx W hl hrec hi hsz hra hN
    obtain ⟨hi1, hi2⟩ := hi
    obtain ⟨hbx, ⟨q0, q1, q2, q3⟩⟩ := hra
    subst ha0
    simp only [setAll, List.foldl_cons, List.foldl_nil, List.setIfInBounds_toArray, List.set_cons_zero, List.set_cons_succ]
    obtain ⟨p1, p2, p3, p4⟩ := corner_inP hP x.val
    obtain ⟨p5, p6, p7, p8⟩ := nextC_inP hP x.val
    have bs := areaS_bd hP pre
    have HT := Lib.hid (show areaS cs (pre ++ [x]) = areaS cs pre + ((corner cs x.val).1 * (nextC cs x.val).2 - (nextC cs x.val).1 * (corner cs x.val).2) from areaS_snoc cs pre x)
    have hs0 := hi1.cell
    have hf0 := hi1.frozen
    have HI1 := Lib.hid hi1
    clear hi1 hP
    generalize corner cs x.val = s at *
    generalize nextC cs x.val = t at *
    generalize areaS cs pre = ar at *
    obtain ⟨a, b'⟩ := s
    obtain ⟨c, d⟩ := t
    dsimp only at *
    have m1 := mul_bd (a := a) (b := d) (A := 1000) (B := 1000) (by omega) (by omega) (by omega) (by omega)
    have m2 := mul_bd (a := c) (b := b') (A := 1000) (B := 1000) (by omega) (by omega) (by omega) (by omega)
    obtain ⟨m11, m12⟩ := m1
    obtain ⟨m21, m22⟩ := m2
    obtain ⟨bs1, bs2⟩ := bs
    gi_wp2
    exact ⟨Kept.setCell W (p := ⟨w1.heap.size, 0, none⟩) (by simp) _, by rw [HT.out]; exact HI1.out.set _, hi2.setCell (p := ⟨w1.heap.size, 0, none⟩) (Nat.le_refl _) _⟩
  case done =>
    intro D xs W hD hxs hi hk
    obtain ⟨hi1, hi2⟩ := hi
    subst hxs
    subst ha0
    have hs0 := hi1.cell
    have bs := areaS_bd hP (allFin cs.length)
    have HA := Lib.hid (show areaAll cs = areaS cs (allFin cs.length) from rfl)
    simp only [allFin, List.length_finRange] at bs
    unfold allFin at hs0 hi1 HA
    obtain ⟨bs1, bs2⟩ := bs
    generalize areaS cs (List.finRange cs.length) = ar at *
    have hmx := run_mx
    have HI2 := Lib.hid hi2
    clear hi1 hi2 hP
    go_wp2
    simp only [World.size_alloc] at hD
    refine ret_marks (B := w.heap.size) ⟨⟨D, rfl, by omega, hk, by simp⟩, trivial⟩ (fun W' hck => ⟨results_tmp2 rfl _ _ _, ?_⟩)
    exact ⟨by rw [HA.out]; rfl, (HB1.out.trans (HI2.out.mono (by omega))).trans (hck.below (by have := HI2.out.size; omega))⟩

end Go.Proofs.Ytgjpdjihjphbdaa
