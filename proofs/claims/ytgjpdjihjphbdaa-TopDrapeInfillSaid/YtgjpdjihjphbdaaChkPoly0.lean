/- 'CheckPolygon': the index of a corner, and the error of a polygon. -/
import Derived.Test.YtgjpdjihjphbdaaSides
import Derived.Test.YtgjpdjihjphbdaaArea
namespace Go.Proofs.Ytgjpdjihjphbdaa
open Go.RowKit

attribute [local go_sem] Oper.semAt_some

def shapeE (n : Nat) : Int := firstE [unl (decide ((3 : Int) ≤ n)) 10, unl (decide ((n : Int) ≤ 12)) 8]
def posE (p : Pt) : Int := unl (inB p.1 0 1000 && inB p.2 0 1000) 2
/-- Side i is bad: it is no side, or it clashes with a later one. -/
def badS (cs : List Pt) (i : Nat) : Bool :=
  (corner cs i == nextC cs i) || (List.range cs.length).any fun k => decide (i < k) && clashS i (corner cs i) (nextC cs i) k (corner cs k) (nextC cs k) cs.length
def polyCheck (cs : List Pt) : Int × Int :=
  if shapeE cs.length ≠ 0 then (0, shapeE cs.length) else
  match (List.range cs.length).find? (fun i => posE (corner cs i) != 0) with
  | some i => ((i : Int), posE (corner cs i))
  | none => match (List.range cs.length).find? (badS cs) with
    | some i => ((i : Int), 13)
    | none => (0, 0)

theorem posE_inP {p : Pt} (h : posE p = 0) : InP p := by
  unfold posE unl at h
  cases h1 : (inB p.1 0 1000 && inB p.2 0 1000)
  · rw [h1] at h; simp at h
  · simp only [Bool.and_eq_true, inB_iff] at h1
    unfold InP; omega

/-- What is known in 'CheckPolygon'. -/
structure CPst (w : World) (v : Value) (n : Int) (i e : Int) (W : World) : Prop where
  p : OneC W w.heap.size 41 v
  r1 : OneC W (w.heap.size + 1) 3 (.int .i64 (i))
  r2 : OneC W (w.heap.size + 1 + 1) 27 (.int .i64 (e))
  n : OneC W (w.heap.size + 1 + 1 + 1) 3 (.int .i64 (n))
  below : Below w.heap.size w W
theorem CPst.later {w W W' : World} {v : Value} {n i e : Int} (h : CPst w v n i e W) (hb : Below W.heap.size W W') : CPst w v n i e W' := ⟨h.p.below hb, h.r1.below hb, h.r2.below hb, h.n.below hb, h.below.trans (hb.mono h.below.size)⟩
theorem CPst.set {w W : World} {v : Value} {n i e : Int} (h : CPst w v n i e W) (i' e' : Int) : CPst w v n i' e' ((W.setCell ⟨w.heap.size + 1, 0, none⟩ (.int .i64 (i'))).setCell ⟨w.heap.size + 1 + 1, 0, none⟩ (.int .i64 (e'))) :=
  ⟨(h.p.other (fun x => by simp at x) _).other (fun x => by dsimp only at x; omega) _, (h.r1.set _).other (fun x => by dsimp only at x; omega) _, (h.r2.other (fun x => by dsimp only at x; omega) _).set _, (h.n.other (fun x => by dsimp only at x; omega) _).other (fun x => by dsimp only at x; omega) _, (h.below.setCell (p := ⟨w.heap.size + 1, 0, none⟩) (by simp) _).setCell (p := ⟨w.heap.size + 1 + 1, 0, none⟩) (by dsimp only; omega) _⟩
theorem Stable.cpst {B : Nat} {w : World} {v : Value} {n i e : Int} (hB : w.heap.size ≤ B) : Stable B (fun W => CPst w v n i e W) := fun W W' h hk => ⟨Stable.one W W' h.p hk, Stable.one W W' h.r1 hk, Stable.one W W' h.r2 hk, Stable.one W W' h.n hk, Stable.below hB (Nat.le_refl _) W W' h.below hk⟩

theorem CPst.start (w : World) (v : Value) (n : Int) : CPst w v n 0 0 ((((w.alloc (.cells #[v] 41)).alloc (.cells #[(.int .i64 (0))] 3)).alloc (.cells #[(.int .i64 (0))] 27)).alloc (.cells #[(.int .i64 (n))] 3)) := by
  refine ⟨(((OneC.new w _ v).alloc _).alloc _).alloc _, ?_, ?_, ?_, ((((Below.refl _ w).alloc (Nat.le_refl _) _).alloc (by simp) _).alloc (by simp; omega) _).alloc (by simp; omega) _⟩
  · have := OneC.new (w.alloc (.cells #[v] 41)) 3 (.int .i64 (0))
    rw [World.size_alloc] at this
    exact (this.alloc _).alloc _
  · have := OneC.new ((w.alloc (.cells #[v] 41)).alloc (.cells #[(.int .i64 (0))] 3)) 27 (.int .i64 (0))
    rw [World.size_alloc, World.size_alloc] at this
    exact this.alloc _
  · have := OneC.new (((w.alloc (.cells #[v] 41)).alloc (.cells #[(.int .i64 (0))] 3)).alloc (.cells #[(.int .i64 (0))] 27)) 3 (.int .i64 (n))
    rw [World.size_alloc, World.size_alloc, World.size_alloc] at this
    exact this

theorem cp_results {w W : World} {v : Value} {n i e : Int} (h : CPst w v n i e W) {tmps : Array Value} (h1 : tmps[2]?.getD undef = .pointer (some ⟨w.heap.size + 1, 0, none⟩)) (h2 : tmps[3]?.getD undef = .pointer (some ⟨w.heap.size + 1 + 1, 0, none⟩)) :
    (results Try.f25 tmps).run Try.prog W = .ok (.tuple #[(.int .i64 (i)), (.int .i64 (e))]) W := by
  have c1 := h.r1.cell
  have c2 := h.r2.cell
  simp [results, Try.results25, go_sem, h1, h2, c1, c2]

set_option maxRecDepth 100000 in
set_option maxHeartbeats 4000000 in
theorem CheckPolygon_shape (A : Option Addr) (n cap : Nat) (w : World) (he : shapeE n ≠ 0) :
    Calls Try.prog 25 #[.agg #[.slice A n cap]] w (Ret w (.tuple #[(.int .i64 (0)), (.int .i64 (shapeE n))])) := by
  have HE : (shapeE n != 0) = true := by simpa using he
  clear he
  refine (callsIn_wide (n := 9)).1 (callsIn_of_wp_marks Try.func25 rfl trivial ?_ rfl)
  simp only [Try.ntmps25, List.size_toArray, List.length_cons, List.length_nil, Nat.reduceAdd, Nat.reduceSub, Array.replicate_succ, Array.replicate_zero, List.push_toArray, List.append_toArray, List.nil_append, List.cons_append]
  refine wpIn_wide.2 ?_
  go_upto_region 2 with fail
  have HC := Lib.hid (CPst.start w (.slice A n cap) n)
  go_cut [5] from 16 to 23 (fun r wx => r = (.int .i64 (shapeE n)) ∧ CPst w (.slice A n cap) n 0 0 wx)
  case first =>
    have HS := Lib.hid (show shapeE n = firstE [unl (decide ((3 : Int) ≤ n)) 10, unl (decide ((n : Int) ≤ 12)) 8] from rfl)
    refine wp_region_calm_tail 6 (by kernel_rfl) (by kernel_rfl) ?_
    simp only [List.take_succ_cons, List.take_zero, List.drop_succ_cons, List.drop_zero]
    repeat (go_big_quiet_step ((go_at_call 93; exact After.same (unless_any _ _ _))))
    refine wpQuiet_nil ?_
    intro w1 hb1
    go_wp2_with (go_at_call 92; refine (first2_new _ _ _ _).mono ?_; rintro e w' ⟨rfl, rfl⟩)
    go_meet
    exact ⟨ret_num HS.out.symm, (HC.out.later hb1).later ((Below.refl _ _).alloc (Nat.le_refl _) _)⟩
  case rest =>
    obtain ⟨rfl, hcp⟩ := hcut
    have c1 := hcp.r1.cell
    have c2 := hcp.r2.cell
    have f1 := hcp.r1.frozen
    have f2 := hcp.r2.frozen
    have HC2 := Lib.hid hcp
    clear hcp
    go_wp2
    refine ret_marks (v := .tuple #[(.int .i64 (0)), (.int .i64 (shapeE n))]) (B := w.heap.size) trivial (fun W' hck => ?_)
    have hc' := Stable.cpst (Nat.le_refl _) _ _ (HC2.out.set 0 (shapeE n)) hck
    exact ⟨cp_results hc' rfl rfl, rfl, hc'.below⟩

theorem shapeE_zero {n : Nat} (h : shapeE n = 0) : 3 ≤ n ∧ n ≤ 12 := by
  unfold shapeE unl at h
  by_cases h1 : 3 ≤ n
  · by_cases h2 : n ≤ 12
    · exact ⟨h1, h2⟩
    · have e1 : decide ((3 : Int) ≤ n) = true := by simp; omega
      have e2 : decide ((n : Int) ≤ 12) = false := by simp; omega
      rw [e1, e2] at h; simp [firstE] at h
  · have e1 : decide ((3 : Int) ≤ n) = false := by simp; omega
    rw [e1] at h; simp [firstE] at h

theorem find_range_none {n : Nat} {p : Nat → Bool} (h : ∀ i, i < n → p i = false) : (List.range n).find? p = none := by
  rw [List.find?_eq_none]
  intro i hi
  simp [h i (List.mem_range.1 hi)]
theorem find_range_some {n : Nat} {p : Nat → Bool} {k : Nat} (hk : k < n) (h : ∀ i, i < k → p i = false) (hp : p k = true) : (List.range n).find? p = some k := by
  rw [List.find?_range_eq_some]
  exact ⟨hp, List.mem_range.2 hk, fun j hj => by simp [h j hj]⟩

theorem polyCheck_pos {cs : List Pt} (h0 : shapeE cs.length = 0) {k : Nat} (hk : k < cs.length) (h : ∀ j, j < k → posE (corner cs j) = 0) (hp : posE (corner cs k) ≠ 0) : polyCheck cs = ((k : Int), posE (corner cs k)) := by
  unfold polyCheck
  rw [if_neg (by simp [h0]), find_range_some (k := k) hk (fun i hi => by simp [h i hi]) (by simpa using hp)]
theorem polyCheck_side {cs : List Pt} (h0 : shapeE cs.length = 0) (h1 : ∀ j, j < cs.length → posE (corner cs j) = 0) {k : Nat} (hk : k < cs.length) (h : ∀ j, j < k → badS cs j = false) (hp : badS cs k = true) : polyCheck cs = ((k : Int), 13) := by
  unfold polyCheck
  rw [if_neg (by simp [h0]), find_range_none (fun i hi => by simp [h1 i hi])]
  simp only
  rw [find_range_some (k := k) hk h hp]
theorem polyCheck_ok {cs : List Pt} (h0 : shapeE cs.length = 0) (h1 : ∀ j, j < cs.length → posE (corner cs j) = 0) (h : ∀ j, j < cs.length → badS cs j = false) : polyCheck cs = (0, 0) := by
  unfold polyCheck
  rw [if_neg (by simp [h0]), find_range_none (fun i hi => by simp [h1 i hi])]
  simp only
  rw [find_range_none h]

theorem Stable.kept {S : Nat → Prop} {B B2 : Nat} {W : World} (hW : W.heap.size ≤ B2) (hS : ∀ k, S k → k < W.heap.size) : Stable B2 (fun W' => Kept S B W W') := fun _ _ h hk =>
  ⟨⟨Nat.le_trans h.keeps.size hk.size, fun k o hB ho hc => (hk.low k (Nat.lt_of_lt_of_le (Array.getElem?_eq_some_iff.1 ho).1 hW) (Nat.lt_of_lt_of_le (Array.getElem?_eq_some_iff.1 ho).1 h.keeps.size)).trans (h.keeps.same k o hB ho hc)⟩,
    hk.os.trans h.same.os, hk.tape.trans h.same.tape, hk.output.trans h.same.output, Nat.le_trans h.same.size hk.size, fun k hs => (hk.low k (Nat.lt_of_lt_of_le (hS k hs) hW) (Nat.lt_of_lt_of_le (hS k hs) h.same.size)).trans (h.same.block k hs)⟩
theorem Stable.keepsFrom {B B2 : Nat} {W : World} (hW : W.heap.size ≤ B2) : Stable B2 (fun W' => KeepsFrom B W W') := fun _ _ h hk =>
  ⟨Nat.le_trans h.size hk.size, fun k o hB ho hc => (hk.low k (Nat.lt_of_lt_of_le (Array.getElem?_eq_some_iff.1 ho).1 hW) (Nat.lt_of_lt_of_le (Array.getElem?_eq_some_iff.1 ho).1 h.size)).trans (h.same k o hB ho hc)⟩

/-- Sides i and k clash, k the later one. -/
def clashB (cs : List Pt) (i k : Nat) : Bool := decide (i < k) && clashS i (corner cs i) (nextC cs i) k (corner cs k) (nextC cs k) cs.length
theorem badS_eq (cs : List Pt) (i : Nat) : badS cs i = ((corner cs i == nextC cs i) || (List.range cs.length).any (clashB cs i)) := rfl
theorem badS_clash {cs : List Pt} {i k : Nat} (hk : k < cs.length) (h : clashB cs i k = true) : badS cs i = true := by
  rw [badS_eq]; simp only [Bool.or_eq_true, List.any_eq_true]
  exact .inr ⟨k, List.mem_range.2 hk, h⟩
theorem badS_not {cs : List Pt} {i : Nat} (h : corner cs i ≠ nextC cs i) (h2 : ∀ k, k < cs.length → clashB cs i k = false) : badS cs i = false := by
  rw [badS_eq]
  have h3 : (List.range cs.length).any (clashB cs i) = false := by
    rw [List.any_eq_false]; intro k hk; simp [h2 k (List.mem_range.1 hk)]
  rw [h3]; simpa using h

theorem inP_all {cs : List Pt} (h : ∀ j, j < cs.length → posE (corner cs j) = 0) : ∀ p ∈ cs, InP p := by
  intro p hp
  obtain ⟨j, hj, rfl⟩ := List.mem_iff_getElem.1 hp
  have := posE_inP (h j hj)
  simpa [corner, hj] using this

theorem pre_small {n : Nat} {pre : List (Fin n)} {x : Fin n} (h : pre ++ [x] <+: allFin n) (j : Nat) (hj : j < x.val) : (⟨j, Nat.lt_trans hj x.isLt⟩ : Fin n) ∈ pre := by
  obtain ⟨t, ht⟩ := h
  have hl : pre.length < (allFin n).length := by rw [← ht]; simp
  have hx : (allFin n)[pre.length]'hl = x := by simp [← ht]
  have hv : x.val = pre.length := by rw [← hx]; simp [allFin]
  have hj' : (allFin n)[j]'(by omega) = pre[j]'(by omega) := by simp [← ht, List.getElem_append_left (show j < pre.length by omega)]
  have : pre[j]'(by omega) = ⟨j, Nat.lt_trans hj x.isLt⟩ := by rw [← hj']; apply Fin.ext; simp [allFin]
  rw [← this]
  exact List.getElem_mem _

end Go.Proofs.Ytgjpdjihjphbdaa
