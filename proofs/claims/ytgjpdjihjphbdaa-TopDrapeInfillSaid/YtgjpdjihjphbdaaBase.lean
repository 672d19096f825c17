/- Words for memory and small lemmas of this seat's proofs. -/
import Derived.Test.YtgjpdjihjphbdaaRows
import Derived.WalkKit
import Derived.WalkSpells
import Derived.WalkLawsBesides
import Derived.Lib.Hide
import Derived.Deep.QuietTactic
import Derived.BigQuiet
import Derived.StillTailTactics
import Derived.Deep.RegionHeld3
import Derived.Deep.DeepCutAuto
import Derived.Deep.LoopGhost
import Derived.Deep.DeepFit
import Derived.Deep.DeepMust
import Derived.Deep.OwnRows
namespace Go.Proofs.Ytgjpdjihjphbdaa
open Go.RowKit

theorem ret_bool {a b : Bool} (h : a = b) : Ending.returned (.bool a) = .returned (.bool b) := by rw [h]
theorem ret_num {k : IntKind} {a b : Int} (h : a = b) : Value.int k a = .int k b := by rw [h]
theorem ret_boo {a b : Bool} (h : a = b) : Value.bool a = .bool b := by rw [h]
theorem ret_int {k : IntKind} {a b : Int} (h : a = b) : Ending.returned (.int k a) = .returned (.int k b) := by rw [h]

/-- What a call that only computes leaves behind: its value, and all memory as it was (new blocks apart). -/
def Ret (w : World) (v : Value) (e : Ending) (w' : World) : Prop := e = .returned v ∧ Below w.heap.size w w'

theorem bcell {W w1 : World} (hb : Below W.heap.size W w1) : (∀ b o, b < W.heap.size → w1.cell? ⟨b, o, none⟩ = W.cell? ⟨b, o, none⟩) ∧ (∀ b o, b < W.heap.size → w1.frozen? ⟨b, o, none⟩ = W.frozen? ⟨b, o, none⟩) :=
  ⟨fun b o h => hb.cell (p := ⟨b, o, none⟩) h, fun b o h => hb.frozen (p := ⟨b, o, none⟩) h⟩

theorem cell_lt {w : World} {p : Addr} {v : Value} (h : w.cell? p = some v) : p.block < w.heap.size := World.block_lt_of_cell? w p h

theorem lt_alloc_below {w w1 : World} {o : Obj} (h : Below (w.alloc o).heap.size (w.alloc o) w1) : w.heap.size < w1.heap.size := by have := h.size; simp at this; omega
theorem cell_alloc {w : World} {p : Addr} {v : Value} (h : w.cell? p = some v) (o : Obj) : (w.alloc o).cell? p = some v :=
  (World.cell?_alloc_lt w o p (cell_lt h)).trans h
theorem cell_below {w w' : World} {p : Addr} {v : Value} (h : w.cell? p = some v) (hb : Below w.heap.size w w') : w'.cell? p = some v :=
  (hb.cell (cell_lt h)).trans h
theorem cell_set {w : World} {p q : Addr} {v : Value} (h : w.cell? p = some v) (u : Value) (hne : q ≠ p) : (w.setCell q u).cell? p = some v :=
  (World.cell?_setCell_other w q p u hne).trans h

/-- The slice value '.slice A n c' reads as the cells xs, 'size' cells an element. -/
def Rd (w : World) (size : Nat) (A : Option Addr) (n : Nat) (xs : List Value) : Prop :=
  xs.length = n * size ∧ (0 < n → ∃ b off, A = some ⟨b, off, none⟩ ∧ b < w.heap.size ∧ ∀ j u, xs[j]? = some u → w.cell? ⟨b, off + j, none⟩ = some u)

theorem Rd.below {w w' : World} {size n : Nat} {A : Option Addr} {xs : List Value} (h : Rd w size A n xs) {B : Nat} (hB : B = w.heap.size) (hb : Below B w w') : Rd w' size A n xs := by
  subst hB
  refine ⟨h.1, fun hn => ?_⟩
  obtain ⟨b, off, e, hlt, hc⟩ := h.2 hn
  exact ⟨b, off, e, Nat.lt_of_lt_of_le hlt hb.size, fun j u hu => (hb.cell (p := ⟨b, off + j, none⟩) hlt).trans (hc j u hu)⟩

/-- Integers, and pairs and triples of integers, as cells. -/
def enc1 (xs : List Int) : List Value := xs.map (Value.int .i64)
def enc2 (xs : List (Int × Int)) : List Value := xs.flatMap fun p => [.int .i64 p.1, .int .i64 p.2]

theorem enc1_length (xs : List Int) : (enc1 xs).length = xs.length := by simp [enc1]
theorem enc2_length (xs : List (Int × Int)) : (enc2 xs).length = xs.length * 2 := by
  induction xs with
  | nil => rfl
  | cons x xs ih => simp only [enc2, List.flatMap_cons, List.length_append, List.length_cons, List.length_nil] at ih ⊢; omega
theorem enc1_at (xs : List Int) (k : Nat) (h : k < xs.length) : (enc1 xs)[k]? = some (.int .i64 (xs[k]'h)) := by simp [enc1, h]
theorem enc2_cons (x : Int × Int) (xs : List (Int × Int)) : enc2 (x :: xs) = .int .i64 x.1 :: .int .i64 x.2 :: enc2 xs := rfl
theorem enc2_at (xs : List (Int × Int)) (k : Nat) (h : k < xs.length) : (enc2 xs)[k * 2]? = some (.int .i64 (xs[k]'h).1) ∧ (enc2 xs)[k * 2 + 1]? = some (.int .i64 (xs[k]'h).2) := by
  induction xs generalizing k with
  | nil => simp at h
  | cons x xs ih =>
    cases k with
    | zero => simp [enc2_cons]
    | succ k =>
      have := ih k (by simpa using h)
      simp only [enc2_cons, List.getElem_cons_succ]
      rw [show (k + 1) * 2 = k * 2 + 1 + 1 by omega]
      exact this

theorem Rd.at1 {w : World} {A : Option Addr} {n : Nat} {xs : List Int} (h : Rd w 1 A n (enc1 xs)) (k : Nat) (hk : k < xs.length) :
    ∃ b off, A = some ⟨b, off, none⟩ ∧ b < w.heap.size ∧ w.cell? ⟨b, off + k, none⟩ = some (.int .i64 (xs[k]'hk)) := by
  have hn : n = xs.length := by have := h.1; rw [enc1_length] at this; omega
  obtain ⟨b, off, e, hlt, hc⟩ := h.2 (by omega)
  exact ⟨b, off, e, hlt, hc k _ (enc1_at xs k hk)⟩
theorem Rd.at2 {w : World} {A : Option Addr} {n : Nat} {xs : List (Int × Int)} (h : Rd w 2 A n (enc2 xs)) (k : Nat) (hk : k < xs.length) :
    ∃ b off, A = some ⟨b, off, none⟩ ∧ b < w.heap.size ∧ w.cell? ⟨b, off + k * 2, none⟩ = some (.int .i64 (xs[k]'hk).1) ∧ w.cell? ⟨b, off + k * 2 + 1, none⟩ = some (.int .i64 (xs[k]'hk).2) := by
  have hn : n = xs.length := by have := h.1; rw [enc2_length] at this; omega
  obtain ⟨b, off, e, hlt, hc⟩ := h.2 (by omega)
  exact ⟨b, off, e, hlt, hc _ _ (enc2_at xs k hk).1, hc _ _ (enc2_at xs k hk).2⟩
theorem Rd.len1 {w : World} {A : Option Addr} {n : Nat} {xs : List Int} (h : Rd w 1 A n (enc1 xs)) : n = xs.length := by have := h.1; rw [enc1_length] at this; omega
theorem Rd.len2 {w : World} {A : Option Addr} {n : Nat} {xs : List (Int × Int)} (h : Rd w 2 A n (enc2 xs)) : n = xs.length := by have := h.1; rw [enc2_length] at this; omega

/-- A block of integers that has just been laid. -/
theorem Rd.block1 {w : World} {b : Nat} (xs : List Int) (hb : b < w.heap.size) (h : ∀ j (hj : j < xs.length), w.cell? ⟨b, j, none⟩ = some (.int .i64 xs[j])) : Rd w 1 (some ⟨b, 0, none⟩) xs.length (enc1 xs) := by
  refine ⟨by rw [enc1_length]; omega, fun _ => ⟨b, 0, rfl, hb, fun j u hu => ?_⟩⟩
  have hj : j < xs.length := by
    rw [← enc1_length]; exact (List.getElem?_eq_some_iff.1 hu).1
  rw [enc1_at xs j hj] at hu
  rw [Nat.zero_add, h j hj]
  exact hu

theorem enc2_drop (xs : List (Int × Int)) (k : Nat) : enc2 (xs.drop k) = (enc2 xs).drop (k * 2) := by
  induction k generalizing xs with
  | zero => simp
  | succ k ih =>
    cases xs with
    | nil => simp [enc2]
    | cons x xs =>
      rw [show (k + 1) * 2 = k * 2 + 1 + 1 by omega, enc2_cons]
      simpa using ih xs
theorem enc2_take (xs : List (Int × Int)) (k : Nat) : enc2 (xs.take k) = (enc2 xs).take (k * 2) := by
  induction k generalizing xs with
  | zero => simp [enc2]
  | succ k ih =>
    cases xs with
    | nil => simp [enc2]
    | cons x xs =>
      rw [show (k + 1) * 2 = k * 2 + 1 + 1 by omega, List.take_succ_cons, enc2_cons, enc2_cons]
      simp [ih xs]
/-- A cut of a slice: l[i : i + m]. -/
theorem Rd.sub {w : World} {size n b off : Nat} {xs : List Value} (h : Rd w size (some ⟨b, off, none⟩) n xs) (i m : Nat) (hi : i + m ≤ n) : Rd w size (some ⟨b, off + i * size, none⟩) m ((xs.drop (i * size)).take (m * size)) := by
  have hl := h.1
  have hmul : i * size + m * size ≤ n * size := by rw [← Nat.add_mul]; exact Nat.mul_le_mul_right _ hi
  refine ⟨by rw [List.length_take, List.length_drop]; omega, fun hm => ?_⟩
  obtain ⟨b', off', e, hlt, hc⟩ := h.2 (by omega)
  cases e
  refine ⟨b, off + i * size, rfl, hlt, fun j u hu => ?_⟩
  have hj : j < m * size := by
    have := (List.getElem?_eq_some_iff.1 hu).1
    rw [List.length_take] at this; omega
  rw [List.getElem?_take_of_lt hj, List.getElem?_drop] at hu
  have := hc _ u hu
  rwa [← Nat.add_assoc] at this
theorem Rd.sub2 {w : World} {n b off : Nat} {xs : List (Int × Int)} (h : Rd w 2 (some ⟨b, off, none⟩) n (enc2 xs)) (i m : Nat) (hi : i + m ≤ n) : Rd w 2 (some ⟨b, off + i * 2, none⟩) m (enc2 ((xs.drop i).take m)) := by
  rw [enc2_take, enc2_drop]; exact h.sub i m hi

theorem drop_at {α : Type} (xs : List α) (k : Nat) (h : k < xs.length) : xs.drop k = xs[k]'h :: xs.drop (k + 1) := List.drop_eq_getElem_cons h

/-- max and min, behind names that the walk does not open. -/
def mx (x y : Int) : Int := if y > x then y else x
def mn (x y : Int) : Int := if y < x then y else x
theorem mx_eq (x y : Int) : mx x y = max x y := by unfold mx; split <;> omega
theorem mn_eq (x y : Int) : mn x y = min x y := by unfold mn; split <;> omega
theorem run_mx (ts : Array TypeId) (t : TypeId) (x y : Int) (W : World) : (Builtin.max_ ts t #[.int .i64 x, .int .i64 y]).run Try.prog W = .ok (.int .i64 (mx x y)) W := run_max_int2 (P := Try.prog) W ts t .i64 .i64 x y
theorem run_mn (ts : Array TypeId) (t : TypeId) (x y : Int) (W : World) : (Builtin.min_ ts t #[.int .i64 x, .int .i64 y]).run Try.prog W = .ok (.int .i64 (mn x y)) W := run_min_int2 (P := Try.prog) W ts t .i64 .i64 x y

theorem Try.infoInt : (Try.prog.info? 3).map (fun i => (i.zero, i.size, i.bytes)) = some (some (.int .i64 0), 1, 8) := by kernel_rfl

/-- A row that lies below B. -/
theorem rowIs_below {w w' : World} {b t n : Nat} {f : Nat → Value} (h : w.rowIs b t n f) (hb : Below w.heap.size w w') : w'.rowIs b t n f := h.of_block (hb.block b h.lt)

theorem owns_below {w w' : World} {base e size n : Nat} {v : Value} {xs : List Value} (h : w.ownsRow base e size v n xs) (hb : Below w.heap.size w w') : w'.ownsRow base e size v n xs := by
  refine ⟨h.1, ?_⟩
  rcases h.2 with h2 | ⟨g, cap, cur, hv, hg, hh, r⟩
  · exact .inl h2
  · exact .inr ⟨g, cap, cur, hv, hg, (hb.block g (Array.getElem?_eq_some_iff.1 hh).1).trans hh, r⟩
theorem owns_base {w : World} {base base' e size n : Nat} {v : Value} {xs : List Value} (h : w.ownsRow base e size v n xs) (hb : base' ≤ base) : w.ownsRow base' e size v n xs := by
  refine ⟨h.1, ?_⟩
  rcases h.2 with h2 | ⟨g, cap, cur, hv, hg, r⟩
  · exact .inl h2
  · exact .inr ⟨g, cap, cur, hv, Nat.le_trans hb hg, r⟩
/-- An owned row reads. -/
theorem owns_rd {w : World} {base e size n : Nat} {v : Value} {xs : List Value} (h : w.ownsRow base e size v n xs) : ∃ A c, v = .slice A n c ∧ Rd w size A n xs := by
  rcases h.2 with ⟨rfl, hn⟩ | ⟨g, cap, cur, rfl, hg, hh, hnc, hcm, hcs, htake⟩
  · subst hn
    exact ⟨none, 0, rfl, h.1, fun h0 => absurd h0 (by omega)⟩
  · exact ⟨_, cap, rfl, h.1, fun _ => ⟨g, 0, rfl, (Array.getElem?_eq_some_iff.1 hh).1, fun j u hu => by
      have := h.cells (g := g) rfl j u hu
      rw [Nat.zero_add]
      have hadd : (⟨g, 0, none⟩ : Addr).add j = ⟨g, j, none⟩ := by unfold Addr.add; split <;> simp_all
      rwa [hadd] at this⟩⟩

theorem make_int (n : Nat) (hn : n ≤ 1000000) (W : World) : (Instr.makeSlice 25 (.int .i64 (n : Int)) (.int .i64 (n : Int))).run Try.prog W = .ok (.slice (some ⟨W.heap.size, 0, none⟩) n n) (W.alloc (.cells (madeCells #[.int .i64 0] n) 3)) :=
  run_make_row' (P := Try.prog) 25 3 (.int .i64 0) 8 Try.underlying25 Try.infoInt rfl .i64 .i64 n (by omega) (by omega) W

end Go.Proofs.Ytgjpdjihjphbdaa
