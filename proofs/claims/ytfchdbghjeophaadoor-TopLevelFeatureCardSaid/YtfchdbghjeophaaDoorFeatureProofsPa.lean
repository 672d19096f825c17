/- What the small language computes is what the program computes: comparisons, places. -/
import Derived.Test.YtfchdbghjeophaaDoorRows
import Derived.WalkKit
import Derived.WalkSpells
import Derived.WalkLawsBesides
import Derived.Lib.Hide
import Derived.Deep.QuietTactic
import Derived.BigQuiet
import Derived.StillTailTactics
import Derived.Deep.RegionHeld3
import Derived.Deep.DeepCutAuto
import Derived.Deep.LoopGhost
import Derived.Deep.DeepFit
import Derived.Deep.DeepMust
import Derived.Deep.OwnRows
import Derived.RangeFuncNested
import Derived.RangeFuncBound
import Derived.RangeFuncCalls
import Derived.RangeFuncLeaves
import Derived.RangeFuncBox
import Derived.OrdersIn
import Derived.OwnWalkIn
import Derived.TacticsInMore
import Derived.LoopNIn
import Derived.LoopIn
import Derived.Shelf.Abstract
import Derived.Great.BuildSlice
import Derived.Deep.AppendSrc
import Derived.Laws.MakeOwn
import Derived.Deep.Upon
import Derived.WideKeyRuns
import Derived.MapKept
import Derived.Laws.CopyRow
/- Words for memory and small lemmas of this seat's proofs. -/
namespace Go.Proofs.YtfchdbghjeophaaDoor
open Go.RowKit
def Ret (w : World) (v : Value) (e : Ending) (w' : World) : Prop := e = .returned v ∧ Below w.heap.size w w'
theorem cell_lt {w : World} {p : Addr} {v : Value} (h : w.cell? p = some v) : p.block < w.heap.size := World.block_lt_of_cell? w p h
def Rd (w : World) (size : Nat) (A : Option Addr) (n : Nat) (xs : List Value) : Prop :=
 xs.length = n * size ∧ (0 < n → ∃ b off, A = some ⟨b, off, none⟩ ∧ b < w.heap.size ∧ ∀ j u, xs[j]? = some u → w.cell? ⟨b, off + j, none⟩ = some u)
theorem Rd.below {w w' : World} {size n : Nat} {A : Option Addr} {xs : List Value} (h : Rd w size A n xs) {B : Nat} (hB : B = w.heap.size) (hb : Below B w w') : Rd w' size A n xs := by
 subst hB
 refine ⟨h.1, fun hn => ?_⟩
 obtain ⟨b, off, e, hlt, hc⟩ := h.2 hn
 exact ⟨b, off, e, Nat.lt_of_lt_of_le hlt hb.size, fun j u hu => (hb.cell (p := ⟨b, off + j, none⟩) hlt).trans (hc j u hu)⟩
theorem Rd.sub {w : World} {size n b off : Nat} {xs : List Value} (h : Rd w size (some ⟨b, off, none⟩) n xs) (i m : Nat) (hi : i + m ≤ n) : Rd w size (some ⟨b, off + i * size, none⟩) m ((xs.drop (i * size)).take (m * size)) := by
 have hl := h.1
 have hmul : i * size + m * size ≤ n * size := by rw [← Nat.add_mul]; exact Nat.mul_le_mul_right _ hi
 refine ⟨by rw [List.length_take, List.length_drop]; omega, fun hm => ?_⟩
 obtain ⟨b', off', e, hlt, hc⟩ := h.2 (by omega)
 cases e
 refine ⟨b, off + i * size, rfl, hlt, fun j u hu => ?_⟩
 have hj : j < m * size := by
  have := (List.getElem?_eq_some_iff.1 hu).1
  rw [List.length_take] at this; omega
 rw [List.getElem?_take_of_lt hj, List.getElem?_drop] at hu
 have := hc _ u hu
 rwa [← Nat.add_assoc] at this
theorem drop_at {α : Type} (xs : List α) (k : Nat) (h : k < xs.length) : xs.drop k = xs[k]'h :: xs.drop (k + 1) := List.drop_eq_getElem_cons h
def mx (x y : Int) : Int := if y > x then y else x
def mn (x y : Int) : Int := if y < x then y else x
end Go.Proofs.YtfchdbghjeophaaDoor

/- Regions that draw their order: the operations of a head yield fixed values in every world of a class; then a tail whose order is forced. -/
namespace Go.Proofs.YtfchdbghjeophaaDoor
open Go.RowKit
section
variable {P : Program} {ops : Array Oper} {md : Region.Mode} {C : World → Prop}
end
structure After (w : World) where
 val : World
 below : Below w.heap.size w val
instance After.some_ (w : World) : Nonempty (After w) := ⟨⟨w, Below.refl _ _⟩⟩
@[simp, go_sem] theorem After.cell {w : World} (x : After w) (b o : Nat) (h : b < w.heap.size) : x.val.cell? ⟨b, o, none⟩ = w.cell? ⟨b, o, none⟩ := x.below.cell (p := ⟨b, o, none⟩) h
@[simp, go_sem] theorem After.frozen {w : World} (x : After w) (b o : Nat) (h : b < w.heap.size) : x.val.frozen? ⟨b, o, none⟩ = w.frozen? ⟨b, o, none⟩ := x.below.frozen (p := ⟨b, o, none⟩) h
theorem After.call {P : Program} {f : FuncId} {args : Array Value} {w : World} {x : After w} {v : Value} (h : Calls P f args x.val (Ret x.val v)) :
  Calls P f args x.val fun e w'' => e = .returned v ∧ ∃ y : After w, w'' = y.val :=
 h.mono fun _ w'' ⟨he, hb⟩ => ⟨he, ⟨w'', x.below.trans (hb.mono x.below.size)⟩, rfl⟩
theorem After.same {P : Program} {f : FuncId} {args : Array Value} {w : World} {x : After w} {v : Value} (h : Calls P f args x.val fun e w' => e = .returned v ∧ x.val = w') :
  Calls P f args x.val fun e w'' => e = .returned v ∧ ∃ y : After w, w'' = y.val :=
 h.mono fun _ _ ⟨he, hb⟩ => ⟨he, x, hb.symm⟩
section
variable {P : Program} {ops : Array Oper} {C : World → Prop} {Q : Exit → Act → World → Prop}
end
end Go.Proofs.YtfchdbghjeophaaDoor

/- Regions that draw their order, inside the fence of a range over a function. -/
namespace Go.Proofs.YtfchdbghjeophaaDoor
open Go.RowKit
abbrev Fw (r : Option Nat) : Fence := { Fence.wide with round := r }
theorem calls_in {P : Program} {f : FuncId} {args : Array Value} {w : World} {R : Ending → World → Prop} (r : Option Nat) (n : Nat) (h : Calls P f args w R) : CallsIn (Fw r) n P f args w R :=
 (callsIn_wide (n := n)).2 h
section
variable {P : Program} {ops : Array Oper} {md : Region.Mode} {C : World → Prop} {r : Option Nat} {m : Nat}
theorem about_wide (o : Oper) (a : Act) (w : World) : ∀ f, o.about P w a.eval = some f → (Fw r).fn f := fun _ _ => trivial
end
section
variable {P : Program} {ops : Array Oper} {C : World → Prop} {Q : Exit → Act → World → Prop} {r : Option Nat} {m : Nat}
end
end Go.Proofs.YtfchdbghjeophaaDoor

/- Ranges over a function: the laws in the form in which this seat uses them. -/
namespace Go.Proofs.YtfchdbghjeophaaDoor
open Go.RowKit
def dataO (o : Obj) : Bool := o.isCells || (match o with | .map _ _ => true | _ => false)
structure CK (B : Nat) (W W' : World) : Prop where
 os : W'.os = W.os
 tape : W'.tape = W.tape
 output : W'.output = W.output
 size : W.heap.size ≤ W'.heap.size
 low : ∀ k, k < B → k < W.heap.size → W'.heap[k]? = W.heap[k]?
 cells : ∀ (k : Nat) (o : Obj), W.heap[k]? = some o → o.isCells = true → W'.heap[k]? = some o
theorem CK.refl (B : Nat) (W : World) : CK B W W := ⟨rfl, rfl, rfl, Nat.le_refl _, fun _ _ _ => rfl, fun _ _ h _ => h⟩
theorem CK.trans {B : Nat} {U V Z : World} (h : CK B U V) (k : CK B V Z) : CK B U Z :=
 ⟨k.os.trans h.os, k.tape.trans h.tape, k.output.trans h.output, Nat.le_trans h.size k.size, fun i hi hs => (k.low i hi (Nat.lt_of_lt_of_le hs h.size)).trans (h.low i hi hs), fun i o hi ho => k.cells i o (h.cells i o hi ho) ho⟩
theorem CK.mono {B B' : Nat} {U V : World} (h : CK B U V) (hB : B' ≤ B) : CK B' U V := ⟨h.os, h.tape, h.output, h.size, fun k hk => h.low k (Nat.lt_of_lt_of_le hk hB), h.cells⟩
theorem CK.below {B : Nat} {U V : World} (h : CK B U V) (hB : B ≤ U.heap.size) : Below B U V := ⟨h.os, h.tape, h.output, h.size, fun k hk => h.low k hk (Nat.lt_of_lt_of_le hk hB)⟩
theorem CK.of_below {B : Nat} {U V : World} (h : Below U.heap.size U V) : CK B U V :=
 ⟨h.os, h.tape, h.output, h.size, fun k _ hs => h.block k hs, fun k _ hk _ => (h.block k (Array.getElem?_eq_some_iff.1 hk).1).trans hk⟩
theorem CK.putObj {B : Nat} (W : World) (l : Nat) (o o' : Obj) (hl : W.heap[l]? = some o) (ho : o.isCells = false) (hB : B ≤ l) : CK B W (W.putObj l o') := by
 have hg := grownBy_putObj' W l o'
 refine ⟨hg.os, hg.tape, hg.output, hg.size, fun k hk hs => hg.block k hs (fun e => by cases e; omega), fun k x hk hx => ?_⟩
 have hs := (Array.getElem?_eq_some_iff.1 hk).1
 refine (hg.block k hs (fun e => ?_)).trans hk
 cases e
 rw [hl] at hk
 cases hk
 rw [ho] at hx
 cases hx
theorem block_isCells {W : World} {p : Addr} {v : Value} (h : W.cell? p = some v) : ∃ o, W.heap[p.block]? = some o ∧ o.isCells = true := by
 unfold World.cell? at h
 cases hb : W.heap[p.block]? with
 | none => rw [hb] at h; simp at h
 | some o =>
  refine ⟨o, rfl, ?_⟩
  rw [hb] at h
  cases o <;> first | rfl | simp at h
theorem CK.cell {B : Nat} {W W' : World} (h : CK B W W') {p : Addr} {v : Value} (hc : W.cell? p = some v) : W'.cell? p = some v := by
 obtain ⟨o, ho, hx⟩ := block_isCells hc
 exact (World.cell?_of_block (w := W) ((h.cells _ o ho hx).trans ho.symm)).trans hc
theorem CK.frozen {B : Nat} {W W' : World} (h : CK B W W') {p : Addr} {v : Value} (hc : W.cell? p = some v) : W'.frozen? p = W.frozen? p := by
 obtain ⟨o, ho, hx⟩ := block_isCells hc
 exact World.frozen?_of_block (w := W) ((h.cells _ o ho hx).trans ho.symm)
structure SameS (S : Nat → Prop) (W W' : World) : Prop where
 os : W'.os = W.os
 tape : W'.tape = W.tape
 output : W'.output = W.output
 size : W.heap.size ≤ W'.heap.size
 block : ∀ k, S k → W'.heap[k]? = W.heap[k]?
theorem SameS.refl (S : Nat → Prop) (W : World) : SameS S W W := ⟨rfl, rfl, rfl, Nat.le_refl _, fun _ _ => rfl⟩
theorem SameS.trans {S : Nat → Prop} {U V Z : World} (h : SameS S U V) (k : SameS S V Z) : SameS S U Z :=
 ⟨k.os.trans h.os, k.tape.trans h.tape, k.output.trans h.output, Nat.le_trans h.size k.size, fun i hi => (k.block i hi).trans (h.block i hi)⟩
theorem SameS.cell {S : Nat → Prop} {W W' : World} (h : SameS S W W') {p : Addr} (hp : S p.block) : W'.cell? p = W.cell? p := World.cell?_of_block (w := W) (h.block _ hp)
theorem SameS.of_below {S : Nat → Prop} {W W' : World} (h : Below W.heap.size W W') (hn : ∀ k, S k → k < W.heap.size) : SameS S W W' := ⟨h.os, h.tape, h.output, h.size, fun k hk => h.block k (hn k hk)⟩
theorem SameS.putObj {S : Nat → Prop} {B : Nat} (hn : ∀ k, S k → k < B) (W : World) (l : Nat) (o o' : Obj) (hl : B ≤ l) (_ : W.heap[l]? = some o) (_ : o.isCells = false) (_ : o.isWalk = false) : SameS S W (W.putObj l o') := by
 have hg := grownBy_putObj' W l o'
 refine ⟨hg.os, hg.tape, hg.output, hg.size, fun k hk => ?_⟩
 exact World.putObj_heap_other (fun e => by have := hn k hk; omega)
def Stable (B : Nat) (R : World → Prop) : Prop := ∀ W W', R W → CK B W W' → R W'
theorem Stable.and {B : Nat} {R S : World → Prop} (h : Stable B R) (k : Stable B S) : Stable B (fun W => R W ∧ S W) := fun W W' hs hc => ⟨h W W' hs.1 hc, k W W' hs.2 hc⟩
theorem Stable.ex {β : Type} {B : Nat} {R : β → World → Prop} (h : ∀ b, Stable B (R b)) : Stable B (fun W => ∃ b, R b W) := fun W W' ⟨b, hs⟩ hc => ⟨b, h b W W' hs hc⟩
theorem Stable.pure {B : Nat} (p : Prop) : Stable B (fun _ => p) := fun _ _ h _ => h
theorem Stable.cell {B : Nat} (p : Addr) (v : Value) : Stable B (fun W => W.cell? p = some v) := fun _ _ h hc => hc.cell h
theorem Stable.below {B B' : Nat} {w : World} (hB : B' ≤ B) (hw : B' ≤ w.heap.size) : Stable B (fun W => Below B' w W) := fun _ _ h hc => h.trans ((hc.mono hB).below (Nat.le_trans hw h.size))
theorem Stable.le {B n : Nat} : Stable B (fun W => n ≤ W.heap.size) := fun _ _ h hc => Nat.le_trans h hc.size
theorem Stable.lt {B n : Nat} : Stable B (fun W => n < W.heap.size) := fun _ _ h hc => Nat.lt_of_lt_of_le h hc.size
def OneC (W : World) (b : Nat) (t : TypeId) (v : Value) : Prop := W.heap[b]? = some (.cells #[v] t (0, 0))
theorem OneC.cell {W : World} {b : Nat} {t : TypeId} {v : Value} (h : OneC W b t v) : W.cell? ⟨b, 0, none⟩ = some v := by
 rw [cell_of_row W b 0 _ t (0, 0) h]; rfl
theorem OneC.frozen {W : World} {b : Nat} {t : TypeId} {v : Value} (h : OneC W b t v) : W.frozen? ⟨b, 0, none⟩ = false := frozen_of_row W b 0 _ t h
theorem OneC.lt {W : World} {b : Nat} {t : TypeId} {v : Value} (h : OneC W b t v) : b < W.heap.size := (Array.getElem?_eq_some_iff.1 h).1
theorem OneC.below {W W' : World} {b : Nat} {t : TypeId} {v : Value} (h : OneC W b t v) (hb : Below W.heap.size W W') : OneC W' b t v := (hb.block b h.lt).trans h
theorem OneC.alloc {W : World} {b : Nat} {t : TypeId} {v : Value} (h : OneC W b t v) (o : Obj) : OneC (W.alloc o) b t v := (Below.heap_alloc W o b h.lt).trans h
theorem OneC.new (W : World) (t : TypeId) (v : Value) : OneC (W.alloc (.cells #[v] t)) W.heap.size t v := by unfold OneC; exact World.alloc_heap_new W _
theorem OneC.set {W : World} {b : Nat} {t : TypeId} {v : Value} (h : OneC W b t v) (u : Value) : OneC (W.setCell ⟨b, 0, none⟩ u) b t u := by
 unfold OneC at *
 simp [World.setCell, Array.getElem?_modify, h]
theorem Stable.one {B b : Nat} {t : TypeId} {v : Value} : Stable B (fun W => OneC W b t v) := fun _ _ h hk => hk.cells _ _ h rfl
structure CKd (B : Nat) (W W' : World) : Prop extends CK B W W' where
 data : ∀ (k : Nat) (o : Obj), W.heap[k]? = some o → dataO o = true → W'.heap[k]? = some o
theorem CKd.of_below {B : Nat} {U V : World} (h : Below U.heap.size U V) : CKd B U V := ⟨CK.of_below h, fun k _ hk _ => (h.block k (Array.getElem?_eq_some_iff.1 hk).1).trans hk⟩
theorem CKd.putObj {B : Nat} (W : World) (l : Nat) (o o' : Obj) (hl : W.heap[l]? = some o) (ho : dataO o = false) (hB : B ≤ l) : CKd B W (W.putObj l o') := by
 have hd : ∀ x : Obj, dataO x = false → x.isCells = false := fun x h => by unfold dataO at h; rw [Bool.or_eq_false_iff] at h; exact h.1
 refine ⟨CK.putObj W l o o' hl (hd o ho) hB, fun k x hk hx => ?_⟩
 by_cases e : k = l
 ·subst e
  rw [hl] at hk
  cases hk
  rw [ho] at hx
  cases hx
 ·exact (World.putObj_heap_other e).trans hk
theorem CKd.refl (B : Nat) (W : World) : CKd B W W := ⟨CK.refl B W, fun _ _ h _ => h⟩
theorem CKd.trans {B : Nat} {U V Z : World} (h : CKd B U V) (k : CKd B V Z) : CKd B U Z := ⟨h.toCK.trans k.toCK, fun i o hi ho => k.data i o (h.data i o hi ho) ho⟩
def Marks (B : Nat) : List Deferred → World → Prop
 | [], _ => True
 | d :: ds, W => (∃ D, d = { target := .collected D, args := #[] } ∧ B ≤ D ∧ W.heap[D]? = some (.deferred (some [])) ∧ ∀ d' ∈ ds, d' ≠ d) ∧ Marks B ds W
theorem Marks.keep {B : Nat} : ∀ {ds : List Deferred} {W W' : World}, Marks B ds W → (∀ D, ({ target := .collected D, args := #[] } : Deferred) ∈ ds → W.heap[D]? = some (.deferred (some [])) → W'.heap[D]? = some (.deferred (some []))) → Marks B ds W'
 | [], _, _, _, _ => trivial
 | d :: ds, W, W', ⟨⟨D, hd, hB, hD, hne⟩, hm⟩, hk => ⟨⟨D, hd, hB, hk D (by rw [hd]; exact List.mem_cons_self) hD, hne⟩, Marks.keep hm fun D' hD' h => hk D' (List.mem_cons_of_mem _ hD') h⟩
theorem Marks.at_ {B : Nat} : ∀ {ds : List Deferred} {W : World}, Marks B ds W → ∀ D, ({ target := .collected D, args := #[] } : Deferred) ∈ ds → W.heap[D]? = some (.deferred (some [])) ∧ B ≤ D
 | d :: ds, W, ⟨⟨D, hd, hB, hD, _⟩, hm⟩, D', h => by
  rcases List.mem_cons.1 h with e | h
  ·rw [hd] at e; cases e; exact ⟨hD, hB⟩
  ·exact Marks.at_ hm D' h
theorem leaves_marksD {n : Nat} {P : Program} {fn : Func} {tmps : Array Value} {R : Ending → World → Prop} {v : Value} {B : Nat} : ∀ (ds : List Deferred) (W : World), Marks B ds W →
  (∀ W', CKd B W W' → (results fn tmps).run P W' = .ok v W' ∧ R (.returned v) W') → LeavesInM Fence.wide n P fn tmps R ds .returning W
 | [], W, _, h => by
  obtain ⟨h1, h2⟩ := h W (CKd.refl _ _)
  exact ⟨v, h1, h2⟩
 | d :: ds, W, ⟨⟨D, hd, hB, hD, hne⟩, hm⟩, h => by
  refine ⟨by simp, .inl ⟨D, W.putObj D (.deferred none), by rw [hd], run_takeDeferred hD, ?_⟩⟩
  have hck : CKd B W (W.putObj D (.deferred none)) := CKd.putObj W D _ _ hD rfl hB
  refine leaves_marksD ds _ (hm.keep fun D' hD' hh => ?_) fun W' hk => h W' (hck.trans hk)
  refine (World.putObj_heap_other (fun e => ?_)).trans hh
  exact hne _ hD' (by rw [hd, e])
theorem ret_marksD {n : Nat} {P : Program} {fn : Func} {a : Act} {W : World} {R : Ending → World → Prop} {v : Value} {B : Nat} (hm : Marks B a.defers W)
  (h : ∀ W', CKd B W W' → (results fn a.tmps).run P W' = .ok v W' ∧ R (.returned v) W') : bodyPostM Fence.wide n P fn R .ret a W := leaves_marksD _ _ hm h
structure Kept (S : Nat → Prop) (B : Nat) (W W' : World) : Prop where
 keeps : KeepsFrom B W W'
 same : SameS S W W'
theorem Kept.refl (S : Nat → Prop) (B : Nat) (W : World) : Kept S B W W := ⟨KeepsFrom.refl _ _, SameS.refl _ _⟩
theorem Kept.trans {S : Nat → Prop} {B : Nat} {U V Z : World} (h : Kept S B U V) (k : Kept S B V Z) : Kept S B U Z := ⟨h.keeps.trans k.keeps, h.same.trans k.same⟩
theorem Kept.of_below {S : Nat → Prop} {B : Nat} {W W' : World} (h : Below W.heap.size W W') (hn : ∀ k, S k → k < W.heap.size) : Kept S B W W' :=
 ⟨⟨h.size, fun k _ _ hk _ => (h.block k (Array.getElem?_eq_some_iff.1 hk).1).trans hk⟩, h.os, h.tape, h.output, h.size, fun k hk => h.block k (hn k hk)⟩
theorem Kept.alloc {S : Nat → Prop} {B : Nat} (W : World) (hn : ∀ k, S k → k < W.heap.size) (o : Obj) : Kept S B W (W.alloc o) := Kept.of_below ((Below.refl _ W).alloc (Nat.le_refl _) o) hn
theorem Kept.setCell {S : Nat → Prop} {B : Nat} (W : World) {p : Addr} (hp : ¬ S p.block) (u : Value) : Kept S B W (W.setCell p u) :=
 ⟨(KeepsOthers.setCell W p u).from B, rfl, rfl, rfl, by simp [World.setCell], fun k hk => Below.heap_setCell W p u k (fun e => hp (e ▸ hk))⟩
end Go.Proofs.YtfchdbghjeophaaDoor

/- Abstract values and their relation to memory: what a deterministic evaluation of the program's text computes with. -/
namespace Go.Proofs.YtfchdbghjeophaaDoor
open Go.RowKit
inductive MV where
 | lit (v : Value)
 | agg (cs : List MV)
 | tup (vs : List MV)
 | sl (es : List MV)
 | rp (e : MV) (off : Nat)
 | ptr (id i off g : Nat)
 | arr (id i n g : Nat)
 | fn (f k : Nat) (caps : List MV)
 | mp (id g : Nat)
 | rm (es : List MV)
 | junk
 | yld
 | emp
instance : Inhabited MV := ⟨.junk⟩
def MV.cells : MV → List MV
 | .agg cs => cs
 | v => [v]
def flat (es : List MV) : List MV := es.flatMap MV.cells
def MV.one : MV → Bool
 | .lit v => v.oneCell'
 | .agg _ | .tup _ | .junk | .yld => false
 | _ => true
structure MObj where
 g : Nat
 nl : Bool
 sz : Nat
 es : List MV
abbrev MHeap := List MObj
structure Env where
 S : Nat → Prop
 K : Nat → Prop
 ρ : Nat → Nat
 bo : Nat → Nat
 cp : Nat → Nat
 sz : Nat → Nat
 gn : Nat → Nat
 ln : Nat → Nat
 nl : Nat → Bool
 top : Nat
 yl : Nat
def mapV (es : Array MapEntry) : Value := .tuple (es.map fun e => .tuple #[e.key, e.val])
def viewO (nl : Bool) (o : Option Obj) (arr : Array Value) (t : TypeId) : Prop :=
 match nl with
 | false => o = some (.cells arr t (0, 0))
 | true => ∃ es ck, o = some (.map es ck) ∧ arr = #[mapV es]
theorem viewO.some {nl : Bool} {o : Option Obj} {arr : Array Value} {t : TypeId} (h : viewO nl o arr t) : ∃ x, o = some x := by
 cases nl
 ·exact ⟨_, h⟩
 ·obtain ⟨es, ck, h, _⟩ := h; exact ⟨_, h⟩
theorem viewO.data {nl : Bool} {o : Option Obj} {arr : Array Value} {t : TypeId} (h : viewO nl o arr t) : ∃ x, o = Option.some x ∧ dataO x = true := by
 cases nl
 ·exact ⟨_, h, rfl⟩
 ·obtain ⟨es, ck, h, _⟩ := h; exact ⟨_, h, rfl⟩
theorem viewO.ck {nl : Bool} {arr : Array Value} {t : TypeId} {B k : Nat} {w w' : World} (hc : CKd B w w') (h : viewO nl w.heap[k]? arr t) : viewO nl w'.heap[k]? arr t := by
 cases nl
 ·exact hc.data _ _ h rfl
 ·obtain ⟨es, ck, h, e⟩ := h; exact ⟨es, ck, hc.data _ _ h rfl, e⟩
inductive V (E : Env) (w : World) : MV → Value → Prop
 | junk (v : Value) : V E w .junk v
 | yld : V E w .yld (.func (.yield E.yl) #[] #[])
 | emp (a : Addr) : V E w .emp (.slice (some a) 0 0)
 | lit (v : Value) : V E w (.lit v) v
 | agg (cs : List MV) (vs : List Value) : cs.length = vs.length → (∀ (i : Nat) c v, cs[i]? = some c → vs[i]? = some v → V E w c v) → V E w (.agg cs) (.agg vs.toArray)
 | tup (cs : List MV) (vs : List Value) : cs.length = vs.length → (∀ (i : Nat) c v, cs[i]? = some c → vs[i]? = some v → V E w c v) → V E w (.tup cs) (.tuple vs.toArray)
 | sl (es : List MV) (vs : List Value) (A : Option Addr) (cap sz : Nat) : es.length ≤ cap → (∀ e ∈ es, e.cells.length = sz) → (flat es).length = vs.length → (∀ (i : Nat) c v, (flat es)[i]? = some c → vs[i]? = some v → V E w c v) →
   (0 < es.length → ∃ b off, A = some ⟨b, off, none⟩ ∧ E.S b ∧ ∀ (i : Nat) v, vs[i]? = some v → w.cell? ⟨b, off + i, none⟩ = some v) → V E w (.sl es) (.slice A es.length cap)
 | rp (e : MV) (off : Nat) (vs : List Value) (b o : Nat) : e.cells.length = vs.length → (∀ (i : Nat) c v, e.cells[i]? = some c → vs[i]? = some v → V E w c v) → E.S b → (∀ (i : Nat) v, vs[i]? = some v → w.cell? ⟨b, o + i, none⟩ = some v) →
   V E w (.rp e off) (.pointer (some ⟨b, o + off, none⟩))
 | ptr (id i off g b o : Nat) : E.K id → g ≤ E.gn id → (E.gn id = g → b = E.ρ id ∧ o = (E.bo id + i) * E.sz id + off ∧ i < E.ln id ∧ E.nl id = false) → V E w (.ptr id i off g) (.pointer (some ⟨b, o, none⟩))
 | arr (id i n g : Nat) (A : Option Addr) (cap : Nat) : E.K id → g ≤ E.gn id → (E.gn id = g → i + n ≤ E.ln id ∧ n ≤ cap ∧ (E.nl id = true → A = none ∧ cap = 0 ∧ E.cp id = 0) ∧ (E.nl id = false → A.isSome = true) ∧
   (0 < cap → A = some ⟨E.ρ id, (E.bo id + i) * E.sz id, none⟩ ∧ E.bo id + i + cap ≤ E.cp id)) → V E w (.arr id i n g) (.slice A n cap)
 | mp (id g b : Nat) : E.K id → g ≤ E.gn id → (E.gn id = g → b = E.ρ id ∧ E.nl id = true ∧ 0 < E.cp id) → V E w (.mp id g) (.map (some b))
 | rm (es : List MV) (vs : List Value) (b : Nat) (ents : Array MapEntry) (ck : Nat) : es.length = vs.length → (∀ (i : Nat) c v, es[i]? = some c → vs[i]? = some v → V E w c v) → mapV ents = .tuple vs.toArray → E.S b → w.heap[b]? = some (.map ents ck) → V E w (.rm es) (.map (some b))
 | fn (f k : Nat) (cs : List MV) (vs : List Value) : cs.length = vs.length → (∀ (i : Nat) c v, cs[i]? = some c → vs[i]? = some v → V E w c v) → V E w (.fn f k cs) (.func (.func f) (vs.take k).toArray (vs.drop k).toArray)
def Vs (E : Env) (w : World) (cs : List MV) (vs : List Value) : Prop := cs.length = vs.length ∧ ∀ (i : Nat) c v, cs[i]? = some c → vs[i]? = some v → V E w c v
def TABS : List (MV × Value) := [(.sl (([0, 1, 56, 2, 57, 49, 28, 3, 61, 58, 42, 50, 38, 29, 17, 4, 62, 47, 59, 36, 45, 43, 51, 22, 53, 39, 33, 30, 24, 18, 12, 5, 63, 55, 48, 27, 60, 41, 37, 16, 46, 35, 44, 21, 52, 32, 23, 11, 54, 26, 40, 15, 34, 20, 31, 10, 25, 14, 19, 9, 13, 8, 7, 6] : List Nat).map fun k : Nat => .lit (.int .u8 (k : Int))), .slice (some ⟨1, 0, none⟩) 64 64)]
structure HRel (E : Env) (H : MHeap) (w : World) : Prop where
 klt : ∀ id, E.K id → id < H.length
 top : E.top ≤ H.length
 obj : ∀ id, E.K id → ∃ es, H[id]? = some ⟨E.gn id, E.nl id, E.sz id, es⟩ ∧ E.ln id = es.length ∧ (∀ e ∈ es, e.cells.length = E.sz id) ∧ E.bo id + es.length ≤ E.cp id ∧
  (0 < E.cp id → ∃ (arr : Array Value) (t : TypeId), viewO (E.nl id) w.heap[E.ρ id]? arr t ∧ arr.size = E.cp id * E.sz id ∧ ∀ (k : Nat) c, (flat es)[k]? = some c → ∃ v, arr[E.bo id * E.sz id + k]? = some v ∧ V E w c v)
 inj : ∀ id id', E.K id → E.K id' → 0 < E.cp id → 0 < E.cp id' → E.ρ id = E.ρ id' → id = id'
 sep : ∀ id, E.K id → 0 < E.cp id → ¬ E.S (E.ρ id)
 slt : ∀ b, E.S b → b < w.heap.size
 tab : ∀ p ∈ TABS, V E w p.1 p.2
structure Ext (lk : Nat → Bool) (E : Env) (w : World) (E' : Env) (w' : World) : Prop where
 os : w'.os = w.os
 tape : w'.tape = w.tape
 output : w'.output = w.output
 size : w.heap.size ≤ w'.heap.size
 keep : ∀ k, k < w.heap.size → (∀ id, E.K id → lk id = false → 0 < E.cp id → E.ρ id ≠ k) → w'.heap[k]? = w.heap[k]?
 S : ∀ b, E.S b → E'.S b
 K : ∀ id, E.K id → E'.K id
 old : ∀ id, E.K id → E.gn id ≤ E'.gn id ∧ (E'.gn id = E.gn id → E'.ρ id = E.ρ id ∧ E'.bo id = E.bo id ∧ E'.cp id = E.cp id ∧ E'.sz id = E.sz id ∧ E'.ln id = E.ln id ∧ E'.nl id = E.nl id)
 lock : ∀ id, E.K id → lk id = true → E'.gn id = E.gn id
 src : ∀ id, E'.K id → 0 < E'.cp id → (E.K id ∧ 0 < E.cp id ∧ E'.ρ id = E.ρ id) ∨ w.heap.size ≤ E'.ρ id
 top : E'.top = E.top
 srcK : ∀ id, E'.K id → E.K id ∨ E.top ≤ id
 yl : E'.yl = E.yl
 srcS : ∀ b, E'.S b → E.S b ∨ (∃ id, E.K id ∧ 0 < E.cp id ∧ E.ρ id = b) ∨ w.heap.size ≤ b
theorem Ext.refl (lk : Nat → Bool) (E : Env) (w : World) : Ext lk E w E w :=
 ⟨rfl, rfl, rfl, Nat.le_refl _, fun _ _ _ => rfl, fun _ h => h, fun _ h => h, fun _ _ => ⟨Nat.le_refl _, fun _ => ⟨rfl, rfl, rfl, rfl, rfl, rfl⟩⟩, fun _ _ _ => rfl, fun _ hd hc => .inl ⟨hd, hc, rfl⟩, rfl, fun _ h => .inl h, rfl, fun _ h => .inl h⟩
theorem Ext.trans {lk : Nat → Bool} {E E1 E2 : Env} {w w1 w2 : World} (h : Ext lk E w E1 w1) (k : Ext lk E1 w1 E2 w2) : Ext lk E w E2 w2 where
 os := k.os.trans h.os
 tape := k.tape.trans h.tape
 output := k.output.trans h.output
 size := Nat.le_trans h.size k.size
 keep := fun b hb hn => (k.keep b (Nat.lt_of_lt_of_le hb h.size) (fun id hd hl hc e => by
  rcases h.src id hd hc with ⟨hi, hci, ei⟩ | hge
  ·exact hn id hi hl hci (ei.symm.trans e)
  ·omega)).trans (h.keep b hb hn)
 S := fun b hb => k.S b (h.S b hb)
 K := fun b hb => k.K b (h.K b hb)
 old := fun id hk => by
  obtain ⟨a2, a3⟩ := h.old id hk
  obtain ⟨b2, b3⟩ := k.old id (h.K id hk)
  refine ⟨Nat.le_trans a2 b2, fun e => ?_⟩
  have e1 : E1.gn id = E.gn id := by omega
  obtain ⟨c1, c2, c3, c4, c5, c6⟩ := a3 e1
  obtain ⟨d1, d2, d3, d4, d5, d6⟩ := b3 (by omega)
  exact ⟨d1.trans c1, d2.trans c2, d3.trans c3, d4.trans c4, d5.trans c5, d6.trans c6⟩
 lock := fun id hk hl => (k.lock id (h.K id hk) hl).trans (h.lock id hk hl)
 src := fun id hd hc => by
  rcases k.src id hd hc with ⟨hi, hci, ei⟩ | hge
  ·rcases h.src id hi hci with ⟨hj, hcj, ej⟩ | hge
   ·exact .inl ⟨hj, hcj, ei.trans ej⟩
   ·exact .inr (by omega)
  ·exact .inr (Nat.le_trans h.size hge)
 top := k.top.trans h.top
 srcK := fun id hd => (k.srcK id hd).elim (h.srcK id) fun e => .inr (h.top ▸ e)
 yl := k.yl.trans h.yl
 srcS := fun b hb => by
  rcases k.srcS b hb with h1 | ⟨id, h1, h2, rfl⟩ | h1
  ·exact h.srcS b h1
  ·rcases h.src id h1 h2 with ⟨a1, a2, a3⟩ | a
   ·exact .inr (.inl ⟨id, a1, a2, a3.symm⟩)
   ·exact .inr (.inr a)
  ·exact .inr (.inr (Nat.le_trans h.size h1))
theorem Ext.mono {lk lk' : Nat → Bool} {E E' : Env} {w w' : World} (h : Ext lk E w E' w') (hl : ∀ id, E.K id → lk' id = true → lk id = true) : Ext lk' E w E' w' :=
 { h with keep := fun k hk hn => h.keep k hk fun id hd hl' hc => hn id hd (by cases e : lk' id; rfl; rw [hl id hd e] at hl'; cases hl') hc, lock := fun id hk hl' => h.lock id hk (hl id hk hl') }
theorem HRel.sblock {lk : Nat → Bool} {E : Env} {H : MHeap} {w : World} (hr : HRel E H w) {E' : Env} {w' : World} (h : Ext lk E w E' w') {b : Nat} (hb : E.S b) : w'.heap[b]? = w.heap[b]? :=
 h.keep b (hr.slt b hb) fun id hd _ hc e => hr.sep id hd hc (e ▸ hb)
theorem V.ext {lk : Nat → Bool} {E : Env} {H : MHeap} {w : World} (hr : HRel E H w) {E' : Env} {w' : World} (h : Ext lk E w E' w') {m : MV} {v : Value} (hv : V E w m v) : V E' w' m v := by
 induction hv with
 | junk v => exact .junk v
 | yld => rw [← h.yl]; exact .yld
 | emp a => exact .emp a
 | lit v => exact .lit v
 | agg cs vs hl _ ih => exact .agg cs vs hl ih
 | tup cs vs hl _ ih => exact .tup cs vs hl ih
 | fn f k cs vs hl _ ih => exact .fn f k cs vs hl ih
 | sl es vs A cap sz hc hs hl _ hA ih =>
  refine .sl es vs A cap sz hc hs hl ih fun h0 => ?_
  obtain ⟨b, off, e, hb, hcell⟩ := hA h0
  exact ⟨b, off, e, h.S b hb, fun i v hi => (World.cell?_of_block (w := w) (a := ⟨b, off + i, none⟩) (hr.sblock h hb)).trans (hcell i v hi)⟩
 | rp e off vs b o hl _ hb hcell ih =>
  exact .rp e off vs b o hl ih (h.S b hb) fun i v hi => (World.cell?_of_block (w := w) (a := ⟨b, o + i, none⟩) (hr.sblock h hb)).trans (hcell i v hi)
 | ptr id i off g b o hk hg hd =>
  obtain ⟨a2, a3⟩ := h.old id hk
  refine .ptr id i off g b o (h.K id hk) (Nat.le_trans hg a2) fun hg' => ?_
  obtain ⟨c1, c2, c3, c4, c5, c6⟩ := a3 (by omega)
  rw [c1, c2, c4, c5, c6]
  exact hd (by omega)
 | arr id i n g A cap hk hg hd =>
  obtain ⟨a2, a3⟩ := h.old id hk
  refine .arr id i n g A cap (h.K id hk) (Nat.le_trans hg a2) fun hg' => ?_
  obtain ⟨c1, c2, c3, c4, c5, c6⟩ := a3 (by omega)
  rw [c1, c2, c3, c4, c5, c6]
  exact hd (by omega)
 | mp id g b hk hg hd =>
  obtain ⟨a2, a3⟩ := h.old id hk
  refine .mp id g b (h.K id hk) (Nat.le_trans hg a2) fun hg' => ?_
  obtain ⟨c1, c2, c3, c4, c5, c6⟩ := a3 (by omega)
  rw [c1, c3, c6]
  exact hd (by omega)
 | rm es vs b ents ck hl _ hm hb hc ih => exact .rm es vs b ents ck hl ih hm (h.S b hb) ((hr.sblock h hb).trans hc)
theorem Vs.cons {E : Env} {w : World} {m : MV} {v : Value} {ms : List MV} {vs : List Value} (h : V E w m v) (hs : Vs E w ms vs) : Vs E w (m :: ms) (v :: vs) := by
 refine ⟨by simp [hs.1], fun i c x hc hx => ?_⟩
 cases i with
 | zero => simp at hc hx; subst hc hx; exact h
 | succ i => simp at hc hx; exact hs.2 i c x hc hx
theorem Vs.uncons {E : Env} {w : World} {m : MV} {ms : List MV} {vs : List Value} (h : Vs E w (m :: ms) vs) : ∃ v us, vs = v :: us ∧ V E w m v ∧ Vs E w ms us := by
 cases vs with
 | nil => exact absurd h.1 (by simp)
 | cons v us => exact ⟨v, us, rfl, h.2 0 m v rfl rfl, by simpa using h.1, fun i c x hc hx => h.2 (i + 1) c x hc hx⟩
theorem Vs.ext {lk : Nat → Bool} {E : Env} {H : MHeap} {w : World} (hr : HRel E H w) {E' : Env} {w' : World} (h : Ext lk E w E' w') {cs : List MV} {vs : List Value} (hv : Vs E w cs vs) : Vs E' w' cs vs :=
 ⟨hv.1, fun i c v hc hx => (hv.2 i c v hc hx).ext hr h⟩
theorem V.one {E : Env} {w : World} {m : MV} {v : Value} (h : V E w m v) (ho : m.one = true) : v.oneCell' = true := by
 cases h <;> first | exact ho | rfl | cases ho
theorem V.cells {E : Env} {w : World} {m : MV} {v : Value} (h : V E w m v) (hm : ∀ x, m ≠ .lit (.agg x)) (hj : m ≠ .junk) : Vs E w m.cells v.cells.toList := by
 cases h with
 | junk v => exact absurd rfl hj
 | agg cs vs hl hc => exact ⟨by simpa [MV.cells, Value.cells] using hl, by simpa [MV.cells, Value.cells] using hc⟩
 | lit v =>
  have : v.cells = #[v] := by
   cases v <;> first | rfl | exact absurd rfl (hm _)
  rw [this]
  refine ⟨rfl, fun i c x hc hx => ?_⟩
  cases i with
  | zero => simp [MV.cells] at hc hx; subst hc hx; exact .lit _
  | succ i => simp [MV.cells] at hc
 | rm es vs b ents ck hl hc he hb hh =>
  refine ⟨rfl, fun i c x hc' hx => ?_⟩
  cases i with
  | zero => simp [MV.cells, Value.cells] at hc' hx; subst hc' hx; exact .rm es vs b ents ck hl hc he hb hh
  | succ i => simp [MV.cells] at hc'
 | _ =>
  refine ⟨rfl, fun i c x hc hx => ?_⟩
  cases i with
  | zero => simp [MV.cells, Value.cells] at hc hx; subst hc hx; constructor <;> assumption
  | succ i => simp [MV.cells] at hc
def EnvLe (E E2 : Env) : Prop := (∀ b, E.S b → E2.S b) ∧ (∀ id, E.K id → E2.K id ∧ E2.gn id = E.gn id ∧ E2.ρ id = E.ρ id ∧ E2.bo id = E.bo id ∧ E2.cp id = E.cp id ∧ E2.sz id = E.sz id ∧ E2.ln id = E.ln id ∧ E2.nl id = E.nl id) ∧ E2.yl = E.yl
theorem V.env {E E2 : Env} {w : World} (he : EnvLe E E2) {m : MV} {v : Value} (hv : V E w m v) : V E2 w m v := by
 induction hv with
 | junk v => exact .junk v
 | yld => rw [← he.2.2]; exact .yld
 | emp a => exact .emp a
 | lit v => exact .lit v
 | agg cs vs hl _ ih => exact .agg cs vs hl ih
 | tup cs vs hl _ ih => exact .tup cs vs hl ih
 | fn f k cs vs hl _ ih => exact .fn f k cs vs hl ih
 | sl es vs A cap sz hc hs hl _ hA ih =>
  refine .sl es vs A cap sz hc hs hl ih fun h0 => ?_
  obtain ⟨b, off, e, hb, hcell⟩ := hA h0
  exact ⟨b, off, e, he.1 b hb, hcell⟩
 | rp e off vs b o hl _ hb hcell ih => exact .rp e off vs b o hl ih (he.1 b hb) hcell
 | ptr id i off g b o hk hg hd =>
  obtain ⟨h1, h2, h3, h4, h5, h6, h7, h8⟩ := he.2.1 id hk
  exact .ptr id i off g b o h1 (by rw [h2]; exact hg) fun e => by rw [h3, h4, h6, h7, h8]; exact hd (by rw [← h2]; exact e)
 | mp id g b hk hg hd =>
  obtain ⟨h1, h2, h3, h4, h5, h6, h7, h8⟩ := he.2.1 id hk
  exact .mp id g b h1 (by rw [h2]; exact hg) fun e => by rw [h3, h5, h8]; exact hd (by rw [← h2]; exact e)
 | rm es vs b ents ck hl _ hm hb hc ih => exact .rm es vs b ents ck hl ih hm (he.1 b hb) hc
 | arr id i n g A cap hk hg hd =>
  obtain ⟨h1, h2, h3, h4, h5, h6, h7, h8⟩ := he.2.1 id hk
  exact .arr id i n g A cap h1 (by rw [h2]; exact hg) fun e => by rw [h3, h4, h5, h6, h7, h8]; exact hd (by rw [← h2]; exact e)
end Go.Proofs.YtfchdbghjeophaaDoor
namespace Go.Proofs.YtfchdbghjeophaaDoor
open Go.RowKit
set_option linter.unusedVariables false
inductive MX where
 | s (n : Nat)
 | c (v : MV)
instance : Inhabited MX := ⟨.s 0⟩
def MX.get (s : List MV) : MX → MV
 | .s n => s.getD n (.lit undef)
 | .c v => v
inductive MO where
 | mv (x : MX)
 | nil0 (sz : Nat)
 | nilck (x : MX)
 | pick (c a b : MX)
 | new (z : MV)
 | box (sz : Nat) (x : MX)
 | build (z : List MV) (parts : List (Nat × Nat × MX))
 | bsl (z : MV) (sz : Nat) (len : Nat) (parts : List (Nat × MX))
 | vsl (z : MV) (sz : Nat) (len : Nat) (parts : List (Nat × MX))
 | ld (agg : Option Nat) (x : MX)
 | st (sz : Nat) (a x : MX)
 | bin (op : BinOp) (x y : MX)
 | beq (neg : Bool) (x y : MX)
 | seq (neg : Bool) (x y : MX)
 | eqa (n : Nat) (neg : Bool) (x y : MX)
 | eqn (neg : Bool) (x : MX)
 | sln (x : MX)
 | s2b (x : MX)
 | bad
 | un (op : UnOp) (x : MX)
 | cv (k : IntKind) (x : MX)
 | mf (f k : Nat) (caps : List MX)
 | ix (agg : Option Nat) (sz len : Nat) (x i : MX)
 | mks (z : MV) (n : MX)
 | slc (sz : Nat) (x : MX) (lo hi : Option MX)
 | fa (off : Nat) (x : MX)
 | fd (off : Nat) (agg : Option Nat) (x : MX)
 | ia (sz : Nat) (x i : MX)
 | iaa (sz len : Nat) (x i : MX)
 | ext (x : MX) (i : Nat)
 | call (f : Nat) (args : List MX)
 | callv (x : MX) (args : List MX)
 | len (x : MX)
 | app (sz : Nat) (s x : MX)
 | mx (x y : MX)
 | mn (x y : MX)
 | ne (x y : MX)
 | mkm
 | mlk (n : Nat) (z : MV) (ok : Bool) (x k : MX)
 | mup (n : Nat) (m k x : MX)
 | shf (op : BinOp) (x y : MX)
 | sx (x i : MX)
 | cat (x y : MX)
 | ssl (x : MX) (lo hi : Option MX)
 | cpy (d x : MX)
 | srt (f cf : Nat) (x : MX)
instance : Inhabited MO := ⟨.nil0 0⟩
abbrev Oracle := Nat → List MV → MHeap → Option (MV × MHeap)
def MV.elems (h : MHeap) : MV → Option (List MV)
 | .sl es => some es
 | .emp => some []
 | .lit (.slice none 0 0) => some []
 | .arr id i n g =>
  match h[id]? with
  | some o => if o.g = g ∧ i + n ≤ o.es.length then some ((o.es.drop i).take n) else none
  | none => none
 | _ => none
def MV.slen : MV → Option Nat
 | .sl es => some es.length
 | .emp => some 0
 | .lit (.slice _ n _) => some n
 | .arr _ _ n _ => some n
 | _ => none
def rdCells (cs : List MV) (off : Nat) : Option Nat → Option MV
 | none => cs[off]?
 | some n => if off + n ≤ cs.length then some (.agg ((cs.drop off).take n)) else none
def splice (cs : List MV) (off : Nat) (vs : List MV) : List MV := cs.take off ++ vs ++ cs.drop (off + vs.length)
def wrElem (e : MV) (off : Nat) (v : MV) : Option MV :=
 if off + v.cells.length ≤ e.cells.length then
  match e with
  | .agg cs => some (.agg (splice cs off v.cells))
  | _ => if v.cells.length = 1 then some v else none
 else none
def MV.sOk (sz : Nat) (v : MV) : Bool := v.cells.length == sz && v.cells.all MV.one
def MV.cOk : MV → Bool
 | .junk => false
 | .lit (.agg _) => false
 | _ => true
def intOf? : MV → Option Int
 | .lit (.int _ n) => some n
 | _ => none
def binI (op : BinOp) (k : IntKind) (a b : Int) : Option Value :=
 match op with
 | .add => some (.int k (k.wrap (a + b)))
 | .sub => some (.int k (k.wrap (a - b)))
 | .mul => some (.int k (k.wrap (a * b)))
 | .quo => if b = 0 then none else some (.int k (k.wrap (a.tdiv b)))
 | .rem => if b = 0 then none else some (.int k (a.tmod b))
 | .eql => some (.bool (a == b))
 | .neq => some (.bool (a != b))
 | .lss => some (.bool (a < b))
 | .leq => some (.bool (a ≤ b))
 | .gtr => some (.bool (a > b))
 | .geq => some (.bool (a ≥ b))
 | .and => some (.int k (k.wrap (BitVec.ofInt k.bits a &&& BitVec.ofInt k.bits b).toNat))
 | .or => some (.int k (k.wrap (BitVec.ofInt k.bits a ||| BitVec.ofInt k.bits b).toNat))
 | .xor => some (.int k (k.wrap (BitVec.ofInt k.bits a ^^^ BitVec.ofInt k.bits b).toNat))
 | .andNot => some (.int k (k.wrap (BitVec.ofInt k.bits a &&& ~~~BitVec.ofInt k.bits b).toNat))
 | _ => none
def shfI (op : BinOp) (k : IntKind) (a b : Int) : Option Value :=
 if b < 0 then none else match op with
 | .shl => some (.int k (k.wrap (a * 2 ^ min b.toNat k.bits)))
 | .shr => some (.int k (a.fdiv (2 ^ min b.toNat k.bits)))
 | _ => none
def sortHints : List (Nat × Nat × Nat) := []
def sortKind (f cf : Nat) : Option Nat := (sortHints.find? fun p => p.1 == f && p.2.1 == cf).map (·.2.2)
def sortLt : Nat → List Int → List Int → Bool
 | 0, a :: _, b :: _ => decide (a < b)
 | 1, [a, b], [c, d] => decide (a * d < c * b)
 | _, _, _ => false
def insS (k : Nat) (x : List Int) : List (List Int) → List (List Int)
 | [] => [x]
 | y :: ys => if sortLt k x y then x :: y :: ys else y :: insS k x ys
def sortS (k : Nat) : List (List Int) → List (List Int)
 | [] => []
 | x :: xs => insS k x (sortS k xs)
def ordS (k : Nat) : List (List Int) → Bool
 | [] => true
 | x :: xs => xs.all (fun y => sortLt k x y || (decide (x = y) && !sortLt k x y)) && ordS k xs
def i64s : List MV → Option (List Int)
 | [] => some []
 | .lit (.int .i64 n) :: ms => (i64s ms).map (n :: ·)
 | _ :: _ => none
def rowOf : MV → Option (List Int)
 | .agg ms => i64s ms
 | _ => none
def rowsOf : List MV → Option (List (List Int))
 | [] => some []
 | m :: ms => match rowOf m, rowsOf ms with
  | some x, some xs => some (x :: xs)
  | _, _ => none
def okRow (k : Nat) (x : List Int) : Bool := x.length == 2 && x.all (fun z => decide (-1000000000 < z) && decide (z < 1000000000)) && (k == 0 || decide (0 < x.getD 1 0))
def pairM (x : List Int) : MV := .agg (x.map fun z => .lit (.int .i64 z))
def srtM (k : Nat) (es : List MV) : Option (List MV) :=
 match rowsOf es with
 | some xs => if xs.all (okRow k) && ordS k (sortS k xs) then some ((sortS k xs).map pairM) else none
 | none => none
def fillM (cells : List MV) : List (Nat × List MV) → Option (List MV)
 | [] => some cells
 | (off, v) :: rest => if off + v.length ≤ cells.length then fillM (splice cells off v) rest else none
def setAtM (es : List MV) (sz : Nat) : List (Nat × MV) → Option (List MV)
 | [] => some es
 | (i, v) :: rest => if i < es.length ∧ v.cells.length = sz ∧ v.cOk then setAtM (es.set i v) sz rest else none
def litEq : List MV → List MV → Option Bool
 | [], [] => some true
 | .lit (.int k a) :: ps, .lit (.int k' b) :: qs => if k = k' then (litEq ps qs).map fun r => a == b && r else none
 | _, _ => none
def litEqK : List Nat → List MV → List MV → Option Bool
 | [], [], [] => some true
 | 0 :: ks, .lit (.int k a) :: ps, .lit (.int k' b) :: qs => if k = k' then (litEqK ks ps qs).map fun r => a == b && r else none
 | 1 :: ks, .lit (.string a) :: ps, .lit (.string b) :: qs => (litEqK ks ps qs).map fun r => a == b && r
 | 2 :: ks, .lit (.bool a) :: ps, .lit (.bool b) :: qs => (litEqK ks ps qs).map fun r => a == b && r
 | _, _, _ => none
def decKd : Nat → Nat → List Nat
 | 0, _ => []
 | f + 1, c => if c ≤ 1 then [] else (c % 4) :: decKd f (c / 4)
def encKd : List Nat → Nat
 | [] => 1
 | k :: ks => encKd ks * 4 + k
def kindsOf (n : Nat) : List Nat := if n < 1000 then List.replicate n 0 else decKd 64 (n - 1000)
def codeK (ks : List Nat) : Nat := if ks.all (· == 0) then ks.length else 1000 + encKd ks
def negIf (neg b : Bool) : Bool := if neg then !b else b
def MV.ents (h : MHeap) : MV → Option (List MV)
 | .rm es => some es
 | .mp id g =>
  match h[id]? with
  | some o => if o.g = g ∧ o.nl = true then (match o.es with
    | [.tup es] => some es
    | _ => none) else none
  | none => none
 | _ => none
def mfind (ps : List MV) : List MV → Nat → Option (Option (Nat × MV))
 | [], _ => some none
 | .tup [.agg qs, v] :: es, i =>
  match litEq ps qs with
  | some true => some (some (i, v))
  | some false => mfind ps es (i + 1)
  | none => none
 | _ :: _, _ => none
def mres (z : MV) (ok : Bool) : Option (Nat × MV) → MV
 | some (_, v) => if ok then .tup [v, .lit (.bool true)] else v
 | none => if ok then .tup [z, .lit (.bool false)] else z
def mset (es : List MV) (e : MV) : Option (Nat × MV) → List MV
 | some (i, _) => es.set i e
 | none => es ++ [e]
def MHeap.ok (h : MHeap) (id g sz : Nat) : Bool :=
 match h[id]? with
 | some o => o.g == g && o.sz == sz
 | none => false
def MV.id? : MV → Option Nat
 | .ptr id _ _ _ => some id
 | .arr id _ _ _ => some id
 | .mp id _ => some id
 | _ => none
def neB (u v : MV) : Bool :=
 match u.id?, v.id? with
 | some a, some b => !decide (a = b)
 | _, _ => true
def evO : (Nat → Bool) → Oracle → List MV → MHeap → MO → Option (MV × MHeap)
 | lk, O, s, h, .mv x => some (x.get s, h)
 | lk, O, s, h, .nil0 sz => some (.arr h.length 0 0 0, h ++ [⟨0, true, sz, []⟩])
 | lk, O, s, h, .nilck x => match x.get s with
  | .ptr id i off g => some (.ptr id i off g, h)
  | .rp e off => some (.rp e off, h)
  | .fn f k cs => some (.fn f k cs, h)
  | _ => none
 | lk, O, s, h, .pick c a b => match c.get s with
  | .lit (.bool t) => some (if t then a.get s else b.get s, h)
  | _ => none
 | lk, O, s, h, .new z => some (.ptr h.length 0 0 0, h ++ [⟨0, false, z.cells.length, [z]⟩])
 | lk, O, s, h, .box sz x => if (x.get s).cells.length = sz ∧ (x.get s).cOk then some (.ptr h.length 0 0 0, h ++ [⟨0, false, sz, [x.get s]⟩]) else none
 | lk, O, s, h, .build z parts => match fillM z (parts.map fun p => (p.1, (p.2.2.get s).cells)) with
  | some cs => if parts.all (fun p => (p.2.2.get s).cells.length == p.2.1 && (p.2.2.get s).cOk) then some (.agg cs, h) else none
  | none => none
 | lk, O, s, h, .bsl z sz len parts => match setAtM (List.replicate len z) sz (parts.map fun p => (p.1, p.2.get s)) with
  | some es => some (.arr h.length 0 len 0, h ++ [⟨0, false, sz, es⟩])
  | none => none
 | lk, O, s, h, .vsl z sz len parts => match setAtM (List.replicate len z) sz (parts.map fun p => (p.1, p.2.get s)) with
  | some es => some (if es.isEmpty then .emp else .sl es, h)
  | none => none
 | lk, O, s, h, .ld agg x => match x.get s with
  | .rp e off => (rdCells e.cells off agg).map fun v => (v, h)
  | .ptr id i off g => match h[id]? with
   | some o => if o.g = g then match o.es[i]? with
     | some e => (rdCells e.cells off agg).map fun v => (v, h)
     | none => none
    else none
   | none => none
  | _ => none
 | lk, O, s, h, .st sz a x => if (x.get s).sOk sz then match a.get s with
  | .ptr id i off g => match h[id]? with
   | some o => if o.g = g ∧ lk id = false then match o.es[i]? with
     | some e => match wrElem e off (x.get s) with
      | some e' => some (.lit undef, h.set id { o with es := o.es.set i e' })
      | none => none
     | none => none
    else none
   | none => none
  | _ => none else none
 | lk, O, s, h, .bin op x y => match x.get s, y.get s with
  | .lit (.int k a), .lit (.int k' b) => if k = k' then (binI op k a b).map fun v => (.lit v, h) else none
  | _, _ => none
 | lk, O, s, h, .beq neg x y => match x.get s, y.get s with
  | .lit (.bool a), .lit (.bool b) => some (.lit (.bool (negIf neg (a == b))), h)
  | _, _ => none
 | lk, O, s, h, .seq neg x y => match x.get s, y.get s with
  | .lit (.string a), .lit (.string b) => some (.lit (.bool (negIf neg (a == b))), h)
  | _, _ => none
 | lk, O, s, h, .eqa n neg x y => match x.get s, y.get s with
  | .agg ps, .agg qs => (litEqK (kindsOf n) ps qs).map fun b => (.lit (.bool (negIf neg b)), h)
  | _, _ => none
 | lk, O, s, h, .eqn neg x => match x.get s with
  | .arr id i n g => match h[id]? with
   | some o => if o.g = g ∧ i + n ≤ o.es.length then some (.lit (.bool (negIf neg o.nl)), h) else none
   | none => none
  | .lit (.slice A _ _) => some (.lit (.bool (negIf neg A.isNone)), h)
  | .sl (_ :: _) => some (.lit (.bool neg), h)
  | .emp => some (.lit (.bool neg), h)
  | _ => none
 | lk, O, s, h, .bad => none
 | lk, O, s, h, .un op x => match op, x.get s with
  | .not, .lit (.bool b) => some (.lit (.bool !b), h)
  | .neg, .lit (.int k n) => some (.lit (.int k (k.wrap (0 - n))), h)
  | _, _ => none
 | lk, O, s, h, .cv k x => match x.get s with
  | .lit (.int _ n) => some (.lit (.int k (k.wrap n)), h)
  | _ => none
 | lk, O, s, h, .mf f k caps => some (.fn f k (caps.map (MX.get s)), h)
 | lk, O, s, h, .mks z n => match n.get s with
  | .lit (.int .i64 n) => if 0 ≤ n ∧ n ≤ 1000000 then some (.arr h.length 0 n.toNat 0, h ++ [⟨0, false, z.cells.length, List.replicate n.toNat z⟩]) else none
  | _ => none
 | lk, O, s, h, .slc sz x lo hi => match (x.get s), ((lo.map (MX.get s)).map intOf?).getD (some 0), (hi.map (MX.get s)).map intOf? with
  | .sl es, some l, some (some u) => if 0 ≤ l ∧ l ≤ u ∧ u ≤ es.length ∧ es.all (fun e => e.cells.length == sz) then some (.sl ((es.drop l.toNat).take (u - l).toNat), h) else none
  | .sl es, some l, none => if 0 ≤ l ∧ l ≤ es.length ∧ es.all (fun e => e.cells.length == sz) then some (.sl (es.drop l.toNat), h) else none
  | .arr id i n g, some l, some (some u) => if 0 ≤ l ∧ l ≤ u ∧ u ≤ n ∧ MHeap.ok h id g sz then some (.arr id (i + l.toNat) (u - l).toNat g, h) else none
  | .arr id i n g, some l, none => if 0 ≤ l ∧ l ≤ n ∧ MHeap.ok h id g sz then some (.arr id (i + l.toNat) (n - l.toNat) g, h) else none
  | _, _, _ => none
 | lk, O, s, h, .fa off x => match x.get s with
  | .ptr id i o g => some (.ptr id i (o + off) g, h)
  | .rp e o => some (.rp e (o + off), h)
  | _ => none
 | lk, O, s, h, .fd off agg x => match x.get s with
  | .agg cs => (rdCells cs off agg).map fun v => (v, h)
  | _ => none
 | lk, O, s, h, .ix agg sz len x i => match x.get s, intOf? (i.get s) with
  | .agg cs, some k => if 0 ≤ k ∧ k < len then (rdCells cs (k.toNat * sz) agg).map fun v => (v, h) else none
  | _, _ => none
 | lk, O, s, h, .ia sz x i => match x.get s, intOf? (i.get s) with
  | .sl es, some k => if 0 ≤ k then (es[k.toNat]?).bind fun e => if e.cells.length = sz then some (.rp e 0, h) else none else none
  | .arr id j n g, some k => if 0 ≤ k ∧ k < n ∧ MHeap.ok h id g sz then some (.ptr id (j + k.toNat) 0 g, h) else none
  | _, _ => none
 | lk, O, s, h, .iaa sz len x i => match x.get s, intOf? (i.get s) with
  | .ptr id j o g, some k => if 0 ≤ k ∧ k < len then some (.ptr id j (o + k.toNat * sz) g, h) else none
  | .rp e o, some k => if 0 ≤ k ∧ k < len then some (.rp e (o + k.toNat * sz), h) else none
  | _, _ => none
 | lk, O, s, h, .ext x i => match x.get s with
  | .tup vs => (vs[i]?).map fun v => (v, h)
  | _ => none
 | lk, O, s, h, .call f args => O f (args.map (MX.get s)) h
 | lk, O, s, h, .callv x args => match x.get s with
  | .fn f k caps => O f (caps.take k ++ args.map (MX.get s) ++ caps.drop k) h
  | _ => none
 | lk, O, s, h, .s2b x => match x.get s with
  | .lit (.string b) => some (.sl (b.data.toList.map fun c => .lit (.int .u8 c.toNat)), h)
  | _ => none
 | lk, O, s, h, .sln x => match x.get s with
  | .lit (.string b) => some (.lit (.int .i64 b.size), h)
  | _ => none
 | lk, O, s, h, .len x => match (x.get s).slen with
  | some n => some (.lit (.int .i64 n), h)
  | none => none
 | lk, O, s, h, .app sz d x => match d.get s, (x.get s).elems h with
  | .arr id i n g, some xs => match h[id]? with
   | some o => if o.g = g ∧ i + n = o.es.length ∧ o.sz = sz then
     if xs = [] then some (.arr id i n g, h)
     else if o.es.length + xs.length ≤ 4000000 ∧ xs.all (MV.sOk sz) ∧ lk id = false then some (.arr id 0 (n + xs.length) (g + 1), h.set id ⟨g + 1, false, sz, o.es.drop i ++ xs⟩) else none
    else none
   | none => none
  | .lit (.slice none 0 0), some xs =>
   if xs = [] then some (.lit (.slice none 0 0), h)
   else if xs.length ≤ 4000000 ∧ xs.all (MV.sOk sz) then some (.arr h.length 0 xs.length 0, h ++ [⟨0, false, sz, xs⟩]) else none
  | .emp, some xs =>
   if xs = [] then some (.emp, h)
   else if xs.length ≤ 4000000 ∧ xs.all (MV.sOk sz) then some (.arr h.length 0 xs.length 0, h ++ [⟨0, false, sz, xs⟩]) else none
  | _, _ => none
 | lk, O, s, h, .mx x y => match x.get s, y.get s with
  | .lit (.int k a), .lit (.int _ b) => some (.lit (.int k (if b > a then b else a)), h)
  | _, _ => none
 | lk, O, s, h, .mn x y => match x.get s, y.get s with
  | .lit (.int k a), .lit (.int _ b) => some (.lit (.int k (if b < a then b else a)), h)
  | _, _ => none
 | lk, O, s, h, .ne x y => if neB (x.get s) (y.get s) then some (.lit undef, h) else none
 | lk, O, s, h, .mkm => some (.mp h.length 0, h ++ [⟨0, true, 1, [.tup []]⟩])
 | lk, O, s, h, .mlk n z ok x k => match k.get s, (x.get s).ents h with
  | .agg ps, some es => if ps.length = n then match mfind ps es 0 with
    | some r => some (mres z ok r, h)
    | none => none
   else none
  | _, _ => none
 | lk, O, s, h, .mup n m k x => match m.get s, k.get s, (m.get s).ents h with
  | .mp id g, .agg ps, some es => if ps.length = n ∧ lk id = false then match mfind ps es 0 with
    | some r => some (.lit undef, h.set id ⟨g, true, 1, [.tup (mset es (.tup [.agg ps, x.get s]) r)]⟩)
    | none => none
   else none
  | _, _, _ => none
 | lk, O, s, h, .shf op x y => match x.get s, y.get s with
  | .lit (.int k a), .lit (.int _ b) => (shfI op k a b).map fun v => (.lit v, h)
  | _, _ => none
 | lk, O, s, h, .sx x i => match x.get s, intOf? (i.get s) with
  | .lit (.string b), some k => if 0 ≤ k then (b.data.toList[k.toNat]?).map fun c => (.lit (.int .u8 c.toNat), h) else none
  | _, _ => none
 | lk, O, s, h, .cat x y => match x.get s, y.get s with
  | .lit (.string a), .lit (.string b) => if a.size + b.size ≤ 1000000000 then some (.lit (.string (a ++ b)), h) else none
  | _, _ => none
 | lk, O, s, h, .ssl x lo hi => match x.get s, ((lo.map (MX.get s)).map intOf?).getD (some 0), (hi.map (MX.get s)).map intOf? with
  | .lit (.string b), some l, some (some u) => if 0 ≤ l ∧ l ≤ u ∧ u ≤ b.size then some (.lit (.string (b.extract l.toNat u.toNat)), h) else none
  | .lit (.string b), some l, none => if 0 ≤ l ∧ l ≤ b.size then some (.lit (.string (b.extract l.toNat b.size)), h) else none
  | _, _, _ => none
 | lk, O, s, h, .cpy d x => match d.get s, (x.get s).elems h with
  | .arr id i n g, some xs => match h[id]? with
   | some o => if o.g = g ∧ 0 < n ∧ i + n ≤ o.es.length ∧ o.sz = 1 ∧ xs ≠ [] ∧ xs.all (MV.sOk 1) = true ∧ lk id = false then
     some (.lit (.int .i64 (xs.take n).length), h.set id { o with es := o.es.take i ++ xs.take n ++ o.es.drop (i + (xs.take n).length) }) else none
   | none => none
  | _, _ => none
 | lk, O, s, h, .srt f cf x => match x.get s with
  | .arr id i n g => match h[id]? with
   | some o => if o.g = g ∧ i + n ≤ o.es.length ∧ n ≤ 4000000 ∧ lk id = false then match sortKind f cf with
     | some k => match srtM k ((o.es.drop i).take n) with
      | some es => some (.lit (.tuple #[]), h.set id { o with es := o.es.take i ++ es ++ o.es.drop (i + n) })
      | none => none
     | none => none
    else none
   | none => none
  | _ => none
end Go.Proofs.YtfchdbghjeophaaDoor
namespace Go.Proofs.YtfchdbghjeophaaDoor
open Go.RowKit
set_option linter.unusedVariables false
def ofV : Value → MV
 | .agg vs => .agg (vs.toList.map .lit)
 | v => .lit v
def cX : Operand → Option MX
 | .tmp t => some (.s t)
 | .const v => some (.c (ofV v))
 | .func f => some (.c (.fn f 0 []))
 | .global _ => none
def oX : Option Operand → Option (Option MX)
 | none => some none
 | some x => (cX x).map some
def cXs (l : List Operand) : Option (List MX) := l.mapM cX
def tsz (P : Program) (t : TypeId) : Option Nat := (P.info? t).map (·.size)
def tzero (P : Program) (t : TypeId) : Option MV := ((P.info? t).bind (·.zero)).map ofV
def tagg (P : Program) (t : TypeId) : Option (Option Nat) :=
 match P.underlying t with
 | some (.struct _) | some (.array _ _) => (tsz P t).map some
 | some _ => some none
 | none => none
def telem (P : Program) (t : TypeId) : Option TypeId :=
 match P.underlying t with
 | some (.slice e) => some e
 | _ => none
def placesOf (P : Program) (t : TypeId) : Option (Nat → Option (Nat × Nat)) :=
 match P.underlying t with
 | some (.struct fs) => (fs.toList.mapM (fun f => (P.info? f.type).map fun i => (f.offset, i.size))).map fun places i => places.toArray[i]?
 | some (.array _ e) => (P.info? e).map fun ie i => some (i * ie.size, ie.size)
 | _ => none
def sameX : Operand → Operand → Bool
 | .tmp a, .tmp b => a == b
 | .const (.int .i64 a), .const (.int .i64 b) => a == b
 | _, _ => false
def isNilSlice : Operand → Bool
 | .const (.slice none 0 0) => true
 | _ => false
def hasBody (P : Program) (f : Nat) : Bool :=
 match P.funcs[f]? with
 | some fn => fn.body.isSome && fn.name != "runtime.NumGoroutine"
 | none => false
def intFields (P : Program) : Nat → List Field → Bool
 | _, [] => true
 | i, f :: fs => f.offset == i && f.name != "_" && (match P.underlying f.type with | some (.int _) => true | _ => false) && intFields P (i + 1) fs
def szOk (P : Program) (t : TypeId) (n : Nat) : Bool :=
 n != 0 && match P.underlying t with
 | some (.struct _) => (match P.info? t with | some i => i.size == n | none => false)
 | _ => n == 1
def kindsF (P : Program) (kt : TypeId → Option (List Nat)) : Nat → List Field → Option (List Nat)
 | _, [] => some []
 | i, f :: fs => if f.offset = i ∧ f.name ≠ "_" then match kt f.type with
   | some a => if szOk P f.type a.length then (kindsF P kt (i + a.length) fs).map fun b => a ++ b else none
   | none => none
  else none
def kindsT (P : Program) : Nat → TypeId → Option (List Nat)
 | 0, _ => none
 | m + 1, t => match P.underlying t with
  | some (.int _) => some [0]
  | some .string => some [1]
  | some .bool => some [2]
  | some (.struct fs) => if P.stoodInHeld t = false then kindsF P (kindsT P m) 0 fs.toList else none
  | _ => none
def eqaO (P : Program) (t : TypeId) : Option Nat :=
 match kindsT P 4 t with
 | some ks => if kindsOf (codeK ks) = ks ∧ P.eqGuardType P.depth t = false then some (codeK ks) else none
 | none => none
def srtCall (f : Nat) : List Operand → Option (Nat × Operand)
 | [x, .func cf] => match sortKind f cf with
  | some _ => some (cf, x)
  | none => none
 | _ => none
def compO (P : Program) (o : Oper) : Option MO :=
 match o.op with
 | .move x => (cX x).map .mv
 | .assign x => if isNilSlice x then (telem P o.type).bind fun e => (tsz P e).map .nil0 else (cX x).map .mv
 | .pick c a b => do some (.pick (← cX c) (← cX a) (← cX b))
 | .alloc t => do
  let z ← tzero P t
  if z.cOk then some (.new z) else none
 | .box t x => do some (.box (← tsz P t) (← cX x))
 | .build t parts => do
  let pl ← placesOf P t
  match ← tzero P t with
  | .agg z => some (.build z (← parts.toList.mapM fun p => do let (off, n) ← pl p.1; some (off, n, ← cX p.2)))
  | _ => none
 | .buildSlice t len parts => do
  let e ← telem P t
  let n ← tsz P e
  let z ← tzero P e
  if len * n ≤ 1000000 ∧ 0 < n ∧ z.cells.length = n ∧ z.cOk then some (.bsl z n len (← parts.toList.mapM fun p => do some (p.1, ← cX p.2))) else none
 | .load t x => do some (.ld (← tagg P t) (← cX x))
 | .store t a x => do some (.st (← tsz P t) (← cX a) (← cX x))
 | .nilCheck x => (cX x).map .nilck
 | .binOp op t x y _ => match op, P.underlying t with
  | .eql, some (.int _) | .neq, some (.int _) | .add, some (.int _) | .sub, some (.int _) | .mul, some (.int _) | .quo, some (.int _) | .rem, some (.int _) | .lss, some (.int _) | .leq, some (.int _) | .gtr, some (.int _) | .geq, some (.int _) | .and, some (.int _) | .or, some (.int _) | .xor, some (.int _) | .andNot, some (.int _) => do some (.bin op (← cX x) (← cX y))
  | .shl, some (.int _) | .shr, some (.int _) => do some (.shf op (← cX x) (← cX y))
  | .add, some .string => do some (.cat (← cX x) (← cX y))
  | .eql, some .bool => do some (.beq false (← cX x) (← cX y))
  | .neq, some .bool => do some (.beq true (← cX x) (← cX y))
  | .eql, some .string => do some (.seq false (← cX x) (← cX y))
  | .neq, some .string => do some (.seq true (← cX x) (← cX y))
  | .eql, some (.struct fs) => do some (.eqa (← eqaO P t) false (← cX x) (← cX y))
  | .neq, some (.struct fs) => do some (.eqa (← eqaO P t) true (← cX x) (← cX y))
  | .eql, some (.slice _) => if isNilSlice y then (cX x).map (.eqn false) else none
  | .neq, some (.slice _) => if isNilSlice y then (cX x).map (.eqn true) else none
  | _, _ => none
 | .unOp op _ x => do some (.un op (← cX x))
 | .convert src t x => match P.underlying src, P.underlying t with
  | some _, some (.int k) => (cX x).map (.cv k)
  | some .string, some (.slice e) => match P.underlying e with
   | some (.int .u8) => (cX x).map .s2b
   | _ => none
  | _, _ => none
 | .makeFunc (.func f) first caps => do some (.mf f first.size (← cXs (first.toList ++ caps.toList)))
 | .makeSlice t l c => do
  let e ← telem P t
  let i ← P.info? e
  let z ← tzero P e
  if sameX l c ∧ i.bytes ≤ 100000 ∧ 0 < i.size ∧ z.cells.length = i.size ∧ z.cOk then some (.mks z (← cX l)) else none
 | .slice t x lo hi none => match P.underlying t with
  | some .string => do some (.ssl (← cX x) (← oX lo) (← oX hi))
  | _ => do
   let e ← telem P t
   some (.slc (← tsz P e) (← cX x) (← oX lo) (← oX hi))
 | .fieldAddr t x f => match P.underlying t with
  | some (.struct fs) => do
   let fd ← fs[f]?
   let n ← tsz P fd.type
   if 0 < n then some (.fa fd.offset (← cX x)) else none
  | _ => none
 | .field t x f => match P.underlying t with
  | some (.struct fs) => do
   let fd ← fs[f]?
   some (.fd fd.offset (← tagg P fd.type) (← cX x))
  | _ => none
 | .index t x i => match P.underlying t with
  | some (.array n e) => do some (.ix (← tagg P e) (← tsz P e) n (← cX x) (← cX i))
  | some .string => do some (.sx (← cX x) (← cX i))
  | _ => none
 | .makeMap t none => match P.underlying t with
  | some (.map _ _) => some .mkm
  | _ => none
 | .lookup t x k ok => match P.underlying t with
  | some (.map kt et) => match P.underlying kt with
   | some (.struct fs) => if intFields P 0 fs.toList ∧ P.stoodInHeld kt = false then do some (.mlk fs.size (← tzero P et) ok (← cX x) (← cX k)) else none
   | _ => none
  | _ => none
 | .mapUpdate t m k x | .insert t m k x => match P.underlying t with
  | some (.map kt _) => match P.underlying kt with
   | some (.struct fs) => if intFields P 0 fs.toList ∧ P.stoodInHeld kt = false then do some (.mup fs.size (← cX m) (← cX k) (← cX x)) else none
   | _ => none
  | _ => none
 | .indexAddr t x i => match P.underlying t with
  | some (.slice e) => do some (.ia (← tsz P e) (← cX x) (← cX i))
  | some (.array n e) => do some (.iaa (← tsz P e) n (← cX x) (← cX i))
  | _ => none
 | .extract x i => (cX x).map (.ext · i)
 | .call c => match c.callee with
  | .value (.func f) => match srtCall f c.args.toList with
   | some (cf, x) => if hasBody P f then (cX x).map (.srt f cf) else none
   | none => if hasBody P f then do some (.call f (← cXs c.args.toList)) else none
  | .value x => do some (.callv (← cX x) (← cXs c.args.toList))
  | .builtin b => match b, c.args.toList, c.argTypes.toList with
   | .len, [x], [t] => match P.underlying t with
    | some (.slice _) => (cX x).map .len
    | some .string => (cX x).map .sln
    | _ => none
   | .append, [a, x], [t, u] => match P.underlying t, P.underlying u with
    | some (.slice e), some (.slice _) => do
     let i ← P.info? e
     let z ← tzero P e
     if i.bytes ≤ 100000 ∧ 0 < i.size ∧ z.cells.length = i.size ∧ z.cOk then some (.app i.size (← cX a) (← cX x)) else none
    | _, _ => none
   | .copy, [d, x], [t, _] => match P.underlying t with
    | some (.slice e) => if tsz P e = some 1 then do some (.cpy (← cX d) (← cX x)) else none
    | _ => none
   | .max, [x, y], _ => do some (.mx (← cX x) (← cX y))
   | .min, [x, y], _ => do some (.mn (← cX x) (← cX y))
   | _, _, _ => none
  | _ => none
 | _ => none
structure GO where
 guard : Option (Nat × Bool)
 dst : Option Nat
 op : MO
def gM (ops : Array Oper) (o : Oper) : Option (Option (Nat × Bool)) :=
 match o.guard with
 | none => some none
 | some (j, b) => (ops[j]?).bind fun oj => oj.dst.map fun d => some (d, b)
def compG (P : Program) (ops : Array Oper) (o : Oper) : Option GO := (gM ops o).map fun g => ⟨g, o.dst, (compO P o).getD .bad⟩
structure MSt where
 s : List MV
 h : MHeap
inductive MX2 where
 | normal
 | exit (id : Nat)
 | ret
 deriving DecidableEq
def putM (s : List MV) (d : Option Nat) (v : MV) : List MV :=
 match d with
 | some d => s.set d v
 | none => s
def wantM (s : List MV) : Option (Nat × Bool) → Option Bool
 | none => some true
 | some (t, b) => match s.getD t (.lit undef) with
  | .lit (.bool x) => some (x == b)
  | .lit (.tuple _) => some false
  | _ => none
def evG (lk : Nat → Bool) (O : Oracle) (o : GO) (st : MSt) : Option MSt :=
 match wantM st.s o.guard with
 | none => none
 | some t => if t then
   match evO lk O st.s st.h o.op with
   | some (v, h) => some ⟨putM st.s o.dst v, h⟩
   | none => none
  else some ⟨putM st.s o.dst (.lit undef), st.h⟩
def evR (lk : Nat → Bool) (O : Oracle) : List GO → MSt → Option MSt
 | [], st => some st
 | o :: os, st => (evG lk O o st).bind (evR lk O os)
def rounds (f : MSt → Option (MX2 × MSt)) : Nat → MSt → Option (MX2 × MSt)
 | 0, _ => none
 | n + 1, st => match f st with
  | some (.normal, st') => rounds f n st'
  | r => r
def overH (f : List MV → MHeap → Option (MX2 × MHeap)) : List (List MV) → MHeap → Option (MX2 × MHeap)
 | [], h => some (.normal, h)
 | x :: xs, h => match f x h with
  | some (.normal, h') => overH f xs h'
  | r => r
def putAll (s : List MV) : List Nat → List MV → List MV
 | p :: ps, v :: vs => putAll (s.set p v) ps vs
 | _, _ => s
abbrev Iter := Nat → Nat → List MV → MHeap → Option (List (List MV))
mutual
def MV.lt (n : Nat) : MV → Bool
 | .lit _ | .junk => true
 | .yld | .emp => false
 | .agg cs => ltL n cs
 | .tup vs => ltL n vs
 | .sl es => ltL n es
 | .rp e _ => e.lt n
 | .rm es => ltL n es
 | .mp id _ => decide (id < n)
 | .ptr id _ _ _ => decide (id < n)
 | .arr id _ _ _ => decide (id < n)
 | .fn _ _ cs => ltL n cs
def ltL (n : Nat) : List MV → Bool
 | [] => true
 | v :: vs => v.lt n && ltL n vs
end
def keepS (keep : List Nat) : Nat → List MV → List MV
 | _, [] => []
 | i, v :: vs => (if keep.contains i then v else .junk) :: keepS keep (i + 1) vs
def hltL (n : Nat) (h : MHeap) : Bool := h.all fun o => ltL n o.es
def headM (keep : List Nat) (n : Nat) (st : MSt) : MSt :=
 let s := keepS keep 0 st.s
 if st.h.length ≤ n then ⟨s, st.h⟩ else if ltL n s && hltL n (st.h.take n) then ⟨s, st.h.take n⟩ else ⟨s, st.h⟩
def MV.ids (h : MHeap) : Nat → MV → List Nat
 | 0, _ => []
 | f + 1, v => match v with
  | .lit _ | .junk | .yld | .emp => []
  | .agg cs => cs.flatMap (MV.ids h f)
  | .tup cs => cs.flatMap (MV.ids h f)
  | .sl cs => cs.flatMap (MV.ids h f)
  | .rm cs => cs.flatMap (MV.ids h f)
  | .mp id _ => id :: (match h[id]? with | some o => o.es.flatMap (MV.ids h f) | none => [])
  | .fn _ _ cs => cs.flatMap (MV.ids h f)
  | .rp e _ => MV.ids h f e
  | .ptr id _ _ _ => id :: (match h[id]? with | some o => o.es.flatMap (MV.ids h f) | none => [])
  | .arr id _ _ _ => id :: (match h[id]? with | some o => o.es.flatMap (MV.ids h f) | none => [])
def frz (n : Nat) (imp : List Nat) (h : MHeap) : Nat → MV → Option MV
 | 0, _ => none
 | f + 1, m => if m.lt n then some m else match m with
  | .agg cs => (cs.mapM (frz n imp h f)).map .agg
  | .tup cs => (cs.mapM (frz n imp h f)).map .tup
  | .fn g k cs => (cs.mapM (frz n imp h f)).map (.fn g k)
  | .rp e off => (frz n imp h f e).map fun e' => .rp e' off
  | .sl es => (es.mapM (frz n imp h f)).map .sl
  | .mp id g => if imp.contains id then none else match h[id]? with
   | some o => if o.g = g ∧ o.nl = true then match o.es with
     | [.tup es] => if ltL n es then some (.rm es) else none
     | _ => none
    else none
   | none => none
  | .ptr id i off g => if imp.contains id then none else match h[id]? with
   | some o => if o.g = g then match o.es[i]? with
     | some e => if e.lt n then some (.rp e off) else (frz n imp h f e).map fun e' => .rp e' off
     | none => none
    else none
   | none => none
  | .arr id i k g => if imp.contains id then none else match h[id]? with
   | some o => if o.g = g ∧ i + k ≤ o.es.length then if ltL n o.es then some (.sl ((o.es.drop i).take k)) else (((o.es.drop i).take k).mapM (frz n imp h f)).map .sl
    else none
   | none => none
  | .emp => some (.sl [])
  | _ => none
def sealH (lk : Nat → Bool) (h : MHeap) : MV → Option MHeap
 | .ptr id _ _ _ => match h[id]? with
  | some o => match o.es.mapM (frz 0 (id :: (List.range h.length).filter fun i => !(o.es.flatMap (MV.ids h 6)).contains i) h 8) with
   | some es' => if (o.es.flatMap (MV.ids h 6)).all (fun i => !lk i && i != id) && !lk id then
     some ((h.mapIdx fun i p => if (o.es.flatMap (MV.ids h 6)).contains i then ⟨p.g + 1, p.nl, p.sz, []⟩ else p).set id ⟨o.g, o.nl, o.sz, es'⟩) else none
   | none => none
  | none => none
 | _ => none
def giveV (lk : Nat → Bool) (h : MHeap) (v : MV) : Option (MV × MHeap) :=
 match frz 0 ((List.range h.length).filter fun i => !(v.ids h 6).contains i) h 8 v with
 | some v' => if (v.ids h 6).all (fun i => !lk i) then some (v', h.mapIdx fun i p => if (v.ids h 6).contains i then ⟨p.g + 1, p.nl, p.sz, []⟩ else p) else none
 | none => none
inductive MC where
 | skip
 | reg (ops : List GO)
 | seq (a b : MC)
 | cond (c : MX) (a b : MC)
 | block (id : Nat) (b : MC)
 | loop (keep : List Nat) (b : MC)
 | rf (keep : List Nat) (f : MX) (ps : List Nat) (a b : MC)
 | give (t : Nat) (b : MC)
 | exit (id : Nat)
 | ret
 | bad
instance : Inhabited MC := ⟨.skip⟩
def evC : Oracle → Iter → Nat → MC → (Nat → Bool) → MSt → Option (MX2 × MSt)
 | O, I, N, .skip, _, st => some (.normal, st)
 | O, I, N, .reg ops, lk, st => (evR lk O ops st).map fun st => (.normal, st)
 | O, I, N, .seq a b, lk, st => match evC O I N a lk st with
  | some (.normal, st') => evC O I N b lk st'
  | r => r
 | O, I, N, .cond c a b, lk, st => match c.get st.s with
  | .lit (.bool t) => if t then evC O I N a lk st else evC O I N b lk st
  | _ => none
 | O, I, N, .block id b, lk, st => match evC O I N b lk st with
  | some (.exit k, st') => if k = id then some (.normal, st') else some (.exit k, st')
  | r => r
 | O, I, N, .loop keep b, lk, st => rounds (fun st' => evC O I N b lk (headM keep st.h.length st')) N st
 | O, I, N, .rf keep f ps a b, lk, st => match f.get st.s with
  | .fn g k caps => match I g k caps st.h with
   | some xs => if xs.all (fun x => x.length == ps.length) then
    let ids := caps.flatMap (MV.ids st.h 6)
    let lk' := fun id => lk id || ids.contains id
    (overH (fun x h => match evC O I N a lk' ⟨putAll (headM keep st.h.length ⟨st.s, h⟩).s ps x, (headM keep st.h.length ⟨st.s, h⟩).h⟩ with
     | some (.normal, st2) => match evC O I N b lk' st2 with
      | some (y, st3) => some (y, st3.h)
      | none => none
     | _ => none) xs st.h).map fun r => (r.1, ⟨st.s, r.2⟩)
    else none
   | none => none
  | _ => none
 | O, I, N, .give t b, lk, st => match st.s.getD t (.lit undef) with
  | .ptr id i o g => match sealH lk st.h (.ptr id i o g) with
   | some h => evC O I N b lk ⟨st.s, h⟩
   | none => none
  | v => match giveV lk st.h v with
   | some r => evC O I N b lk ⟨st.s.set t r.1, r.2⟩
   | none => none
 | O, I, N, .exit id, _, st => some (.exit id, st)
 | O, I, N, .ret, _, st => some (.ret, st)
 | O, I, N, .bad, _, _ => none
def MO.xs : MO → List MX
 | .mv x | .nilck x | .box _ x | .ld _ x | .un _ x | .cv _ x | .mks _ x | .fa _ x | .fd _ _ x | .ext x _ | .len x | .eqn _ x | .sln x | .s2b x => [x]
 | .nil0 _ | .new _ | .bad | .mkm => []
 | .mlk _ _ _ x k => [x, k]
 | .mup _ m k x => [m, k, x]
 | .pick c a b => [c, a, b]
 | .build _ ps => ps.map (·.2.2)
 | .bsl _ _ _ ps | .vsl _ _ _ ps => ps.map (·.2)
 | .st _ a x | .bin _ a x | .beq _ a x | .seq _ a x | .eqa _ _ a x | .ia _ a x | .iaa _ _ a x | .ix _ _ _ a x | .app _ a x | .mx a x | .mn a x | .ne a x => [a, x]
 | .mf _ _ cs => cs
 | .slc _ x lo hi | .ssl x lo hi => x :: (lo.toList ++ hi.toList)
 | .shf _ a x | .sx a x | .cat a x | .cpy a x => [a, x]
 | .srt _ _ x => [x]
 | .call _ as_ => as_
 | .callv x as_ => x :: as_
def xslots (l : List MX) : List Nat := l.filterMap fun | .s t => some t | .c _ => none
def GO.looks (g : GO) : List Nat := xslots g.op.xs ++ (match g.guard with | some (d, _) => [d] | none => [])
end Go.Proofs.YtfchdbghjeophaaDoor
namespace Go.Proofs.YtfchdbghjeophaaDoor
open Go.RowKit
def Env.put (E : Env) (id b bo cp sz g ln : Nat) (nl : Bool) : Env where
 S := E.S
 K := fun k => E.K k ∨ k = id
 ρ := fun k => if k = id then b else E.ρ k
 bo := fun k => if k = id then bo else E.bo k
 cp := fun k => if k = id then cp else E.cp k
 sz := fun k => if k = id then sz else E.sz k
 gn := fun k => if k = id then g else E.gn k
 ln := fun k => if k = id then ln else E.ln k
 nl := fun k => if k = id then nl else E.nl k
 top := E.top
 yl := E.yl
structure OnlyObj (lk : Nat → Bool) (E : Env) (w w' : World) (id : Nat) : Prop where
 os : w'.os = w.os
 tape : w'.tape = w.tape
 output : w'.output = w.output
 size : w.heap.size ≤ w'.heap.size
 keep : ∀ k, k < w.heap.size → (E.K id → lk id = false → 0 < E.cp id → E.ρ id ≠ k) → w'.heap[k]? = w.heap[k]?
theorem OnlyObj.of_below {lk : Nat → Bool} {E : Env} {w w' : World} {id : Nat} (h : Below w.heap.size w w') : OnlyObj lk E w w' id := ⟨h.os, h.tape, h.output, h.size, fun k hk _ => h.block k hk⟩
theorem Ext.put {lk : Nat → Bool} {E : Env} {w w' : World} {id b bo cp sz g ln : Nat} {nl : Bool} (ho : OnlyObj lk E w w' id) (hk : E.K id → E.gn id < g ∧ lk id = false)
  (hb : 0 < cp → w.heap.size ≤ b ∨ (E.K id ∧ 0 < E.cp id ∧ b = E.ρ id)) (ht : E.K id ∨ E.top ≤ id) : Ext lk E w (E.put id b bo cp sz g ln nl) w' where
 os := ho.os
 tape := ho.tape
 output := ho.output
 size := ho.size
 keep := fun k hk' hn => ho.keep k hk' (hn id)
 S := fun _ h => h
 K := fun _ h => .inl h
 old := fun j hj => by
  by_cases e : j = id
  ·subst e
   have := (hk hj).1
   have e1 : (E.put j b bo cp sz g ln nl).gn j = g := by simp [Env.put]
   rw [e1]
   exact ⟨by omega, fun e => by omega⟩
  ·simp [Env.put, e]
 lock := fun j hj hl => by
  by_cases e : j = id
  ·subst e
   rw [(hk hj).2] at hl; cases hl
  ·simp [Env.put, e]
 src := fun j hj hc => by
  by_cases e : j = id
  ·subst e
   simp only [Env.put, if_true] at hc ⊢
   rcases hb hc with h | ⟨h1, h2, h3⟩
   ·exact .inr h
   ·exact .inl ⟨h1, h2, h3⟩
  ·simp only [Env.put, e, or_false, if_false] at hj hc ⊢
   exact .inl ⟨hj, hc, trivial⟩
 top := rfl
 srcK := fun j hj => by
  rcases hj with hj | rfl
  ·exact .inl hj
  ·exact ht
 yl := rfl
 srcS := fun b hb => .inl hb
theorem HRel.lt {E : Env} {h : MHeap} {w : World} (hr : HRel E h w) {id : Nat} (hk : E.K id) (hc : 0 < E.cp id) : E.ρ id < w.heap.size := by
 obtain ⟨es, _, _, _, _, hb⟩ := hr.obj id hk
 obtain ⟨arr, t, hv, _⟩ := hb hc
 obtain ⟨x, hh⟩ := hv.some
 exact (Array.getElem?_eq_some_iff.1 hh).1
def LiesAt (E : Env) (w : World) (nl : Bool) (b bo cp sz : Nat) (es : List MV) : Prop :=
 ∃ (arr : Array Value) (t : TypeId), viewO nl w.heap[b]? arr t ∧ arr.size = cp * sz ∧ ∀ (k : Nat) c, (flat es)[k]? = some c → ∃ v, arr[bo * sz + k]? = some v ∧ V E w c v
theorem HRel.put {lk : Nat → Bool} {E : Env} {h h' : MHeap} {w w' : World} (hr : HRel E h w) {id b bo cp sz g : Nat} {nl : Bool} {es : List MV} (ho : OnlyObj lk E w w' id) (hk : E.K id → E.gn id < g ∧ lk id = false)
  (hb : 0 < cp → w.heap.size ≤ b ∨ (E.K id ∧ 0 < E.cp id ∧ b = E.ρ id)) (hh : ∀ j, j ≠ id → E.K j → h'[j]? = h[j]?) (hid : h'[id]? = some ⟨g, nl, sz, es⟩)
  (hes : ∀ e ∈ es, e.cells.length = sz) (hle : bo + es.length ≤ cp) (hl : 0 < cp → LiesAt (E.put id b bo cp sz g es.length nl) w' nl b bo cp sz es) (hlen : h.length ≤ h'.length) (ht : E.K id ∨ E.top ≤ id) :
  HRel (E.put id b bo cp sz g es.length nl) h' w' ∧ Ext lk E w (E.put id b bo cp sz g es.length nl) w' := by
 have hx : Ext lk E w (E.put id b bo cp sz g es.length nl) w' := Ext.put ho hk hb ht
 refine ⟨⟨fun j hj => ?_, Nat.le_trans hr.top hlen, fun j hj => ?_, fun i j hi hj hci hcj e => ?_, fun j hj hc hS => ?_, fun b' hS => Nat.lt_of_lt_of_le (hr.slt b' hS) ho.size, fun p hp => (hr.tab p hp).ext hr hx⟩, hx⟩
 ·rcases hj with hj | rfl
  ·exact Nat.lt_of_lt_of_le (hr.klt j hj) hlen
  ·exact (List.getElem?_eq_some_iff.1 hid).1
 ·by_cases e : j = id
  ·subst e
   refine ⟨es, by simp [Env.put, hid], by simp [Env.put], by simpa [Env.put] using hes, by simpa [Env.put] using hle, fun hc => ?_⟩
   simp only [Env.put, if_true] at hc
   have := hl hc
   unfold LiesAt at this
   simpa [Env.put] using this
  ·have hj' : E.K j := by rcases hj with hj | rfl; exact hj; exact absurd rfl e
   obtain ⟨es', h1, h2, h3, h4, h5⟩ := hr.obj j hj'
   refine ⟨es', by simp only [Env.put, e, if_false]; rw [hh j e hj', h1], by simp [Env.put, e, h2], by simpa [Env.put, e] using h3, by simpa [Env.put, e] using h4, fun hc => ?_⟩
   simp only [Env.put, e, if_false] at hc
   obtain ⟨arr, t, a1, a2, a3⟩ := h5 hc
   have hlt := hr.lt hj' hc
   refine ⟨arr, t, ?_, by simpa [Env.put, e] using a2, fun k c hk' => ?_⟩
   ·simp only [Env.put, e, if_false]
    rw [ho.keep _ hlt (fun hkid _ hcid e' => e (hr.inj j id hj' hkid hc hcid e'.symm))]
    exact a1
   ·obtain ⟨v, b1, b2⟩ := a3 k c hk'
    exact ⟨v, by simpa [Env.put, e] using b1, b2.ext hr hx⟩
 ·have nb : ∀ j, E.K j → j ≠ id → 0 < E.cp j → 0 < cp → E.ρ j ≠ b := fun j hj hne hcj hcp e => by
   rcases hb hcp with h1 | ⟨h1, h2, h3⟩
   ·have := hr.lt hj hcj; omega
   ·exact hne (hr.inj j id hj h1 hcj h2 (e.trans h3))
  by_cases e1 : i = id <;> by_cases e2 : j = id
  ·rw [e1, e2]
  ·subst e1
   simp only [Env.put, e2, if_true, if_false, or_false] at hj hci hcj e
   exact absurd e.symm (nb j hj e2 hcj hci)
  ·subst e2
   simp only [Env.put, e1, if_true, if_false, or_false] at hi hci hcj e
   exact absurd e (nb i hi e1 hci hcj)
  ·simp only [Env.put, e1, e2, if_false, or_false] at hi hj hci hcj e
   exact hr.inj i j hi hj hci hcj e
 ·by_cases e : j = id
  ·subst e
   simp only [Env.put, if_true] at hc hS
   rcases hb hc with h1 | ⟨h1, h2, h3⟩
   ·have := hr.slt b hS; omega
   ·exact hr.sep j h1 h2 (h3 ▸ hS)
  ·simp only [Env.put, e, if_false, or_false] at hj hc hS
   exact hr.sep j hj hc hS
theorem HRel.add {lk : Nat → Bool} {E : Env} {h : MHeap} {w w' : World} (hr : HRel E h w) (hb : Below w.heap.size w w') {b cp sz : Nat} {nl : Bool} {es : List MV} (hes : ∀ e ∈ es, e.cells.length = sz) (hle : es.length ≤ cp)
  (hl : 0 < cp → w.heap.size ≤ b ∧ ∃ (arr : Array Value) (t : TypeId), viewO nl w'.heap[b]? arr t ∧ arr.size = cp * sz ∧ ∀ (k : Nat) c, (flat es)[k]? = some c → ∃ v, arr[k]? = some v ∧ V E w c v) :
  HRel (E.put h.length b 0 cp sz 0 es.length nl) (h ++ [⟨0, nl, sz, es⟩]) w' ∧ Ext lk E w (E.put h.length b 0 cp sz 0 es.length nl) w' := by
 have hk : E.K h.length → E.gn h.length < 0 ∧ lk h.length = false := fun hk => absurd (hr.klt _ hk) (by omega)
 have hx : Ext lk E w (E.put h.length b 0 cp sz 0 es.length nl) w' := Ext.put (OnlyObj.of_below hb) hk (fun hc => .inl (hl hc).1) (.inr hr.top)
 refine hr.put (OnlyObj.of_below hb) hk (fun hc => .inl (hl hc).1) (fun j hj hkj => ?_) (by simp) hes (by omega) (fun hc => ?_) (by simp) (.inr hr.top)
 ·exact List.getElem?_append_left (hr.klt j hkj)
 ·obtain ⟨_, arr, t, h1, h2, h3⟩ := hl hc
  refine ⟨arr, t, h1, h2, fun k c hkc => ?_⟩
  obtain ⟨v, a1, a2⟩ := h3 k c hkc
  exact ⟨v, by simpa using a1, a2.ext hr hx⟩
end Go.Proofs.YtfchdbghjeophaaDoor

/- What the small language computes is what the program computes: operations that leave memory alone. -/
namespace Go.Proofs.YtfchdbghjeophaaDoor
open Go.RowKit
theorem Vs.append {E : Env} {w : World} {a b : List MV} {c d : List Value} (h : Vs E w a c) (k : Vs E w b d) : Vs E w (a ++ b) (c ++ d) :=
 ⟨by simp [h.1, k.1], fun i m v hm hv => by
  by_cases hi : i < a.length
  ·rw [List.getElem?_append_left hi] at hm
   rw [List.getElem?_append_left (h.1 ▸ hi)] at hv
   exact h.2 i m v hm hv
  ·rw [List.getElem?_append_right (by omega)] at hm
   rw [List.getElem?_append_right (by rw [← h.1]; omega), ← h.1] at hv
   exact k.2 _ m v hm hv⟩
theorem Vs.take {E : Env} {w : World} {a : List MV} {c : List Value} (h : Vs E w a c) (n : Nat) : Vs E w (a.take n) (c.take n) :=
 ⟨by simp [h.1], fun i m v hm hv => by
  rw [List.getElem?_take] at hm hv
  split at hm
  ·rename_i hlt; rw [if_pos hlt] at hv; exact h.2 i m v hm hv
  ·cases hm⟩
theorem Vs.drop {E : Env} {w : World} {a : List MV} {c : List Value} (h : Vs E w a c) (n : Nat) : Vs E w (a.drop n) (c.drop n) :=
 ⟨by simp [h.1], fun i m v hm hv => by
  rw [List.getElem?_drop] at hm hv
  exact h.2 _ m v hm hv⟩
def Slots (E : Env) (w : World) (s : List MV) (a : Act) : Prop := s.length = a.tmps.size ∧ ∀ (i : Nat) m v, s[i]? = some m → a.tmps[i]? = some v → V E w m v
theorem Slots.ext {lk : Nat → Bool} {E : Env} {h : MHeap} {w : World} (hr : HRel E h w) {E' : Env} {w' : World} (hx : Ext lk E w E' w') {s : List MV} {a : Act} (hs : Slots E w s a) : Slots E' w' s a :=
 ⟨hs.1, fun i m v hm hv => (hs.2 i m v hm hv).ext hr hx⟩
theorem Slots.put {E : Env} {w : World} {s : List MV} {a : Act} (hs : Slots E w s a) {m : MV} {v : Value} (hv : V E w m v) (d : Option Nat) : Slots E w (putM s d m) (a.put d v) := by
 cases d with
 | none => exact hs
 | some d =>
  refine ⟨by simp [putM, Act.put, hs.1], fun i m' v' hm hv' => ?_⟩
  simp only [putM, Act.put] at hm hv'
  by_cases e : d = i
  ·subst e
   rw [List.getElem?_set] at hm
   rw [Array.getElem?_setIfInBounds] at hv'
   split at hm
   ·split at hm
    ·split at hv'
     ·split at hv'
      ·cases hm; cases hv'; exact hv
      ·cases hv'
     ·rename_i hne; exact absurd rfl hne
    ·cases hm
   ·rename_i hne; exact absurd rfl hne
  ·rw [List.getElem?_set_ne e] at hm
   rw [Array.getElem?_setIfInBounds_ne e] at hv'
   exact hs.2 i m' v' hm hv'
theorem Slots.defers {E : Env} {w : World} {s : List MV} {t : Array Value} {ds es : List Deferred} (hs : Slots E w s ⟨t, ds⟩) : Slots E w s ⟨t, es⟩ := hs
theorem V.ofV {E : Env} {w : World} (v : Value) : V E w (ofV v) v := by
 unfold YtfchdbghjeophaaDoor.ofV
 split
 ·rename_i vs
  have := V.agg (E := E) (w := w) (vs.toList.map .lit) vs.toList (by simp) (fun i c v hc hv => by
   rw [List.getElem?_map] at hc
   rw [hv] at hc
   cases hc
   exact .lit v)
  simpa using this
 ·exact .lit _
theorem Slots.tmp {E : Env} {w : World} {s : List MV} {a : Act} (hs : Slots E w s a) (t : Nat) : V E w (s.getD t (.lit undef)) (a.tmps.getD t undef) := by
 by_cases h : t < s.length
 ·have h' : t < a.tmps.size := hs.1 ▸ h
  have := hs.2 t s[t] a.tmps[t] (by simp [h]) (by simp [h'])
  simpa [List.getD, h, h'] using this
 ·have h' : ¬ t < a.tmps.size := hs.1 ▸ h
  simp [List.getD, h, h']
  exact .lit _
theorem Slots.x {E : Env} {w : World} {s : List MV} {a : Act} (hs : Slots E w s a) {x : Operand} {x' : MX} (hx : cX x = some x') : V E w (x'.get s) (a.eval x) := by
 cases x with
 | tmp t => simp [cX] at hx; subst hx; exact hs.tmp t
 | const v => simp [cX] at hx; subst hx; exact V.ofV v
 | func f =>
  simp [cX] at hx; subst hx
  exact V.fn f 0 [] [] rfl (fun i c v hc => by simp at hc)
 | global g => simp [cX] at hx
theorem mapM_some {α β : Type} {f : α → Option β} : ∀ {l : List α} {l' : List β}, l.mapM f = some l' → l.length = l'.length ∧ ∀ (i : Nat) x y, l[i]? = some x → l'[i]? = some y → f x = some y
 | [], l', h => by simp at h; subst h; simp
 | x :: l, l', h => by
  simp only [List.mapM_cons, Option.pure_def, Option.bind_eq_bind, Option.bind_eq_some_iff] at h
  obtain ⟨y, hy, l'', hl, e⟩ := h
  cases e
  obtain ⟨h1, h2⟩ := mapM_some hl
  refine ⟨by simp [h1], fun i x' y' hx hy' => ?_⟩
  cases i with
  | zero => simp at hx hy'; subst hx hy'; exact hy
  | succ i => simp at hx hy'; exact h2 i x' y' hx hy'
theorem Slots.xs {E : Env} {w : World} {s : List MV} {a : Act} (hs : Slots E w s a) {xs : List Operand} {xs' : List MX} (hx : cXs xs = some xs') : Vs E w (xs'.map (MX.get s)) (xs.map a.eval) := by
 obtain ⟨h1, h2⟩ := mapM_some hx
 refine ⟨by simp [h1], fun i c v hc hv => ?_⟩
 rw [List.getElem?_map, Option.map_eq_some_iff] at hc hv
 obtain ⟨x', h3, rfl⟩ := hc
 obtain ⟨x, h4, rfl⟩ := hv
 exact hs.x (h2 i x x' h4 h3)
section
variable {P : Program} {o : Oper} {a : Act} {w w' : World} {r : Option Nat} {n : Nat} {K : Act → World → Prop} {Q : Exit → Act → World → Prop}
theorem wpIn_val {v : Value} (hnd : ∀ c, o.op ≠ .defer c) (h : (execOp a.eval o).run P w = .ok (.value v) w') (hk : K (a.put o.dst v) w') : o.wpIn (Fw r) n P a w K Q :=
 ⟨about_wide o a w, by rw [Oper.semAt_eq _ _ _ hnd, h]; exact hk⟩
theorem wpIn_skp (hnd : ∀ c, o.op ≠ .defer c) (h : (execOp a.eval o).run P w = .ok .skip w') (hk : K (a.put o.dst undef) w') : o.wpIn (Fw r) n P a w K Q :=
 ⟨about_wide o a w, by rw [Oper.semAt_eq _ _ _ hnd, h]; exact hk⟩
theorem wpIn_ent {f : FuncId} {args : Array Value} (hnd : ∀ c, o.op ≠ .defer c) (h : (execOp a.eval o).run P w = .ok (.enter f args) w')
  (hk : Calls P f args w' fun e w'' => ∃ v, e = .returned v ∧ K (a.put o.dst v) w'') : o.wpIn (Fw r) n P a w K Q :=
 ⟨about_wide o a w, by
  rw [Oper.semAt_eq _ _ _ hnd, h]
  exact ⟨fun h => by simp [Fence.wide] at h, (calls_in r _ hk).mono fun e w'' ⟨v, he, hk⟩ => by subst he; exact hk⟩⟩
end
theorem V.bool {E : Env} {w : World} {t : Bool} {v : Value} (h : V E w (.lit (.bool t)) v) : v = .bool t := by cases h; rfl
theorem V.lit_eq {E : Env} {w : World} {u v : Value} (h : V E w (.lit u) v) : v = u := by cases h; rfl
def Pure (P : Program) (o : Oper) (a : Act) (w : World) (E : Env) (m : MV) : Prop := ∃ v, (execOp a.eval o).run P w = .ok (.value v) w ∧ V E w m v
section
variable {P : Program} {o : Oper} {a : Act} {w : World} {E : Env} {s : List MV} {h : MHeap}
theorem pure_mv {x : Operand} {x' : MX} (ho : o.op = .move x ∨ o.op = .assign x) (hx : cX x = some x') (hs : Slots E w s a) : Pure P o a w E (x'.get s) := by
 refine ⟨a.eval x, ?_, hs.x hx⟩
 rcases ho with ho | ho <;> simp [execOp, ho]
theorem pure_pick {c x y : Operand} {c' x' y' : MX} {t : Bool} (ho : o.op = .pick c x y) (hc : cX c = some c') (hx : cX x = some x') (hy : cX y = some y') (hs : Slots E w s a) (ht : c'.get s = .lit (.bool t)) :
  Pure P o a w E (if t then x'.get s else y'.get s) := by
 have h1 := hs.x hc
 rw [ht] at h1
 have h2 := h1.bool
 refine ⟨if t then a.eval x else a.eval y, ?_, ?_⟩
 ·simp [execOp, ho, h2, asBool]
 ·cases t
  ·exact hs.x hy
  ·exact hs.x hx
theorem pure_nilck {x : Operand} {x' : MX} {m : MV} (ho : o.op = .nilCheck x) (hx : cX x = some x') (hs : Slots E w s a) (he : x'.get s = m) (hm : (∃ id i off g, m = .ptr id i off g) ∨ (∃ e off, m = .rp e off) ∨ ∃ f k cs, m = .fn f k cs) :
  Pure P o a w E m := by
 have h1 := hs.x hx
 rw [he] at h1
 refine ⟨a.eval x, ?_, h1⟩
 rcases hm with ⟨id, i, off, g, rfl⟩ | ⟨e, off, rfl⟩ | ⟨f, k, cs, rfl⟩ <;>
  (generalize hv : a.eval x = v at h1; cases h1; simp [execOp, ho, hv])
theorem pure_un {op : UnOp} {t : TypeId} {x : Operand} {x' : MX} {v : MV} {h' : MHeap} {lk : Nat → Bool} {O : Oracle} (ho : o.op = .unOp op t x) (hx : cX x = some x') (hs : Slots E w s a) (he : evO lk O s h (.un op x') = some (v, h')) :
  h' = h ∧ Pure P o a w E v := by
 have h1 := hs.x hx
 simp only [evO] at he
 split at he
 ·rename_i b hb
  simp only [Option.some.injEq, Prod.mk.injEq] at he
  obtain ⟨rfl, rfl⟩ := he
  rw [hb] at h1
  have h2 := h1.lit_eq
  exact ⟨rfl, _, by simp [execOp, ho, h2, Op.unary], .lit _⟩
 ·rename_i k n hb
  simp only [Option.some.injEq, Prod.mk.injEq] at he
  obtain ⟨rfl, rfl⟩ := he
  rw [hb] at h1
  have h2 := h1.lit_eq
  exact ⟨rfl, _, by simp [execOp, ho, h2, Op.unary, Op.intArith], .lit _⟩
 ·cases he
theorem pure_cv {src t : TypeId} {k : IntKind} {x : Operand} {x' : MX} {v : MV} {h' : MHeap} {lk : Nat → Bool} {O : Oracle} (ho : o.op = .convert src t x) (hsrc : P.underlying src ≠ none) (ht : P.underlying t = some (.int k)) (hx : cX x = some x') (hs : Slots E w s a)
  (he : evO lk O s h (.cv k x') = some (v, h')) : h' = h ∧ Pure P o a w E v := by
 have h1 := hs.x hx
 simp only [evO] at he
 split at he
 ·rename_i k' n hb
  simp only [Option.some.injEq, Prod.mk.injEq] at he
  obtain ⟨rfl, rfl⟩ := he
  rw [hb] at h1
  have h2 := h1.lit_eq
  obtain ⟨d, hd⟩ := Option.ne_none_iff_exists'.1 hsrc
  refine ⟨rfl, _, ?_, .lit (.int k (k.wrap n))⟩
  simp [execOp, ho, h2, convert, run_underlying ht, run_underlying hd, Conv.intToInt]
 ·cases he
theorem pure_mf {f : Nat} {first caps : Array Operand} {caps' : List MX} (ho : o.op = .makeFunc (.func f) first caps) (hc : cXs (first.toList ++ caps.toList) = some caps') (hs : Slots E w s a) : Pure P o a w E (.fn f first.size (caps'.map (MX.get s))) := by
 have h1 := hs.xs hc
 refine ⟨.func (.func f) (first.map a.eval) (caps.map a.eval), by simp [execOp, ho, Instr.makeFunc], ?_⟩
 have := V.fn f first.size _ _ h1.1 h1.2
 have e1 : (List.take first.size (List.map a.eval (first.toList ++ caps.toList))).toArray = first.map a.eval := by
  apply Array.ext'
  rw [List.map_append, List.take_left' (by simp)]
  simp
 have e2 : (List.drop first.size (List.map a.eval (first.toList ++ caps.toList))).toArray = caps.map a.eval := by
  apply Array.ext'
  rw [List.map_append, List.drop_left' (by simp)]
  simp
 rwa [e1, e2] at this
theorem pure_ext {x : Operand} {x' : MX} {i : Nat} {v : MV} {h' : MHeap} {lk : Nat → Bool} {O : Oracle} (ho : o.op = .extract x i) (hx : cX x = some x') (hs : Slots E w s a) (he : evO lk O s h (.ext x' i) = some (v, h')) : h' = h ∧ Pure P o a w E v := by
 have h1 := hs.x hx
 simp only [evO] at he
 split at he
 ·rename_i vs hb
  rw [Option.map_eq_some_iff] at he
  obtain ⟨u, hu, he⟩ := he
  simp only [Prod.mk.injEq] at he
  obtain ⟨rfl, rfl⟩ := he
  rw [hb] at h1
  generalize hv : a.eval x = y at h1
  cases h1 with
  | tup _ us hl hc =>
   have hi := (List.getElem?_eq_some_iff.1 hu).1
   have hus : us[i]? = some (us[i]'(hl ▸ hi)) := by simp
   exact ⟨rfl, _, by simp [execOp, ho, hv, Instr.extract, hus], hc i _ _ hu hus⟩
 ·cases he
theorem pure_mx {x y : Operand} {x' y' : MX} {c : Call} {v : MV} {h' : MHeap} {lk : Nat → Bool} {O : Oracle} (ho : o.op = .call c) (hc : c.callee = .builtin .max) (ha : c.args = #[x, y]) (hx : cX x = some x') (hy : cX y = some y') (hs : Slots E w s a) (he : evO lk O s h (.mx x' y') = some (v, h')) : h' = h ∧ Pure P o a w E v := by
 have h1 := hs.x hx
 have h2 := hs.x hy
 simp only [evO] at he
 split at he
 ·rename_i k n k' n' hb hb'
  simp only [Option.some.injEq, Prod.mk.injEq] at he
  obtain ⟨rfl, rfl⟩ := he
  rw [hb] at h1; rw [hb'] at h2
  have h3 := h1.lit_eq
  have h4 := h2.lit_eq
  refine ⟨rfl, _, ?_, .lit _⟩
  simp [execOp, ho, resolve, hc, ha, invoke, builtin, h3, h4, Builtin.max_, Builtin.max2]
 ·cases he
theorem pure_mn {x y : Operand} {x' y' : MX} {c : Call} {v : MV} {h' : MHeap} {lk : Nat → Bool} {O : Oracle} (ho : o.op = .call c) (hc : c.callee = .builtin .min) (ha : c.args = #[x, y]) (hx : cX x = some x') (hy : cX y = some y') (hs : Slots E w s a) (he : evO lk O s h (.mn x' y') = some (v, h')) : h' = h ∧ Pure P o a w E v := by
 have h1 := hs.x hx
 have h2 := hs.x hy
 simp only [evO] at he
 split at he
 ·rename_i k n k' n' hb hb'
  simp only [Option.some.injEq, Prod.mk.injEq] at he
  obtain ⟨rfl, rfl⟩ := he
  rw [hb] at h1; rw [hb'] at h2
  have h3 := h1.lit_eq
  have h4 := h2.lit_eq
  refine ⟨rfl, _, ?_, .lit _⟩
  simp [execOp, ho, resolve, hc, ha, invoke, builtin, h3, h4, Builtin.min_, Builtin.min2]
 ·cases he
theorem pure_sln {x : Operand} {x' : MX} {c : Call} {t : TypeId} {v : MV} {h' : MHeap} {lk : Nat → Bool} {O : Oracle} (ho : o.op = .call c) (hc : c.callee = .builtin .len) (ha : c.args = #[x]) (hat : c.argTypes = #[t]) (ht : P.underlying t = some .string) (hx : cX x = some x') (hs : Slots E w s a)
  (he : evO lk O s h (.sln x') = some (v, h')) : h' = h ∧ Pure P o a w E v := by
 have h1 := hs.x hx
 simp only [evO] at he
 split at he
 ·rename_i b hb
  simp only [Option.some.injEq, Prod.mk.injEq] at he
  obtain ⟨rfl, rfl⟩ := he
  rw [hb] at h1
  refine ⟨rfl, goInt b.size, ?_, .lit _⟩
  simp [execOp, ho, resolve, hc, ha, hat, invoke, builtin, h1.lit_eq, Builtin.len_, run_underlying ht]
 ·cases he
theorem pure_len {x : Operand} {x' : MX} {c : Call} {t e : TypeId} {v : MV} {h' : MHeap} {lk : Nat → Bool} {O : Oracle} (ho : o.op = .call c) (hc : c.callee = .builtin .len) (ha : c.args = #[x]) (hat : c.argTypes = #[t]) (ht : P.underlying t = some (.slice e)) (hx : cX x = some x') (hs : Slots E w s a)
  (he : evO lk O s h (.len x') = some (v, h')) : h' = h ∧ Pure P o a w E v := by
 have h1 := hs.x hx
 simp only [evO] at he
 split at he
 ·rename_i n hb
  simp only [Option.some.injEq, Prod.mk.injEq] at he
  obtain ⟨rfl, rfl⟩ := he
  refine ⟨rfl, goInt n, ?_, .lit _⟩
  have : ∃ A c, a.eval x = .slice A n c := by
   generalize a.eval x = y at h1
   generalize x'.get s = m at h1 hb
   cases h1 with
   | lit =>
    cases y <;> simp [MV.slen] at hb
    subst hb; exact ⟨_, _, rfl⟩
   | sl es vs A cap sz => simp [MV.slen] at hb; subst hb; exact ⟨_, _, rfl⟩
   | arr id i n g A cap => simp [MV.slen] at hb; subst hb; exact ⟨_, _, rfl⟩
   | emp ad => simp [MV.slen] at hb; subst hb; exact ⟨_, _, rfl⟩
   | _ => simp [MV.slen] at hb
  obtain ⟨A, cc, hy⟩ := this
  simp [execOp, ho, resolve, hc, ha, hat, invoke, builtin, hy, Builtin.len_, run_underlying ht]
 ·cases he
end
end Go.Proofs.YtfchdbghjeophaaDoor
namespace Go.Proofs.YtfchdbghjeophaaDoor
open Go.RowKit
theorem flat_cons (e : MV) (es : List MV) : flat (e :: es) = e.cells ++ flat es := rfl
theorem flat_len {sz : Nat} : ∀ {es : List MV}, (∀ e ∈ es, e.cells.length = sz) → (flat es).length = es.length * sz
 | [], _ => by simp [flat]
 | e :: es, h => by
  rw [flat_cons, List.length_append, h e (by simp), flat_len (fun x hx => h x (by simp [hx])), List.length_cons, Nat.add_mul]
  omega
theorem flat_at {sz : Nat} : ∀ {es : List MV}, (∀ e ∈ es, e.cells.length = sz) → ∀ {i : Nat} {e : MV} {j : Nat}, es[i]? = some e → j < sz → (flat es)[i * sz + j]? = e.cells[j]?
 | e :: es, h, 0, e', j, hi, hj => by
  simp at hi; subst hi
  rw [flat_cons, Nat.zero_mul, Nat.zero_add, List.getElem?_append_left (by rw [h e (by simp)]; exact hj)]
 | e :: es, h, i + 1, e', j, hi, hj => by
  simp at hi
  have := flat_at (fun x hx => h x (by simp [hx])) hi hj
  rw [flat_cons, List.getElem?_append_right (by rw [h e (by simp)]; rw [Nat.add_mul]; omega), h e (by simp), ← this]
  congr 1
  rw [Nat.add_mul]; omega
theorem flat_iff {sz : Nat} {es : List MV} (h : ∀ e ∈ es, e.cells.length = sz) {k : Nat} {c : MV} : (flat es)[k]? = some c ↔ ∃ i j e, k = i * sz + j ∧ j < sz ∧ es[i]? = some e ∧ e.cells[j]? = some c := by
 constructor
 ·intro hk
  have hlt := (List.getElem?_eq_some_iff.1 hk).1
  rw [flat_len h] at hlt
  have hsz : 0 < sz := by
   rcases Nat.eq_zero_or_pos sz with h0 | h0
   ·rw [h0, Nat.mul_zero] at hlt; omega
   ·exact h0
  have hi : k / sz < es.length := Nat.div_lt_of_lt_mul (by rw [Nat.mul_comm]; exact hlt)
  have hkk : k = k / sz * sz + k % sz := by rw [Nat.mul_comm]; exact (Nat.div_add_mod k sz).symm
  refine ⟨k / sz, k % sz, es[k / sz], hkk, Nat.mod_lt _ hsz, by simp [hi], ?_⟩
  rw [← flat_at h (List.getElem?_eq_getElem hi) (Nat.mod_lt _ hsz), ← hkk]
  exact hk
 ·rintro ⟨i, j, e, rfl, hj, he, hc⟩
  rw [flat_at h he hj]; exact hc
section
variable {P : Program} {w : World} {E : Env}
def isAggD : TypeDesc → Bool
 | .struct _ | .array _ _ => true
 | _ => false
theorem tagg_none {t : TypeId} (h : tagg P t = some none) : ∃ d, P.underlying t = some d ∧ isAggD d = false := by
 unfold tagg at h
 cases hd : P.underlying t with
 | none => rw [hd] at h; cases h
 | some d =>
  rw [hd] at h
  refine ⟨d, rfl, ?_⟩
  cases d <;> first | rfl | (simp at h)
theorem tagg_some {t : TypeId} {n : Nat} (h : tagg P t = some (some n)) : (∃ d, P.underlying t = some d ∧ isAggD d = true) ∧ ∃ i, P.info? t = some i ∧ i.size = n := by
 unfold tagg at h
 cases hd : P.underlying t with
 | none => rw [hd] at h; cases h
 | some d =>
  rw [hd] at h
  cases d <;> simp [tsz] at h <;> (obtain ⟨i, h1, h2⟩ := h; exact ⟨⟨_, rfl, rfl⟩, i, h1, h2⟩)
theorem run_isAgg {t : TypeId} {d : TypeDesc} {b : Bool} (h : P.underlying t = some d) (hd : isAggD d = b) (w : World) : (isAgg t).run P w = .ok b w := by
 unfold isAgg
 simp only [Sem.run_bind, run_underlying h, Result.andThen_ok]
 subst hd
 cases d <;> rfl
theorem Addr.add_none (b o i : Nat) : (⟨b, o, none⟩ : Addr).add i = ⟨b, o + i, none⟩ := by unfold Addr.add; split <;> simp_all
theorem run_loadVar_m {t : TypeId} {ag : Option Nat} (ht : tagg P t = some ag) {ms : List MV} {vs : List Value} (hv : Vs E w ms vs) {b o : Nat} (hc : ∀ (i : Nat) v, vs[i]? = some v → w.cell? ⟨b, o + i, none⟩ = some v)
  {off : Nat} {m : MV} (hm : rdCells ms off ag = some m) : ∃ v, (loadVar t ⟨b, o + off, none⟩).run P w = .ok v w ∧ V E w m v := by
 cases ag with
 | none =>
  obtain ⟨d, h1, h2⟩ := tagg_none ht
  simp only [rdCells] at hm
  have hlt := (List.getElem?_eq_some_iff.1 hm).1
  rw [hv.1] at hlt
  have hx : vs[off]? = some vs[off] := by simp
  refine ⟨vs[off], ?_, hv.2 off m _ hm hx⟩
  simp [loadVar, run_isAgg h1 h2, hc off _ hx]
 | some n =>
  obtain ⟨⟨d, h1, h2⟩, i, hi, hn⟩ := tagg_some ht
  simp only [rdCells] at hm
  split at hm
  ·rename_i hle
   cases hm
   have hle' : off + n ≤ vs.length := hv.1 ▸ hle
   have hcs : ((vs.drop off).take n).length = n := by simp; omega
   have hrun := run_loadCells_list (P := P) w ⟨b, o + off, none⟩ ((vs.drop off).take n) (fun j v hj => by
    rw [Addr.add_none, Nat.add_assoc]
    refine hc (off + j) v ?_
    rw [List.getElem?_take] at hj
    split at hj
    ·rwa [List.getElem?_drop] at hj
    ·cases hj)
   rw [hcs] at hrun
   refine ⟨.agg ((vs.drop off).take n).toArray, ?_, .agg _ _ (by simp; omega) fun j c v hj hv' => ?_⟩
   ·simp [loadVar, run_isAgg h1 h2, sizeOf, typeInfo, hi, hn, hrun]
   ·rw [List.getElem?_take] at hj hv'
    split at hj
    ·rename_i hlt
     rw [if_pos hlt] at hv'
     rw [List.getElem?_drop] at hj hv'
     exact hv.2 _ c v hj hv'
    ·cases hj
  ·cases hm
theorem HRel.gnOf {h : MHeap} (hr : HRel E h w) {id g : Nat} {ob : MObj} (hk : E.K id) (hob : h[id]? = some ob) (hg : ob.g = g) : E.gn id = g ∧ E.nl id = ob.nl := by
 obtain ⟨es, h1, _⟩ := hr.obj id hk
 rw [hob] at h1
 simp only [Option.some.injEq] at h1
 subst h1
 exact ⟨hg, rfl⟩
theorem HRel.elem {h : MHeap} (hr : HRel E h w) {id i g : Nat} {ob : MObj} {e : MV} (hk : E.K id) (hnl : E.nl id = false) (hob : h[id]? = some ob) (hg : ob.g = g) (he : ob.es[i]? = some e) :
  E.gn id = g ∧ E.sz id = ob.sz ∧ e.cells.length = ob.sz ∧ E.ln id = ob.es.length ∧ 0 < E.cp id ∧ ∃ vs, Vs E w e.cells vs ∧ ∀ (j : Nat) v, vs[j]? = some v → w.cell? ⟨E.ρ id, (E.bo id + i) * E.sz id + j, none⟩ = some v := by
 obtain ⟨es, h1, h2, h3, h4, h5⟩ := hr.obj id hk
 rw [hob] at h1
 simp only [Option.some.injEq] at h1
 subst h1
 dsimp only at hg he ⊢
 have hi := (List.getElem?_eq_some_iff.1 he).1
 have hcp : 0 < E.cp id := by omega
 have hel := h3 e (List.mem_of_getElem? he)
 obtain ⟨arr, t, a1, a2, a3⟩ := h5 hcp
 rw [hnl] at a1
 replace a1 : w.heap[E.ρ id]? = some (.cells arr t (0, 0)) := a1
 refine ⟨hg, rfl, hel, h2, hcp, ?_⟩
 have hbase : (E.bo id + i) * E.sz id + E.sz id ≤ arr.size := by
  rw [a2, ← Nat.succ_mul]
  exact Nat.mul_le_mul_right _ (by omega)
 refine ⟨(arr.toList.drop ((E.bo id + i) * E.sz id)).take (E.sz id), ⟨by simp [hel]; omega, fun j c v hj hv => ?_⟩, fun j v hj => ?_⟩
 ·have hjl : j < E.sz id := by have := (List.getElem?_eq_some_iff.1 hj).1; omega
  have := (flat_iff h3).2 ⟨i, j, e, rfl, hjl, he, hj⟩
  obtain ⟨v', b1, b2⟩ := a3 _ c this
  rw [List.getElem?_take, if_pos hjl, List.getElem?_drop] at hv
  have e1 : (E.bo id + i) * E.sz id + j = E.bo id * E.sz id + (i * E.sz id + j) := by rw [Nat.add_mul]; omega
  rw [e1, Array.getElem?_toList, b1] at hv
  cases hv
  exact b2
 ·rw [List.getElem?_take] at hj
  split at hj
  ·rw [List.getElem?_drop, Array.getElem?_toList] at hj
   simp [World.cell?, a1, hj]
  ·cases hj
variable {o : Oper} {a : Act} {s : List MV} {h : MHeap}
theorem pure_ld {t : TypeId} {ag : Option Nat} {x : Operand} {x' : MX} {v : MV} {h' : MHeap} {lk : Nat → Bool} {O : Oracle} (ho : o.op = .load t x) (ht : tagg P t = some ag) (hx : cX x = some x') (hs : Slots E w s a) (hr : HRel E h w)
  (he : evO lk O s h (.ld ag x') = some (v, h')) : h' = h ∧ Pure P o a w E v := by
 have h1 := hs.x hx
 simp only [evO] at he
 have key : ∀ {b o' : Nat} {ms : List MV} {vs : List Value} {off : Nat}, a.eval x = .pointer (some ⟨b, o' + off, none⟩) → Vs E w ms vs → (∀ (i : Nat) v, vs[i]? = some v → w.cell? ⟨b, o' + i, none⟩ = some v) → (rdCells ms off ag).map (fun v => (v, h)) = some (v, h') → h' = h ∧ Pure P o a w E v := by
  intro b o' ms vs off hp hv hc hm
  rw [Option.map_eq_some_iff] at hm
  obtain ⟨m, hm, e⟩ := hm
  simp only [Prod.mk.injEq] at e
  obtain ⟨rfl, rfl⟩ := e
  obtain ⟨u, hu, hV⟩ := run_loadVar_m ht hv hc hm
  exact ⟨rfl, u, by simp [execOp, ho, hp, Instr.loadAt, Instr.sureAddr, hu], hV⟩
 split at he
 ·rename_i e off hb
  rw [hb] at h1
  generalize hy : a.eval x = y at h1
  cases h1 with
  | rp _ _ vs b o' hl hc hS hcell => exact key hy ⟨hl, hc⟩ hcell he
 ·rename_i id i off g hb
  rw [hb] at h1
  generalize hy : a.eval x = y at h1
  cases h1 with
  | ptr _ _ _ _ b o' hk hg hd =>
   split at he
   ·rename_i ob hob
    split at he
    ·rename_i hog
     split at he
     ·rename_i e hel
      obtain ⟨rfl, rfl, _, hnl⟩ := hd (hr.gnOf hk hob hog).1
      obtain ⟨c1, c2, c3, c4, c5, vs, c6, c7⟩ := hr.elem hk hnl hob hog hel
      exact key hy c6 c7 he
     ·cases he
    ·cases he
   ·cases he
 ·cases he
theorem splice_at {cs vs : List MV} {off : Nat} (hl : off + vs.length ≤ cs.length) (k : Nat) : (splice cs off vs)[k]? = if off ≤ k ∧ k < off + vs.length then vs[k - off]? else cs[k]? := by
 unfold splice
 by_cases h1 : k < off
 ·rw [List.append_assoc, List.getElem?_append_left (by simp; omega), List.getElem?_take, if_pos h1, if_neg (by omega)]
 ·by_cases h2 : k < off + vs.length
  ·rw [if_pos (by omega), List.append_assoc, List.getElem?_append_right (by simp; omega), List.getElem?_append_left (by simp; omega)]
   congr 1; simp; omega
  ·rw [if_neg (by omega), List.getElem?_append_right (by simp; omega), List.getElem?_drop]
   congr 1; simp; omega
theorem splice_len {cs vs : List MV} {off : Nat} (hl : off + vs.length ≤ cs.length) : (splice cs off vs).length = cs.length := by unfold splice; simp; omega
theorem wrElem_cells {e e' v : MV} {off : Nat} (h : wrElem e off v = some e') : off + v.cells.length ≤ e.cells.length ∧ e'.cells.length = e.cells.length ∧ ∀ k : Nat, e'.cells[k]? = if off ≤ k ∧ k < off + v.cells.length then v.cells[k - off]? else e.cells[k]? := by
 unfold wrElem at h
 split at h
 ·rename_i hl
  refine ⟨hl, ?_⟩
  split at h
  ·cases h
   exact ⟨splice_len hl, splice_at hl⟩
  ·rename_i hne
   split at h
   ·rename_i h1
    cases h
    have hc : e.cells = [e] := by cases e <;> first | rfl | exact absurd rfl (hne _)
    rw [hc] at hl ⊢
    simp only [List.length_cons, List.length_nil, Nat.zero_add] at hl ⊢
    have : off = 0 := by omega
    subst this
    refine ⟨h1, fun k => ?_⟩
    by_cases hk : k < 1
    ·rw [if_pos (by omega)]; rfl
    ·rw [if_neg (by omega), List.getElem?_eq_none (by omega), List.getElem?_eq_none (by simp; omega)]
   ·cases h
 ·cases h
end
end Go.Proofs.YtfchdbghjeophaaDoor
namespace Go.Proofs.YtfchdbghjeophaaDoor
open Go.RowKit
def Eff (lk : Nat → Bool) (P : Program) (o : Oper) (a : Act) (w : World) (E : Env) (m : MV) (h' : MHeap) : Prop :=
 ∃ v w' E', ((execOp a.eval o).run P w = .ok (.value v) w' ∨ ((execOp a.eval o).run P w = .ok .skip w' ∧ v = undef)) ∧ V E' w' m v ∧ HRel E' h' w' ∧ Ext lk E w E' w'
section
variable {lk : Nat → Bool} {P : Program} {w : World} {E : Env} {o : Oper} {a : Act} {s : List MV} {h : MHeap}
theorem Pure.eff {m : MV} (hp : Pure P o a w E m) (hr : HRel E h w) : Eff lk P o a w E m h := by
 obtain ⟨v, h1, h2⟩ := hp
 exact ⟨v, w, E, .inl h1, h2, hr, Ext.refl _ _ _⟩
theorem HRel.write (hr : HRel E h w) {id : Nat} (hlk : lk id = false) {ob : MObj} {es' : List MV} {w' : World} {arr' : Array Value} {t : TypeId} (hk : E.K id) (hc : 0 < E.cp id) (hob : h[id]? = some ob) (hlen : es'.length = ob.es.length)
  (hsz : ∀ e ∈ es', e.cells.length = E.sz id) (h1 : w'.os = w.os ∧ w'.tape = w.tape ∧ w'.output = w.output ∧ w'.heap.size = w.heap.size) (hkeep : ∀ k, k ≠ E.ρ id → w'.heap[k]? = w.heap[k]?)
  (hh : viewO (E.nl id) w'.heap[E.ρ id]? arr' t) (hs : arr'.size = E.cp id * E.sz id) (hcells : ∀ (k : Nat) c, (flat es')[k]? = some c → ∃ v, arr'[E.bo id * E.sz id + k]? = some v ∧ V E w c v) :
  HRel E (h.set id { ob with es := es' }) w' ∧ Ext lk E w E w' := by
 have hx : Ext lk E w E w' := ⟨h1.1, h1.2.1, h1.2.2.1, Nat.le_of_eq h1.2.2.2.symm, fun k hk' hn => hkeep k (fun e => hn id hk hlk hc e.symm), fun _ h => h, fun _ h => h, fun _ _ => ⟨Nat.le_refl _, fun _ => ⟨rfl, rfl, rfl, rfl, rfl, rfl⟩⟩, fun _ _ _ => rfl, fun _ hj hcj => .inl ⟨hj, hcj, rfl⟩, rfl, fun _ h => .inl h, rfl, fun _ h => .inl h⟩
 have hidl := hr.klt id hk
 refine ⟨⟨fun j hj => by simpa using hr.klt j hj, by simpa using hr.top, fun j hj => ?_, hr.inj, hr.sep, fun b hb => by rw [h1.2.2.2]; exact hr.slt b hb, fun p hp => (hr.tab p hp).ext hr hx⟩, hx⟩
 by_cases e : j = id
 ·subst e
  obtain ⟨es, a1, a2, a3, a4, a5⟩ := hr.obj j hj
  rw [hob] at a1
  simp only [Option.some.injEq] at a1
  subst a1
  dsimp only at hlen ⊢
  refine ⟨es', by simp [hidl], by rw [a2, hlen], hsz, by rw [hlen]; exact a4, fun _ => ⟨arr', t, hh, hs, fun k c hkc => ?_⟩⟩
  obtain ⟨v, b1, b2⟩ := hcells k c hkc
  exact ⟨v, b1, b2.ext hr hx⟩
 ·obtain ⟨es, a1, a2, a3, a4, a5⟩ := hr.obj j hj
  refine ⟨es, by rw [List.getElem?_set_ne (fun e' => e e'.symm)]; exact a1, a2, a3, a4, fun hcj => ?_⟩
  obtain ⟨arr, t', b1, b2, b3⟩ := a5 hcj
  refine ⟨arr, t', ?_, b2, fun k c hkc => ?_⟩
  ·rw [hkeep _ (fun e' => e (hr.inj j id hj hk hcj hc e'))]; exact b1
  ·obtain ⟨v, c1, c2⟩ := b3 k c hkc
   exact ⟨v, c1, c2.ext hr hx⟩
theorem sOk_cells {m : MV} {v : Value} {sz : Nat} (hv : V E w m v) (hm : m.sOk sz = true) : Vs E w m.cells v.cells.toList ∧ m.cells.length = sz ∧ ∀ u ∈ v.cells.toList, u.oneCell' = true := by
 unfold MV.sOk at hm
 simp only [Bool.and_eq_true, beq_iff_eq] at hm
 obtain ⟨h1, h2⟩ := hm
 have hvs : Vs E w m.cells v.cells.toList := hv.cells (fun x e => by subst e; simp [MV.cells, MV.one, Value.oneCell'] at h2) (fun e => by subst e; simp [MV.cells, MV.one] at h2)
 refine ⟨hvs, h1, fun u hu => ?_⟩
 obtain ⟨i, hi⟩ := List.getElem?_of_mem hu
 have hil := (List.getElem?_eq_some_iff.1 hi).1
 have hc : m.cells[i]? = some (m.cells[i]'(hvs.1 ▸ hil)) := by simp
 exact (hvs.2 i _ u hc hi).one (List.all_eq_true.1 h2 _ (List.getElem_mem _))
theorem eff_st {t : TypeId} {x y : Operand} {x' y' : MX} {sz : Nat} {v : MV} {h' : MHeap} {O : Oracle} (ho : o.op = .store t x y) (ht : tsz P t = some sz) (hx : cX x = some x') (hy : cX y = some y') (hs : Slots E w s a) (hr : HRel E h w)
  (he : evO lk O s h (.st sz x' y') = some (v, h')) : Eff lk P o a w E v h' := by
 have h1 := hs.x hx
 have h2 := hs.x hy
 simp only [evO] at he
 split at he
 case isFalse => cases he
 rename_i hok
 split at he
 case h_2 => cases he
 rename_i id i off g hb
 rw [hb] at h1
 generalize hyv : a.eval x = yv at h1
 cases h1 with
 | ptr _ _ _ _ b o' hk hg hd =>
  split at he
  case h_2 => cases he
  rename_i ob hob
  split at he
  case isFalse => cases he
  rename_i hogl
  obtain ⟨hog, hlk⟩ := hogl
  split at he
  case h_2 => cases he
  rename_i e hel
  split at he
  case h_2 => cases he
  rename_i e' hwr
  simp only [Option.some.injEq, Prod.mk.injEq] at he
  obtain ⟨rfl, rfl⟩ := he
  obtain ⟨rfl, rfl, _, hnl⟩ := hd (hr.gnOf hk hob hog).1
  obtain ⟨c1, c2, c3, c4, c5, -⟩ := hr.elem hk hnl hob hog hel
  obtain ⟨es, a1, a2, a3, a4, a5⟩ := hr.obj id hk
  rw [hob] at a1
  simp only [Option.some.injEq] at a1
  subst a1
  dsimp only at hog hel c2 c3 c4 ⊢
  obtain ⟨arr, te, b1, b2, b3⟩ := a5 c5
  rw [hnl] at b1
  replace b1 : w.heap[E.ρ id]? = some (.cells arr te (0, 0)) := b1
  obtain ⟨hvs, hlen, hone⟩ := sOk_cells h2 hok
  obtain ⟨w1, w2, w3⟩ := wrElem_cells hwr
  have hi := (List.getElem?_eq_some_iff.1 hel).1
  have hvl : (a.eval y).cells.toList.length = sz := by rw [← hvs.1]; exact hlen
  have hbase : (E.bo id + i) * E.sz id + E.sz id ≤ arr.size := by
   rw [b2, ← Nat.succ_mul]; exact Nat.mul_le_mul_right _ (by omega)
  have hfit : (E.bo id + i) * E.sz id + off + (a.eval y).cells.toList.length ≤ arr.size := by rw [← hvs.1]; omega
  have hrun := run_storeCells_at (P := P) (E.ρ id) ((E.bo id + i) * E.sz id + off) te (a.eval y).cells.toList 0 arr w b1 (by simpa using hfit) hone
  simp only [Nat.add_zero] at hrun
  obtain ⟨inf, hinf, hsize⟩ : ∃ inf, P.info? t = some inf ∧ inf.size = sz := by unfold tsz at ht; rwa [Option.map_eq_some_iff] at ht
  generalize harr : (arr.toList.take ((E.bo id + i) * E.sz id + off) ++ (a.eval y).cells.toList ++ arr.toList.drop ((E.bo id + i) * E.sz id + off + (a.eval y).cells.toList.length)).toArray = arr' at hrun
  have hsz' : arr'.size = arr.size := by
   rw [← harr]
   simp only [List.size_toArray, List.length_append, List.length_take, List.length_drop, Array.length_toList] at hfit ⊢
   omega
  have hat : ∀ k : Nat, arr'[k]? = if (E.bo id + i) * E.sz id + off ≤ k ∧ k < (E.bo id + i) * E.sz id + off + (a.eval y).cells.toList.length then (a.eval y).cells.toList[k - ((E.bo id + i) * E.sz id + off)]? else arr[k]? := by
   intro k
   rw [← harr, List.getElem?_toArray]
   by_cases k1 : k < (E.bo id + i) * E.sz id + off
   ·rw [List.append_assoc, List.getElem?_append_left (by simp; omega), List.getElem?_take, if_pos k1, if_neg (by omega), Array.getElem?_toList]
   ·by_cases k2 : k < (E.bo id + i) * E.sz id + off + (a.eval y).cells.toList.length
    ·rw [if_pos (by omega), List.append_assoc, List.getElem?_append_right (by simp; omega), List.getElem?_append_left (by simp at k2 hfit ⊢; omega)]
     congr 1; simp at hfit ⊢; omega
    ·rw [if_neg (by omega), List.getElem?_append_right (by simp at k2 hfit ⊢; omega), List.getElem?_drop, Array.getElem?_toList]
     congr 1; simp at k2 hfit ⊢; omega
  have hes : ∀ x ∈ es.set i e', x.cells.length = E.sz id := fun x hx => by
   rcases List.mem_or_eq_of_mem_set hx with h | h
   ·exact a3 x h
   ·rw [h, w2, c3]
  have hw := hr.write hlk (w' := w.setRow (E.ρ id) arr') hk c5 hob (es' := es.set i e') (by simp) hes ⟨rfl, rfl, rfl, by simp [World.setRow]⟩ (fun k hne => setRow_other w _ k _ hne) (by rw [hnl]; exact setRow_heap w _ arr arr' te _ b1) (by rw [hsz', b2]) (fun k c hkc => by
   obtain ⟨i2, j, e2, rfl, hj, he2, hc⟩ := (flat_iff hes).1 hkc
   rw [hat]
   by_cases hi2 : i2 = i
   ·subst hi2
    rw [List.getElem?_set, if_pos rfl, if_pos hi] at he2
    cases he2
    rw [w3 j] at hc
    have eadd : (E.bo id + i2) * E.sz id + j = E.bo id * E.sz id + (i2 * E.sz id + j) := by rw [Nat.add_mul]; omega
    by_cases hin : off ≤ j ∧ j < off + (y'.get s).cells.length
    ·rw [if_pos hin] at hc
     rw [if_pos (by rw [← hvs.1]; omega)]
     have hil : j - off < (a.eval y).cells.toList.length := by rw [← hvs.1]; omega
     refine ⟨(a.eval y).cells.toList[j - off], ?_, hvs.2 _ _ _ hc (by simp)⟩
     have : E.bo id * E.sz id + (i2 * E.sz id + j) - ((E.bo id + i2) * E.sz id + off) = j - off := by omega
     rw [this]; simp
    ·rw [if_neg hin] at hc
     rw [if_neg (by rw [← hvs.1]; omega)]
     exact b3 _ _ ((flat_iff a3).2 ⟨i2, j, e, rfl, hj, hel, hc⟩)
   ·rw [List.getElem?_set_ne (fun e => hi2 e.symm)] at he2
    rw [if_neg (by
     rintro ⟨k1, k2⟩
     rw [← hvs.1] at k2
     have m1 : (E.bo id + i) * E.sz id = E.bo id * E.sz id + i * E.sz id := Nat.add_mul _ _ _
     rcases Nat.lt_or_gt_of_ne hi2 with hlt | hgt
     ·have : (i2 + 1) * E.sz id ≤ i * E.sz id := Nat.mul_le_mul_right _ hlt
      rw [Nat.succ_mul] at this
      omega
     ·have : (i + 1) * E.sz id ≤ i2 * E.sz id := Nat.mul_le_mul_right _ hgt
      rw [Nat.succ_mul] at this
      omega)]
    exact b3 _ _ ((flat_iff a3).2 ⟨i2, j, e2, rfl, hj, he2, hc⟩))
  refine ⟨undef, w.setRow (E.ρ id) arr', E, .inr ⟨?_, rfl⟩, .lit _, hw.1, hw.2⟩
  have hcs : (a.eval y).cells.size = inf.size := by rw [hsize, ← hvl]; simp
  simp [execOp, ho, hyv, Instr.storeAt, Instr.sureAddr, storeVar, sizeOf, typeInfo, hinf, hcs, hrun]
end
end Go.Proofs.YtfchdbghjeophaaDoor
namespace Go.Proofs.YtfchdbghjeophaaDoor
open Go.RowKit
section
variable {lk : Nat → Bool} {P : Program} {w : World} {E : Env} {o : Oper} {a : Act} {s : List MV} {h : MHeap}
theorem flat_one (m : MV) : flat [m] = m.cells := by simp [flat]
theorem HRel.addBlock (hr : HRel E h w) {w0 : World} (hb : Below w.heap.size w w0) {es : List MV} {sz : Nat} (nl : Bool) (c : Array Value) (t : TypeId) (hes : ∀ e ∈ es, e.cells.length = sz) (hc : Vs E w (flat es) c.toList) (hn : nl = false := by rfl) :
  HRel (E.put h.length w0.heap.size 0 es.length sz 0 es.length nl) (h ++ [⟨0, nl, sz, es⟩]) (w0.alloc (.cells c t)) ∧ Ext lk E w (E.put h.length w0.heap.size 0 es.length sz 0 es.length nl) (w0.alloc (.cells c t)) := by
 subst hn
 refine hr.add (hb.alloc hb.size _) hes (Nat.le_refl _) fun _ => ⟨hb.size, c, t, World.alloc_heap_new w0 _, ?_, fun k m hk => ?_⟩
 ·have := hc.1
  rw [flat_len hes] at this
  simpa using this.symm
 ·have hl := (List.getElem?_eq_some_iff.1 hk).1
  have hl' : k < c.toList.length := hc.1 ▸ hl
  refine ⟨c.toList[k], by simp at hl' ⊢, hc.2 k m _ hk (by simp)⟩
theorem ptr_put {b cp sz ln : Nat} {w' : World} {id : Nat} (hl : 0 < ln) : V (E.put id b 0 cp sz 0 ln false) w' (.ptr id 0 0 0) (.pointer (some ⟨b, 0, none⟩)) :=
 .ptr _ _ _ _ _ _ (.inr rfl) (by simp [Env.put]) fun _ => by simp [Env.put, hl]
theorem arr_put {b cp sz n : Nat} {w' : World} {id : Nat} (hn : n ≤ cp) : V (E.put id b 0 cp sz 0 n false) w' (.arr id 0 n 0) (.slice (some ⟨b, 0, none⟩) n cp) :=
 .arr _ _ _ _ _ _ (.inr rfl) (by simp [Env.put]) fun _ => by simp [Env.put, hn]
theorem eff_nil0 {x : Operand} {sz : Nat} (ho : o.op = .assign x) (hx : isNilSlice x = true) (hr : HRel E h w) : Eff lk P o a w E (.arr h.length 0 0 0) (h ++ [⟨0, true, sz, []⟩]) := by
 have hx' : x = .const (.slice none 0 0) := by
  unfold isNilSlice at hx
  split at hx
  ·rfl
  ·cases hx
 obtain ⟨h1, h2⟩ := hr.add (Below.refl _ w) (b := 0) (cp := 0) (sz := sz) (nl := true) (es := []) (by simp) (by simp) (by simp)
 refine ⟨.slice none 0 0, w, _, .inl (by simp [execOp, ho, hx', Act.eval]), ?_, h1, h2⟩
 exact .arr _ _ _ _ _ _ (.inr rfl) (by simp [Env.put]) fun _ => by simp [Env.put]
theorem ofV_ok {v : Value} : (ofV v).cOk = true → Vs E w (ofV v).cells v.cells.toList := fun hok => by
 refine (V.ofV v).cells (fun x e => ?_) (fun e => ?_)
 ·rw [e] at hok; simp [MV.cOk] at hok
 ·rw [e] at hok; simp [MV.cOk] at hok
theorem eff_new {t : TypeId} {z : MV} (ho : o.op = .alloc t) (hz : tzero P t = some z) (hok : z.cOk = true) (hr : HRel E h w) : Eff lk P o a w E (.ptr h.length 0 0 0) (h ++ [⟨0, false, z.cells.length, [z]⟩]) := by
 unfold tzero at hz
 rw [Option.map_eq_some_iff] at hz
 obtain ⟨v, hv, rfl⟩ := hz
 obtain ⟨i, hi, hzero⟩ := Option.bind_eq_some_iff.1 hv
 obtain ⟨h1, h2⟩ := hr.addBlock (Below.refl _ w) (es := [ofV v]) (sz := (ofV v).cells.length) false v.cells t (by simp) (by rw [flat_one]; exact ofV_ok hok)
 refine ⟨.pointer (some ⟨w.heap.size, 0, none⟩), _, _, .inl ?_, ptr_put (by simp), h1, h2⟩
 simp [execOp, ho, Instr.alloc, zeroValue, typeInfo, hi, hzero, newVar, newRow]
theorem eff_box {t : TypeId} {x : Operand} {x' : MX} {sz : Nat} {v : MV} {h' : MHeap} {O : Oracle} (ho : o.op = .box t x) (hx : cX x = some x') (hs : Slots E w s a) (hr : HRel E h w) (he : evO lk O s h (.box sz x') = some (v, h')) :
  Eff lk P o a w E v h' := by
 simp only [evO] at he
 split at he
 ·rename_i hok
  simp only [Option.some.injEq, Prod.mk.injEq] at he
  obtain ⟨rfl, rfl⟩ := he
  have h1 := hs.x hx
  have h2 := h1.cells (fun u e => by rw [e] at hok; simp [MV.cOk] at hok) (fun e => by rw [e] at hok; simp [MV.cOk] at hok)
  obtain ⟨r1, r2⟩ := hr.addBlock (Below.refl _ w) (es := [x'.get s]) (sz := sz) false (a.eval x).cells t (by simpa using hok.1) (by rw [flat_one]; exact h2)
  exact ⟨.pointer (some ⟨w.heap.size, 0, none⟩), _, _, .inl (by simp [execOp, ho, Instr.box, newVar, newRow]), ptr_put (by simp), r1, r2⟩
 ·cases he
theorem fold_part {off : Nat} {ms : List MV} {cs : Array Value} {v : Value} {vm : List MV} (hms : Vs E w ms cs.toList) (hv : Vs E w vm v.cells.toList) (hl : off + vm.length ≤ ms.length) :
  Vs E w (splice ms off vm) (v.cells.zipIdx.foldl (fun cs (x : Value × Nat) => cs.setIfInBounds (off + x.2) x.1) cs).toList := by
 obtain ⟨g1, g2⟩ := Go.Great.foldl_set off v.cells.toList 0 cs
 have e : v.cells.zipIdx.foldl (fun cs (x : Value × Nat) => cs.setIfInBounds (off + x.2) x.1) cs = (v.cells.toList.zipIdx 0).foldl (fun cs (x : Value × Nat) => cs.setIfInBounds (off + x.2) x.1) cs := by
  rw [← Array.foldl_toList, Array.toList_zipIdx]
 rw [e]
 refine ⟨by rw [splice_len hl, hms.1]; simp [g1], fun k c u hk hu => ?_⟩
 rw [splice_at hl] at hk
 rw [Array.getElem?_toList, g2] at hu
 have hml := hms.1
 have hvl := hv.1
 simp only [Nat.add_zero] at hu
 by_cases hin : off ≤ k ∧ k < off + vm.length
 ·rw [if_pos hin] at hk
  rw [if_pos (by simp at hml hvl ⊢; omega)] at hu
  exact hv.2 _ c u hk hu
 ·rw [if_neg hin] at hk
  rw [if_neg (by simp at hml hvl ⊢; omega)] at hu
  exact hms.2 k c u hk (by rw [Array.getElem?_toList]; exact hu)
theorem fill_m {place : Nat → Option (Nat × Nat)} : ∀ {parts : List (Nat × Value)} {mparts : List (Nat × List MV)} {ms ms' : List MV} {cs : Array Value}, Vs E w ms cs.toList → parts.length = mparts.length →
  (∀ (i : Nat) p m, parts[i]? = some p → mparts[i]? = some m → place p.1 = some (m.1, m.2.length) ∧ Vs E w m.2 p.2.cells.toList) → fillM ms mparts = some ms' → ∃ cs', Instr.fill place cs parts = some cs' ∧ Vs E w ms' cs'.toList
 | [], [], ms, ms', cs, hms, _, _, hf => by simp [fillM] at hf; subst hf; exact ⟨cs, rfl, hms⟩
 | p :: parts, m :: mparts, ms, ms', cs, hms, hl, hp, hf => by
  obtain ⟨i, v⟩ := p
  obtain ⟨off, vm⟩ := m
  obtain ⟨h1, h2⟩ := hp 0 _ _ rfl rfl
  dsimp only at h1 h2
  simp only [fillM] at hf
  split at hf
  ·rename_i hle
   have hsz : v.cells.size = vm.length := by have := h2.1; simpa using this.symm
   have hcs : cs.size = ms.length := by have := hms.1; simpa using this.symm
   obtain ⟨cs', f1, f2⟩ := fill_m (fold_part hms h2 hle) (by simpa using hl) (fun i p m hp' hm' => hp (i + 1) p m (by simpa using hp') (by simpa using hm')) hf
   refine ⟨cs', ?_, f2⟩
   unfold Instr.fill
   simp only [h1]
   rw [if_neg (by simp [hsz, hcs]; omega)]
   exact f1
  ·cases hf
theorem mapM_all {α β : Type} {f : α → Option β} {l : List α} {l' : List β} (h : l.mapM f = some l') {i : Nat} {x : α} (hx : l[i]? = some x) : ∃ y, l'[i]? = some y ∧ f x = some y := by
 obtain ⟨h1, h2⟩ := mapM_some h
 have hi : i < l'.length := h1 ▸ (List.getElem?_eq_some_iff.1 hx).1
 exact ⟨l'[i], by simp, h2 i x _ hx (by simp)⟩
theorem cOk_cells {m : MV} {v : Value} (hv : V E w m v) (hm : m.cOk = true) : Vs E w m.cells v.cells.toList :=
 hv.cells (fun u e => by rw [e] at hm; simp [MV.cOk] at hm) (fun e => by rw [e] at hm; simp [MV.cOk] at hm)
theorem eff_build {t : TypeId} {parts : Array (Nat × Operand)} {parts' : List (Nat × Nat × MX)} {z : List MV} {pl : Nat → Option (Nat × Nat)} {v : MV} {h' : MHeap} {O : Oracle} (ho : o.op = .build t parts) (hpl : placesOf P t = some pl)
  (hz : tzero P t = some (.agg z)) (hp : parts.toList.mapM (fun p => (pl p.1).bind fun x => (cX p.2).bind fun y => some (x.1, x.2, y)) = some parts') (hs : Slots E w s a)
  (he : evO lk O s h (.build z parts') = some (v, h')) : h' = h ∧ Pure P o a w E v := by
 simp only [evO] at he
 split at he
 case h_2 => cases he
 rename_i cs hf
 split at he
 case isFalse => cases he
 rename_i hall
 simp only [Option.some.injEq, Prod.mk.injEq] at he
 obtain ⟨rfl, rfl⟩ := he
 refine ⟨rfl, ?_⟩
 unfold tzero at hz
 rw [Option.map_eq_some_iff] at hz
 obtain ⟨zv, hzv, hz⟩ := hz
 obtain ⟨inf, hinf, hzero⟩ := Option.bind_eq_some_iff.1 hzv
 have hzz : ∃ zs, zv = .agg zs ∧ z = zs.toList.map .lit := by
  cases zv <;> simp [ofV] at hz
  exact ⟨_, rfl, hz.symm⟩
 obtain ⟨zs, rfl, rfl⟩ := hzz
 have hms : Vs E w (zs.toList.map .lit) zs.toList := ⟨by simp, fun i c v hc hv => by rw [List.getElem?_map, hv] at hc; cases hc; exact .lit v⟩
 obtain ⟨hl, -⟩ := mapM_some hp
 obtain ⟨cs', k1, k2⟩ := fill_m (place := pl) (parts := (parts.map fun p => (p.1, a.eval p.2)).toList) hms (by simpa using hl) (fun i p m hp' hm => by
  rw [Array.toList_map, List.getElem?_map, Option.map_eq_some_iff] at hp'
  obtain ⟨q, hq, rfl⟩ := hp'
  rw [List.getElem?_map, Option.map_eq_some_iff] at hm
  obtain ⟨q', hq', rfl⟩ := hm
  obtain ⟨y, hy, hfy⟩ := mapM_all hp hq
  rw [hq'] at hy
  cases hy
  simp only [Option.bind_eq_some_iff, Option.some.injEq] at hfy
  obtain ⟨⟨off, n⟩, h1, x', h2, rfl⟩ := hfy
  have h3 := List.all_eq_true.1 hall _ (List.mem_of_getElem? hq')
  simp only [Bool.and_eq_true, beq_iff_eq] at h3
  dsimp only
  rw [h3.1]
  exact ⟨h1, cOk_cells (hs.x h2) h3.2⟩) hf
 have hb : P.built t (parts.map fun p => (p.1, a.eval p.2)).toList = some cs' := by
  unfold placesOf at hpl
  unfold Program.built
  rw [hinf]
  split at hpl
  ·rename_i fs hu
   rw [Option.map_eq_some_iff] at hpl
   obtain ⟨places, hpls, rfl⟩ := hpl
   simp only [hu, hzero, hpls, Value.cells]
   exact k1
  ·rename_i n e hu
   rw [Option.map_eq_some_iff] at hpl
   obtain ⟨ie, hie, rfl⟩ := hpl
   simp only [hu, hzero, hie, Value.cells]
   exact k1
  ·cases hpl
 refine ⟨.agg cs', ?_, ?_⟩
 ·have := run_build (P := P) w t (parts.map fun p => (p.1, a.eval p.2)) cs' hb
  simp [execOp, ho, this]
 ·have := V.agg (E := E) (w := w) cs cs'.toList k2.1 k2.2
  simpa using this
theorem fill_e {sz : Nat} : ∀ {parts : List (Nat × Value)} {mparts : List (Nat × MV)} {es es' : List MV} {cs : Array Value}, (∀ e ∈ es, e.cells.length = sz) → Vs E w (flat es) cs.toList → parts.length = mparts.length →
  (∀ (i : Nat) p m, parts[i]? = some p → mparts[i]? = some m → p.1 = m.1 ∧ V E w m.2 p.2) → setAtM es sz mparts = some es' →
  ∃ cs', Instr.fill (fun i => some (i * sz, sz)) cs parts = some cs' ∧ Vs E w (flat es') cs'.toList ∧ (∀ e ∈ es', e.cells.length = sz) ∧ es'.length = es.length
 | [], [], es, es', cs, hes, hms, _, _, hf => by simp [setAtM] at hf; subst hf; exact ⟨cs, rfl, hms, hes, rfl⟩
 | p :: parts, m :: mparts, es, es', cs, hes, hms, hl, hp, hf => by
  obtain ⟨i, v⟩ := p
  obtain ⟨j, vm⟩ := m
  obtain ⟨h1, h2⟩ := hp 0 _ _ rfl rfl
  dsimp only at h1 h2
  subst h1
  simp only [setAtM] at hf
  split at hf
  ·rename_i hle
   obtain ⟨hi, hvl, hok⟩ := hle
   have hv := cOk_cells h2 hok
   have hsz : v.cells.size = sz := by have := hv.1; rw [hvl] at this; simpa using this.symm
   have hcs : cs.size = es.length * sz := by have := hms.1; rw [flat_len hes] at this; simpa using this.symm
   have hle : i * sz + sz ≤ es.length * sz := by rw [← Nat.succ_mul]; exact Nat.mul_le_mul_right _ hi
   have hset : ∀ e ∈ es.set i vm, e.cells.length = sz := fun e he => by
    rcases List.mem_or_eq_of_mem_set he with h | h
    ·exact hes e h
    ·rw [h]; exact hvl
   have hsp : splice (flat es) (i * sz) vm.cells = flat (es.set i vm) := by
    apply List.ext_getElem?
    intro k
    rw [splice_at (by rw [flat_len hes, hvl]; exact hle)]
    rcases hkc : (flat (es.set i vm))[k]? with _ | c
    ·have : (flat (es.set i vm)).length ≤ k := List.getElem?_eq_none_iff.1 hkc
     rw [flat_len hset, List.length_set] at this
     rw [if_neg (by rw [hvl]; omega), List.getElem?_eq_none (by rw [flat_len hes]; exact this)]
    ·obtain ⟨i2, j2, e2, rfl, hj2, he2, hc2⟩ := (flat_iff hset).1 hkc
     by_cases e : i2 = i
     ·subst e
      rw [List.getElem?_set, if_pos rfl, if_pos hi] at he2
      cases he2
      rw [if_pos (by rw [hvl]; omega), show i2 * sz + j2 - i2 * sz = j2 by omega]
      exact hc2
     ·rw [List.getElem?_set_ne (fun e' => e e'.symm)] at he2
      rw [if_neg (by
       rw [hvl]
       rcases Nat.lt_or_gt_of_ne e with hlt | hgt
       ·have : (i2 + 1) * sz ≤ i * sz := Nat.mul_le_mul_right _ hlt
        rw [Nat.succ_mul] at this
        omega
       ·have : (i + 1) * sz ≤ i2 * sz := Nat.mul_le_mul_right _ hgt
        rw [Nat.succ_mul] at this
        omega)]
      exact (flat_iff hes).2 ⟨i2, j2, e2, rfl, hj2, he2, hc2⟩
   have hms' := fold_part (off := i * sz) hms hv (by rw [flat_len hes, hvl]; exact hle)
   rw [hsp] at hms'
   obtain ⟨cs', f1, f2, f3, f4⟩ := fill_e hset hms' (by simpa using hl) (fun i p m hp' hm' => hp (i + 1) p m (by simpa using hp') (by simpa using hm')) hf
   refine ⟨cs', ?_, f2, f3, by rw [f4, List.length_set]⟩
   unfold Instr.fill
   simp only
   rw [if_neg (by simp [hsz, hcs]; omega)]
   exact f1
  ·cases hf
theorem made_rep {z : MV} {zv : Value} {sz n : Nat} (hz : Vs E w z.cells zv.cells.toList) (hl : z.cells.length = sz) : Vs E w (flat (List.replicate n z)) (madeCells zv.cells (n * sz)).toList := by
 have hes : ∀ e ∈ List.replicate n z, e.cells.length = sz := fun e he => by rw [(List.mem_replicate.1 he).2]; exact hl
 have hzs : zv.cells.size = sz := by have := hz.1; rw [hl] at this; simpa using this.symm
 refine ⟨by rw [flat_len hes]; simp [madeCells], fun k c v hc hv => ?_⟩
 obtain ⟨i, j, e, rfl, hj, he, hcj⟩ := (flat_iff hes).1 hc
 obtain rfl : e = z := by
  have := List.mem_of_getElem? he
  exact (List.mem_replicate.1 this).2
 have hi : i < n := by have := (List.getElem?_eq_some_iff.1 he).1; simpa using this
 have hlt : i * sz + j < n * sz := by
  have : (i + 1) * sz ≤ n * sz := Nat.mul_le_mul_right _ hi
  rw [Nat.succ_mul] at this; omega
 have hmod : (i * sz + j) % sz = j := by rw [Nat.mul_comm, Nat.mul_add_mod, Nat.mod_eq_of_lt hj]
 simp only [madeCells, Array.toList_map, Array.toList_range, List.getElem?_map, List.getElem?_range hlt, Option.map_some, Option.some.injEq] at hv
 rw [hzs, hmod] at hv
 have hjl : j < zv.cells.size := hzs ▸ hj
 refine hz.2 j c v hcj ?_
 rw [← hv, Array.getElem?_toList]
 simp [hjl]
theorem eff_bsl {t e : TypeId} {len sz : Nat} {parts : Array (Nat × Operand)} {parts' : List (Nat × MX)} {z v : MV} {h' : MHeap} {O : Oracle} (ho : o.op = .buildSlice t len parts) (ht : telem P t = some e) (hsz : tsz P e = some sz) (hz : tzero P e = some z)
  (hsmall : len * sz ≤ 1000000) (hpos : 0 < sz) (hzl : z.cells.length = sz) (hok : z.cOk = true) (hp : parts.toList.mapM (fun p => (cX p.2).bind fun y => some (p.1, y)) = some parts') (hs : Slots E w s a) (hr : HRel E h w)
  (he : evO lk O s h (.bsl z sz len parts') = some (v, h')) : Eff lk P o a w E v h' := by
 simp only [evO] at he
 split at he
 case h_2 => cases he
 rename_i es hf
 simp only [Option.some.injEq, Prod.mk.injEq] at he
 obtain ⟨rfl, rfl⟩ := he
 unfold telem at ht
 split at ht
 case h_2 => cases ht
 rename_i e' hu
 cases ht
 unfold tsz at hsz
 rw [Option.map_eq_some_iff] at hsz
 obtain ⟨ie, hie, rfl⟩ := hsz
 unfold tzero at hz
 rw [Option.map_eq_some_iff] at hz
 obtain ⟨zv, hzv, rfl⟩ := hz
 obtain ⟨ie', hie', hzero⟩ := Option.bind_eq_some_iff.1 hzv
 rw [hie] at hie'
 cases hie'
 obtain ⟨hl, -⟩ := mapM_some hp
 have hrep : ∀ x ∈ List.replicate len (ofV zv), x.cells.length = ie.size := fun x hx => by rw [(List.mem_replicate.1 hx).2]; exact hzl
 obtain ⟨cs', k1, k2, k3, k4⟩ := fill_e (E := E) (w := w) (parts := (parts.map fun p => (p.1, a.eval p.2)).toList) hrep (made_rep (n := len) (ofV_ok hok) hzl) (by simpa using hl) (fun i p m hp' hm => by
  rw [Array.toList_map, List.getElem?_map, Option.map_eq_some_iff] at hp'
  obtain ⟨q, hq, rfl⟩ := hp'
  rw [List.getElem?_map, Option.map_eq_some_iff] at hm
  obtain ⟨q', hq', rfl⟩ := hm
  obtain ⟨y, hy, hfy⟩ := mapM_all hp hq
  rw [hq'] at hy
  cases hy
  simp only [Option.bind_eq_some_iff, Option.some.injEq] at hfy
  obtain ⟨x', h2, rfl⟩ := hfy
  exact ⟨rfl, hs.x h2⟩) hf
 rw [List.length_replicate] at k4
 obtain ⟨r1, r2⟩ := hr.addBlock (Below.refl _ w) (es := es) (sz := ie.size) false cs' e k3 k2
 rw [k4] at r1 r2
 refine ⟨.slice (some ⟨w.heap.size, 0, none⟩) len len, _, _, .inl ?_, arr_put (Nat.le_refl _), r1, r2⟩
 by_cases h0 : len * ie.size = 0
 ·obtain rfl : len = 0 := by
   rcases Nat.mul_eq_zero.1 h0 with h | h
   ·exact h
   ·omega
  have hr0 : Array.range 0 = #[] := rfl
  simp [madeCells, hr0] at k1
  simp [execOp, ho, Instr.buildSlice, run_underlying hu, sizeOf, typeInfo, hie, newRow, hr0, k1]
 ·have := run_buildSlice (P := P) w t e len (parts.map fun (p : Nat × Operand) => (p.1, a.eval p.2)) cs' ie zv hu hie hzero (by omega) h0 (by unfold madeCells at k1; exact k1)
  simp [execOp, ho, this]
theorem eff_mks {t e : TypeId} {ie : TypeInfo} {l c : Operand} {l' : MX} {z v : MV} {h' : MHeap} {O : Oracle} (ho : o.op = .makeSlice t l c) (ht : telem P t = some e) (hie : P.info? e = some ie) (hlc : sameX l c = true) (hz : tzero P e = some z)
  (hby : ie.bytes ≤ 100000) (_hpos : 0 < ie.size) (hzl : z.cells.length = ie.size) (hok : z.cOk = true) (hl : cX l = some l') (hs : Slots E w s a) (hr : HRel E h w)
  (he : evO lk O s h (.mks z l') = some (v, h')) : Eff lk P o a w E v h' := by
 have h1 := hs.x hl
 simp only [evO] at he
 split at he
 case h_2 => cases he
 rename_i n hn
 split at he
 case isFalse => cases he
 rename_i hb
 simp only [Option.some.injEq, Prod.mk.injEq] at he
 obtain ⟨rfl, rfl⟩ := he
 rw [hn] at h1
 have hv := h1.lit_eq
 have hc : a.eval c = a.eval l := by
  unfold sameX at hlc
  split at hlc
  ·simp at hlc; subst hlc; rfl
  ·simp at hlc; subst hlc; rfl
  ·cases hlc
 unfold telem at ht
 split at ht
 case h_2 => cases ht
 rename_i e' hu
 cases ht
 unfold tzero at hz
 rw [Option.map_eq_some_iff] at hz
 obtain ⟨zv, hzv, rfl⟩ := hz
 obtain ⟨ie', hie', hzero⟩ := Option.bind_eq_some_iff.1 hzv
 rw [hie] at hie'
 cases hie'
 have hbytes : (ie.bytes : Int) * n ≤ 281474976710656 := by
  have : (ie.bytes : Int) * n ≤ 100000 * 1000000 := Int.mul_le_mul (by omega) hb.2 hb.1 (by omega)
  omega
 have hrun := run_make (P := P) w t e ie zv hu hie hzero .i64 .i64 n n hb.1 (Int.le_refl _) hbytes (by omega)
 have hrep : ∀ x ∈ List.replicate n.toNat (ofV zv), x.cells.length = ie.size := fun x hx => by rw [(List.mem_replicate.1 hx).2]; exact hzl
 obtain ⟨r1, r2⟩ := hr.addBlock (Below.refl _ w) (es := List.replicate n.toNat (ofV zv)) (sz := ie.size) false (madeCells zv.cells (n.toNat * ie.size)) e hrep (made_rep (ofV_ok hok) hzl)
 rw [List.length_replicate] at r1 r2
 rw [hzl]
 refine ⟨.slice (some ⟨w.heap.size, 0, none⟩) n.toNat n.toNat, _, _, .inl ?_, arr_put (Nat.le_refl _), r1, r2⟩
 simp [execOp, ho, hv, hc, hrun]
end
end Go.Proofs.YtfchdbghjeophaaDoor

/- Strings as bytes: what the conversion lays. -/
namespace Go.Proofs.YtfchdbghjeophaaDoor
open Go.RowKit
def byteV (b : UInt8) : Value := Value.int .u8 b.toNat
theorem shape_new (w : World) (cs : Array Value) (e : TypeId) : (w.alloc (.cells cs e)).shape? w.heap.size = some (e, cs.size) := by
 unfold World.shape?
 rw [World.alloc_heap_new]
theorem run_s2b (P : Program) (w : World) (e : TypeId) (s : ByteArray) : ∃ cap w', (Conv.stringToBytes e s).run P w = .ok (.slice (some ⟨w.heap.size, 0, none⟩) s.size cap) w' ∧ s.size ≤ cap ∧ Below w.heap.size w w' ∧
  ∃ fz, w'.heap[w.heap.size]? = some (.cells (s.data.map byteV ++ Array.replicate (cap - s.size) (Value.int .u8 0)) e fz) := by
 obtain ⟨cap, hc⟩ : ∃ cap, cap = (Question.appendCap s.size 0 e).cut (w.tape w.drawn (.appendCap s.size 0 e)) := ⟨_, rfl⟩
 have hle : s.size ≤ cap := by rw [hc]; simp only [Question.cut]; omega
 obtain ⟨cs, hcs⟩ : ∃ cs, cs = s.data.map byteV ++ Array.replicate (cap - s.size) (Value.int .u8 0) := ⟨_, rfl⟩
 have hsh : (w.drew.alloc (.cells cs e)).shape? w.heap.size = some (e, cs.size) := shape_new w.drew cs e
 have hrun : (Conv.stringToBytes e s).run P w = .ok (.slice (some ⟨w.heap.size, 0, none⟩) s.size cap) ((w.drew.alloc (.cells cs e)).freeze ⟨w.heap.size, cs.size, none⟩ 1) := by
  unfold Conv.stringToBytes
  simp only [Sem.run_bind, run_choose_drew, Question.forced, Bool.false_eq_true, if_false, Result.andThen_ok, ← hc]
  have e1 : (s.data.map fun b => Value.int .u8 (b.toNat : Int)) ++ Array.replicate (cap - s.size) (Value.int .u8 0) = cs := hcs.symm
  simp only [e1]
  simp [newRow, markStringish, hsh]
 refine ⟨cap, _, hrun, hle, ?_, ?_⟩
 ·exact Go.Lib.below_freeze (((Below.refl _ w).drew).alloc (Nat.le_refl _) _) (Nat.le_refl _) _
 ·have hnew : (w.drew.alloc (.cells cs e)).heap[w.heap.size]? = some (.cells cs e) := World.alloc_heap_new w.drew _
  rw [← hcs]
  unfold World.freeze
  simp only [Nat.one_ne_zero, if_false, Array.getElem?_modify, if_true, hnew, Option.map_some]
  exact ⟨_, rfl⟩
theorem HRel.addS {lk : Nat → Bool} {E : Env} {h : MHeap} {w w' : World} (hr : HRel E h w) (hb : Below w.heap.size w w') (hlt : w.heap.size < w'.heap.size) :
  HRel { E with S := fun b => E.S b ∨ b = w.heap.size } h w' ∧ Ext lk E w { E with S := fun b => E.S b ∨ b = w.heap.size } w' := by
 have hx : Ext lk E w { E with S := fun b => E.S b ∨ b = w.heap.size } w' :=
  { os := hb.os, tape := hb.tape, output := hb.output, size := hb.size, keep := fun k hk _ => hb.block k hk, S := fun b h => .inl h, K := fun id h => h, old := fun id _ => ⟨Nat.le_refl _, fun _ => ⟨rfl, rfl, rfl, rfl, rfl, rfl⟩⟩, lock := fun _ _ _ => rfl, src := fun id hk hc => .inl ⟨hk, hc, rfl⟩, top := rfl, srcK := fun id h => .inl h, yl := rfl, srcS := fun b h => h.imp_right fun e => .inr (Nat.le_of_eq e.symm) }
 refine ⟨⟨hr.klt, hr.top, fun id hk => ?_, hr.inj, fun id hk hc hS => ?_, fun b hS => ?_, fun p hp => (hr.tab p hp).ext hr hx⟩, hx⟩
 ·obtain ⟨es, a1, a2, a3, a4, a5⟩ := hr.obj id hk
  refine ⟨es, a1, a2, a3, a4, fun hc => ?_⟩
  obtain ⟨arr, t, b1, b2, b3⟩ := a5 hc
  refine ⟨arr, t, ?_, b2, fun k c hkc => ?_⟩
  ·rw [hb.block _ (hr.lt hk hc)]; exact b1
  ·obtain ⟨v, c1, c2⟩ := b3 k c hkc
   exact ⟨v, c1, c2.ext hr hx⟩
 ·rcases hS with hS | hS
  ·exact hr.sep id hk hc hS
  ·have h1 := hr.lt (id := id) hk hc
   have h2 : E.ρ id = w.heap.size := hS
   omega
 ·rcases hS with hS | hS
  ·exact Nat.lt_of_lt_of_le (hr.slt b hS) hb.size
  ·rw [hS]; exact hlt
section
variable {lk : Nat → Bool} {P : Program} {w : World} {E : Env} {o : Oper} {a : Act} {s : List MV} {h : MHeap}
theorem eff_s2b {src t e : TypeId} {x : Operand} {x' : MX} {v : MV} {h' : MHeap} {O : Oracle} (ho : o.op = .convert src t x) (hsrc : P.underlying src = some .string) (ht : P.underlying t = some (.slice e)) (he8 : P.underlying e = some (.int .u8)) (hx : cX x = some x') (hs : Slots E w s a) (hr : HRel E h w)
  (he : evO lk O s h (.s2b x') = some (v, h')) : Eff lk P o a w E v h' := by
 have h1 := hs.x hx
 simp only [evO] at he
 split at he
 case h_2 => cases he
 rename_i b hb
 simp only [Option.some.injEq, Prod.mk.injEq] at he
 obtain ⟨rfl, rfl⟩ := he
 rw [hb] at h1
 have h2 := h1.lit_eq
 obtain ⟨cap, w', hrun, hle, hbel, fz, hnew⟩ := run_s2b P w e b
 have hlt : w.heap.size < w'.heap.size := (Array.getElem?_eq_some_iff.1 hnew).1
 obtain ⟨r1, r2⟩ := hr.addS (lk := lk) hbel hlt
 refine ⟨.slice (some ⟨w.heap.size, 0, none⟩) b.size cap, w', _, .inl (by simp [execOp, ho, h2, convert, run_underlying hsrc, run_underlying ht, run_underlying he8, hrun]), ?_, r1, r2⟩
 have hf : flat (b.data.toList.map fun c => MV.lit (.int .u8 c.toNat)) = b.data.toList.map fun c => MV.lit (.int .u8 c.toNat) := by
  unfold flat
  induction b.data.toList with
  | nil => rfl
  | cons c l ih => simp only [List.map_cons, List.flatMap_cons, ih]; rfl
 have hlen : (b.data.toList.map fun c => MV.lit (.int .u8 c.toNat)).length = b.size := by rw [List.length_map, Array.length_toList]; rfl
 have := V.sl (E := { E with S := fun b => E.S b ∨ b = w.heap.size }) (w := w') (b.data.toList.map fun c => MV.lit (.int .u8 c.toNat)) (b.data.toList.map byteV) (some ⟨w.heap.size, 0, none⟩) cap 1 (by rw [hlen]; exact hle) (fun m hm => by
   obtain ⟨c, _, rfl⟩ := List.mem_map.1 hm; rfl) (by rw [hf]; simp) (fun i c u hc hu => by
   rw [hf, List.getElem?_map, Option.map_eq_some_iff] at hc
   obtain ⟨d, hd, rfl⟩ := hc
   rw [List.getElem?_map, hd] at hu
   simp only [Option.map_some, Option.some.injEq] at hu
   subst hu
   exact .lit _) fun _ => ⟨w.heap.size, 0, rfl, .inr rfl, fun i u hu => by
    rw [Nat.zero_add]
    have hi := (List.getElem?_eq_some_iff.1 hu).1
    simp only [List.length_map, Array.length_toList] at hi
    rw [List.getElem?_map, Option.map_eq_some_iff] at hu
    obtain ⟨c, hc, rfl⟩ := hu
    have hc' : b.data[i]? = some c := by rw [← Array.getElem?_toList]; exact hc
    rw [cell_of_row w' w.heap.size i _ e fz hnew, Array.getElem?_append_left (by rw [Array.size_map]; exact hi), Array.getElem?_map, hc']
    rfl⟩
 rw [hlen] at this
 exact this
end
end Go.Proofs.YtfchdbghjeophaaDoor

/- What the small language computes is what the program computes: comparisons, places. -/
namespace Go.Proofs.YtfchdbghjeophaaDoor
open Go.RowKit
section
variable {P : Program} {w : World} {E : Env} {o : Oper} {a : Act} {s : List MV} {h : MHeap}
theorem run_binI {op : BinOp} {k : IntKind} {x y : Int} {v : Value} (t : TypeId) (he : binI op k x y = some v) : (binOp op t (.int k x) (.int k y)).run P w = .ok v w := by
 cases op <;> simp [binI] at he <;> first
  | (subst he; simp [binOp, Op.intArith, Op.intCmp]; done)
  | (subst he; simp [binOp, Op.intBits]; done)
  | (obtain ⟨h0, rfl⟩ := he; simp [binOp, Op.intDiv, h0])
theorem run_eqGuard_int {op : BinOp} {t : TypeId} {x y : Operand} {k k' : IntKind} {u v : Int} : (eqGuard op t x y (.int k u) (.int k' v)).run P w = .ok () w := by
 cases op <;> simp [eqGuard]
theorem pure_bin {op : BinOp} {t yt : TypeId} {x y : Operand} {x' y' : MX} {v : MV} {h' : MHeap} {lk : Nat → Bool} {O : Oracle} (ho : o.op = .binOp op t x y yt) (hx : cX x = some x') (hy : cX y = some y') (hs : Slots E w s a)
  (he : evO lk O s h (.bin op x' y') = some (v, h')) : h' = h ∧ Pure P o a w E v := by
 have h1 := hs.x hx
 have h2 := hs.x hy
 simp only [evO] at he
 split at he
 case h_2 => cases he
 rename_i k u k' u' e1 e2
 split at he
 case isFalse => cases he
 rename_i hk
 subst hk
 rw [Option.map_eq_some_iff] at he
 obtain ⟨c, hc, he⟩ := he
 simp only [Prod.mk.injEq] at he
 obtain ⟨rfl, rfl⟩ := he
 rw [e1] at h1
 rw [e2] at h2
 exact ⟨rfl, c, by simp [execOp, ho, h1.lit_eq, h2.lit_eq, run_eqGuard_int, run_binI t hc], .lit _⟩
theorem run_beq {t : TypeId} {x y : Operand} {neg : Bool} {u v : Bool} (ht : P.underlying t = some .bool) : ((do eqGuard (if neg then .neq else .eql) t x y (.bool u) (.bool v); binOp (if neg then .neq else .eql) t (.bool u) (.bool v)) : Sem Value).run P w = .ok (.bool (negIf neg (u == v))) w := by
 cases neg <;> simp [eqGuard, binOp, Op.equal, Op.maxDepth, run_equalIn_bool' w 9999 t u v ht, negIf]
theorem pure_beq {neg : Bool} {t yt : TypeId} {x y : Operand} {x' y' : MX} {v : MV} {h' : MHeap} {lk : Nat → Bool} {O : Oracle} (ho : o.op = .binOp (if neg then .neq else .eql) t x y yt) (ht : P.underlying t = some .bool) (hx : cX x = some x') (hy : cX y = some y') (hs : Slots E w s a)
  (he : evO lk O s h (.beq neg x' y') = some (v, h')) : h' = h ∧ Pure P o a w E v := by
 have h1 := hs.x hx
 have h2 := hs.x hy
 simp only [evO] at he
 split at he
 case h_2 => cases he
 rename_i u u' e1 e2
 simp only [Option.some.injEq, Prod.mk.injEq] at he
 obtain ⟨rfl, rfl⟩ := he
 rw [e1] at h1
 rw [e2] at h2
 refine ⟨rfl, _, ?_, .lit _⟩
 have := run_beq (P := P) (w := w) (x := x) (y := y) (neg := neg) (u := u) (v := u') ht
 simp only [execOp, ho, h1.lit_eq, h2.lit_eq]
 rw [Sem.run_bind, this]
 rfl
theorem run_seq {t : TypeId} {x y : Operand} {neg : Bool} {u v : ByteArray} : ((do eqGuard (if neg then .neq else .eql) t x y (.string u) (.string v); binOp (if neg then .neq else .eql) t (.string u) (.string v)) : Sem Value).run P w = .ok (.bool (negIf neg (u == v))) w := by
 cases neg
 ·simp [eqGuard, binOp, Op.stringOp, negIf, (beq_toListBytes u v).symm]
 ·simp [eqGuard, binOp, Op.stringOp, negIf, (beq_toListBytes u v).symm]
theorem pure_seq {neg : Bool} {t yt : TypeId} {x y : Operand} {x' y' : MX} {v : MV} {h' : MHeap} {lk : Nat → Bool} {O : Oracle} (ho : o.op = .binOp (if neg then .neq else .eql) t x y yt) (hx : cX x = some x') (hy : cX y = some y') (hs : Slots E w s a)
  (he : evO lk O s h (.seq neg x' y') = some (v, h')) : h' = h ∧ Pure P o a w E v := by
 have h1 := hs.x hx
 have h2 := hs.x hy
 simp only [evO] at he
 split at he
 case h_2 => cases he
 rename_i u u' e1 e2
 simp only [Option.some.injEq, Prod.mk.injEq] at he
 obtain ⟨rfl, rfl⟩ := he
 rw [e1] at h1
 rw [e2] at h2
 refine ⟨rfl, _, ?_, .lit _⟩
 have := run_seq (P := P) (w := w) (t := t) (x := x) (y := y) (neg := neg) (u := u) (v := u')
 simp only [execOp, ho, h1.lit_eq, h2.lit_eq]
 rw [Sem.run_bind, this]
 rfl
theorem run_eqFields {d : Nat} {xs ys : Array Value} : ∀ {fs : List Field} {i : Nat} {ps qs : List MV} {b : Bool}, intFields P i fs = true → ps.length = fs.length → litEq ps qs = some b → Vs E w ps (xs.toList.drop i) → Vs E w qs (ys.toList.drop i) →
  (Op.eqFields (d + 1) xs ys fs).run P w = .ok b w
 | [], i, ps, qs, b, _, hl, he, _, _ => by
  have : ps = [] := by simpa using hl
  subst this
  cases qs with
  | nil => simp [litEq] at he; subst he; simp [Op.eqFields]
  | cons q qs => simp [litEq] at he
 | f :: fs, i, ps, qs, b, hf, hl, he, hp, hq => by
  cases ps with
  | nil => simp at hl
  | cons p ps =>
   simp only [intFields, Bool.and_eq_true, beq_iff_eq, bne_iff_ne] at hf
   obtain ⟨⟨⟨f1, f2⟩, f3⟩, f4⟩ := hf
   cases qs with
   | nil => cases p <;> simp [litEq] at he
   | cons q qs =>
    unfold litEq at he
    split at he <;> try (cases he; done)
    ·rename_i e _; cases e
    rename_i k u ps' k' v qs' e1 e2
    simp only [List.cons.injEq] at e1 e2
    obtain ⟨rfl, rfl⟩ := e1
    obtain ⟨rfl, rfl⟩ := e2
    split at he
    case isFalse => cases he
    rename_i hk
    subst hk
    rw [Option.map_eq_some_iff] at he
    obtain ⟨r, hr, rfl⟩ := he
    have hxl : 0 < (xs.toList.drop i).length := by rw [← hp.1]; simp
    have hyl : 0 < (ys.toList.drop i).length := by rw [← hq.1]; simp
    have hx0 := (hp.2 0 _ _ rfl (List.getElem?_eq_getElem hxl)).lit_eq
    have hy0 := (hq.2 0 _ _ rfl (List.getElem?_eq_getElem hyl)).lit_eq
    rw [List.getElem_drop] at hx0 hy0
    simp only [Nat.add_zero, Array.getElem_toList] at hx0 hy0
    have hxi : i < xs.size := by simp at hxl; omega
    have hyi : i < ys.size := by simp at hyl; omega
    have gx : xs[i]? = some (.int k u) := by rw [Array.getElem?_eq_getElem hxi, hx0]
    have gy : ys[i]? = some (.int k v) := by rw [Array.getElem?_eq_getElem hyi, hy0]
    have hu : ∃ kk, P.underlying f.type = some (.int kk) := by
     split at f3
     ·rename_i kk hh; exact ⟨kk, hh⟩
     ·cases f3
    obtain ⟨kk, hu⟩ := hu
    have hag : (isAgg f.type).run P w = .ok false w := run_isAgg hu rfl w
    have tl : ∀ {l : List Value} {ms : List MV} {m : MV}, Vs E w (m :: ms) (l.drop i) → Vs E w ms (l.drop (i + 1)) := fun {l ms m} hv =>
     ⟨by have := hv.1; simp at this ⊢; omega, fun j c x hc hx => hv.2 (j + 1) c x (by simpa using hc) (by rw [List.getElem?_drop] at hx ⊢; rw [← hx]; congr 1; omega)⟩
    have ih := run_eqFields (d := d) f4 (by simpa using hl) hr (tl hp) (tl hq)
    have hne : ¬ f.name = "_" := f2
    simp only [Op.eqFields, hne, not_false_eq_true, if_true, ne_eq]
    simp [part, f1, hag, gx, gy, run_equalIn_int w d f.type k kk u v hu]
    by_cases huv : u = v
    ·subst huv; simp [ih]
    ·simp [huv]
theorem litEqK_len : ∀ {ks : List Nat} {ps qs : List MV} {b : Bool}, litEqK ks ps qs = some b → ps.length = ks.length ∧ qs.length = ks.length := by
 intro ks
 induction ks with
 | nil =>
  intro ps qs b h
  unfold litEqK at h
  split at h <;> simp_all
 | cons k ks ih =>
  intro ps qs b h
  unfold litEqK at h
  split at h <;> try (cases h; done)
  ·exact absurd (by assumption : k :: ks = []) (by simp)
  ·rename_i e; cases e
   split at h
   case isFalse => cases h
   rw [Option.map_eq_some_iff] at h
   obtain ⟨r, hr, -⟩ := h
   have := ih hr
   simp [this.1, this.2]
  ·rename_i e; cases e
   rw [Option.map_eq_some_iff] at h
   obtain ⟨r, hr, -⟩ := h
   have := ih hr
   simp [this.1, this.2]
  ·rename_i e; cases e
   rw [Option.map_eq_some_iff] at h
   obtain ⟨r, hr, -⟩ := h
   have := ih hr
   simp [this.1, this.2]
theorem litEqK_split : ∀ {a c : List Nat} {ps qs : List MV} {b : Bool}, litEqK (a ++ c) ps qs = some b → ∃ r1 r2, litEqK a (ps.take a.length) (qs.take a.length) = some r1 ∧ litEqK c (ps.drop a.length) (qs.drop a.length) = some r2 ∧ b = (r1 && r2) := by
 intro a
 induction a with
 | nil => intro c ps qs b h; exact ⟨true, b, by simp [litEqK], by simpa using h, by simp⟩
 | cons k a ih =>
  intro c ps qs b h
  rw [List.cons_append] at h
  unfold litEqK at h
  split at h <;> try (cases h; done)
  ·exact absurd (by assumption : k :: (a ++ c) = []) (by simp)
  ·rename_i e; cases e
   split at h
   case isFalse => cases h
   rename_i hk
   rw [Option.map_eq_some_iff] at h
   obtain ⟨r, hr, rfl⟩ := h
   obtain ⟨r1, r2, h1, h2, rfl⟩ := ih hr
   refine ⟨_, r2, ?_, by simpa using h2, (Bool.and_assoc _ _ _).symm⟩
   simp [litEqK, hk, h1]
  ·rename_i e; cases e
   rw [Option.map_eq_some_iff] at h
   obtain ⟨r, hr, rfl⟩ := h
   obtain ⟨r1, r2, h1, h2, rfl⟩ := ih hr
   refine ⟨_, r2, ?_, by simpa using h2, (Bool.and_assoc _ _ _).symm⟩
   simp [litEqK, h1]
  ·rename_i e; cases e
   rw [Option.map_eq_some_iff] at h
   obtain ⟨r, hr, rfl⟩ := h
   obtain ⟨r1, r2, h1, h2, rfl⟩ := ih hr
   refine ⟨_, r2, ?_, by simpa using h2, (Bool.and_assoc _ _ _).symm⟩
   simp [litEqK, h1]
theorem litEqK_one {k : Nat} {ps qs : List MV} {b : Bool} (h : litEqK [k] ps qs = some b) : (k = 0 ∧ ∃ q u v, ps = [.lit (.int q u)] ∧ qs = [.lit (.int q v)] ∧ b = (u == v)) ∨ (k = 1 ∧ ∃ u v, ps = [.lit (.string u)] ∧ qs = [.lit (.string v)] ∧ b = (u == v)) ∨ (k = 2 ∧ ∃ u v, ps = [.lit (.bool u)] ∧ qs = [.lit (.bool v)] ∧ b = (u == v)) := by
 have nil : ∀ {ps qs : List MV} {r : Bool}, litEqK [] ps qs = some r → ps = [] ∧ qs = [] ∧ r = true := fun {ps qs r} h => by
  unfold litEqK at h
  split at h <;> simp_all
 unfold litEqK at h
 split at h <;> try (cases h; done)
 ·exact absurd (by assumption : [k] = []) (by simp)
 ·rename_i e; cases e
  split at h
  case isFalse => cases h
  rename_i hk
  subst hk
  rw [Option.map_eq_some_iff] at h
  obtain ⟨r, hr, rfl⟩ := h
  obtain ⟨rfl, rfl, rfl⟩ := nil hr
  exact .inl ⟨rfl, _, _, _, rfl, rfl, by simp⟩
 ·rename_i e; cases e
  rw [Option.map_eq_some_iff] at h
  obtain ⟨r, hr, rfl⟩ := h
  obtain ⟨rfl, rfl, rfl⟩ := nil hr
  exact .inr (.inl ⟨rfl, _, _, rfl, rfl, by simp⟩)
 ·rename_i e; cases e
  rw [Option.map_eq_some_iff] at h
  obtain ⟨r, hr, rfl⟩ := h
  obtain ⟨rfl, rfl, rfl⟩ := nil hr
  exact .inr (.inr ⟨rfl, _, _, rfl, rfl, by simp⟩)
def valT (P : Program) (t : TypeId) (us : List Value) : Value :=
 match P.underlying t with
 | some (.struct _) => .agg us.toArray
 | _ => us.headD undef
theorem Vs.single {m : MV} {us : List Value} (h : Vs E w [m] us) : ∃ u, us = [u] ∧ V E w m u := by
 obtain ⟨u, us', rfl, h1, h2⟩ := h.uncons
 obtain rfl : us' = [] := List.length_eq_zero_iff.1 h2.1.symm
 exact ⟨u, rfl, h1⟩
theorem Vs.takeN {ms : List MV} {us : List Value} (h : Vs E w ms us) (n : Nat) : Vs E w (ms.take n) (us.take n) :=
 ⟨by rw [List.length_take, List.length_take, h.1], fun i c v hc hv => by
  rw [List.getElem?_take] at hc hv
  split at hc
  ·rename_i hi
   rw [if_pos hi] at hv
   exact h.2 i c v hc hv
  ·cases hc⟩
theorem Vs.dropN {ms : List MV} {us : List Value} (h : Vs E w ms us) (n : Nat) : Vs E w (ms.drop n) (us.drop n) :=
 ⟨by rw [List.length_drop, List.length_drop, h.1], fun i c v hc hv => by
  rw [List.getElem?_drop] at hc hv
  exact h.2 (n + i) c v hc hv⟩
theorem run_partK {t : TypeId} {ks : List Nat} {xs : Array Value} {i : Nat} (hz : szOk P t ks.length = true) (hk : ∃ m, kindsT P m t = some ks) (hl : i + ks.length ≤ xs.size) : (part t xs i).run P w = .ok (valT P t ((xs.toList.drop i).take ks.length)) w := by
 obtain ⟨m, hm⟩ := hk
 cases m with
 | zero => cases hm
 | succ m =>
  unfold kindsT at hm
  unfold szOk at hz
  rw [Bool.and_eq_true] at hz
  replace hz := hz.2
  cases hu : P.underlying t with
  | none => rw [hu] at hm; cases hm
  | some d =>
   rw [hu] at hm hz
   have scal : isAggD d = false → ks.length = 1 → (∀ fs, d ≠ .struct fs) → (part t xs i).run P w = .ok (valT P t ((xs.toList.drop i).take ks.length)) w := fun h1 h2 h3 => by
    rw [h2] at hl
    have hlt : i < xs.size := by omega
    have hd : valT P t ((xs.toList.drop i).take ks.length) = xs[i] := by
     unfold valT
     rw [hu, h2]
     have e : (xs.toList.drop i).take 1 = [xs[i]] := by
      rw [List.drop_eq_getElem_cons (by simpa using hlt)]; simp
     rw [e]
     cases d <;> first | rfl | exact absurd rfl (h3 _)
    rw [hd]
    simp [part, run_isAgg hu h1, hlt]
   cases d <;> dsimp only at hm hz <;> try (cases hm; done)
   ·cases hm; exact scal rfl rfl (fun fs h => by cases h)
   ·cases hm; exact scal rfl rfl (fun fs h => by cases h)
   ·cases hm; exact scal rfl rfl (fun fs h => by cases h)
   ·split at hz
    case h_2 => cases hz
    rename_i inf hi
    have hs : inf.size = ks.length := by simpa using hz
    have e : valT P t ((xs.toList.drop i).take ks.length) = .agg (xs.extract i (i + ks.length)) := by
     unfold valT
     rw [hu]
     simp only [Value.agg.injEq]
     apply Array.toList_inj.1
     rw [Array.toList_extract, List.extract_eq_take_drop, Nat.add_sub_cancel_left]
    rw [e]
    simp [part, run_isAgg (b := true) hu rfl, sizeOf, typeInfo, hi, hs]
theorem run_eqFieldsK {d m : Nat} (IH : ∀ (t : TypeId) (ks : List Nat) (ps qs : List MV) (us vs : List Value) (b : Bool), kindsT P m t = some ks → litEqK ks ps qs = some b → Vs E w ps us → Vs E w qs vs → (Op.equalIn d t (valT P t us) (valT P t vs)).run P w = .ok b w) {xs ys : Array Value} :
  ∀ (fs : List Field) (i : Nat) (ks : List Nat) (ps qs : List MV) (b : Bool), kindsF P (kindsT P m) i fs = some ks → litEqK ks ps qs = some b → Vs E w ps (xs.toList.drop i) → Vs E w qs (ys.toList.drop i) → (Op.eqFields d xs ys fs).run P w = .ok b w
 | [], i, ks, ps, qs, b, hk, he, _, _ => by
  simp only [kindsF, Option.some.injEq] at hk
  subst hk
  unfold litEqK at he
  split at he <;> simp_all [Op.eqFields]
 | f :: fs, i, ks, ps, qs, b, hk, he, hp, hq => by
  unfold kindsF at hk
  split at hk
  case isFalse => cases hk
  rename_i hf
  obtain ⟨f1, f2⟩ := hf
  split at hk
  case h_2 => cases hk
  rename_i a ha
  split at hk
  case isFalse => cases hk
  rename_i hz
  rw [Option.map_eq_some_iff] at hk
  obtain ⟨c, hc, rfl⟩ := hk
  obtain ⟨l1, l2⟩ := litEqK_len he
  obtain ⟨r1, r2, e1, e2, rfl⟩ := litEqK_split he
  rw [List.length_append] at l1 l2
  have ha0 : a.length ≠ 0 := by
   have := hz
   unfold szOk at this
   rw [Bool.and_eq_true] at this
   simpa using this.1
  have hlx : i + a.length ≤ xs.size := by
   have := hp.1
   simp only [List.length_drop, Array.length_toList] at this
   omega
  have hly : i + a.length ≤ ys.size := by
   have := hq.1
   simp only [List.length_drop, Array.length_toList] at this
   omega
  have hx := run_partK (w := w) hz ⟨m, ha⟩ hlx
  have hy := run_partK (w := w) hz ⟨m, ha⟩ hly
  have h1 := IH f.type a _ _ _ _ r1 ha e1 (hp.takeN a.length) (hq.takeN a.length)
  have h2 := run_eqFieldsK IH fs (i + a.length) c _ _ r2 hc e2 (by have := hp.dropN a.length; rwa [List.drop_drop] at this) (by have := hq.dropN a.length; rwa [List.drop_drop] at this)
  have hne : ¬ f.name = "_" := f2
  simp only [Op.eqFields, hne, not_false_eq_true, if_true, ne_eq]
  cases r1 <;> simp [f1, hx, hy, h1, h2]
theorem run_eqK : ∀ (m e : Nat) (t : TypeId) (ks : List Nat) (ps qs : List MV) (us vs : List Value) (b : Bool), kindsT P m t = some ks → litEqK ks ps qs = some b → Vs E w ps us → Vs E w qs vs → (Op.equalIn (m + e) t (valT P t us) (valT P t vs)).run P w = .ok b w
 | 0, e, t, ks, ps, qs, us, vs, b, hk, _, _, _ => by cases hk
 | m + 1, e, t, ks, ps, qs, us, vs, b, hk, he, hp, hq => by
  rw [show m + 1 + e = (m + e) + 1 by omega]
  unfold kindsT at hk
  cases hu : P.underlying t with
  | none => rw [hu] at hk; cases hk
  | some d =>
   rw [hu] at hk
   cases d <;> dsimp only at hk <;> try (cases hk; done)
   ·cases hk
    rcases litEqK_one he with ⟨h, _⟩ | ⟨h, _⟩ | ⟨_, u, v, rfl, rfl, rfl⟩
    ·cases h
    ·cases h
    ·obtain ⟨x, rfl, hx⟩ := hp.single
     obtain ⟨y, rfl, hy⟩ := hq.single
     rw [hx.lit_eq, hy.lit_eq]
     simp [valT, hu, run_equalIn_bool' w (m + e) t u v hu]
   ·cases hk
    rcases litEqK_one he with ⟨_, q, u, v, rfl, rfl, rfl⟩ | ⟨h, _⟩ | ⟨h, _⟩
    ·obtain ⟨x, rfl, hx⟩ := hp.single
     obtain ⟨y, rfl, hy⟩ := hq.single
     rw [hx.lit_eq, hy.lit_eq]
     simp [valT, hu, run_equalIn_int w (m + e) t q _ u v hu]
    ·cases h
    ·cases h
   ·cases hk
    rcases litEqK_one he with ⟨h, _⟩ | ⟨_, u, v, rfl, rfl, rfl⟩ | ⟨h, _⟩
    ·cases h
    ·obtain ⟨x, rfl, hx⟩ := hp.single
     obtain ⟨y, rfl, hy⟩ := hq.single
     rw [hx.lit_eq, hy.lit_eq]
     simp [valT, hu, run_equalIn_string w (m + e) t u v hu, beq_toListBytes]
    ·cases h
   ·split at hk
    case isFalse => cases hk
    rename_i fs hst
    have hfo : P.fieldsOf t = fs := by simp [Program.fieldsOf, hu]
    have h3 := run_equalIn_struct (P := P) w (m + e) t us.toArray vs.toArray (by rw [hfo]; exact hu) hst
    rw [hfo] at h3
    have hv : ∀ l : List Value, valT P t l = .agg l.toArray := fun l => by unfold valT; rw [hu]
    rw [hv, hv, h3]
    exact run_eqFieldsK (fun t ks ps qs us vs b k1 k2 k3 k4 => run_eqK m e t ks ps qs us vs b k1 k2 k3 k4) fs.toList 0 ks ps qs b hk he (by simpa using hp) (by simpa using hq)
theorem pure_eqa {neg : Bool} {t yt : TypeId} {fs : Array Field} {x y : Operand} {x' y' : MX} {c : Nat} {v : MV} {h' : MHeap} {lk : Nat → Bool} {O : Oracle} (ho : o.op = .binOp (if neg then .neq else .eql) t x y yt) (ht : P.underlying t = some (.struct fs)) (hm : eqaO P t = some c) (hx : cX x = some x') (hy : cX y = some y') (hs : Slots E w s a)
  (he : evO lk O s h (.eqa c neg x' y') = some (v, h')) : h' = h ∧ Pure P o a w E v := by
 have h1 := hs.x hx
 have h2 := hs.x hy
 unfold eqaO at hm
 split at hm
 case h_2 => cases hm
 rename_i ks hks
 split at hm
 case isFalse => cases hm
 rename_i hcond
 obtain ⟨hcd, hg⟩ := hcond
 cases hm
 simp only [evO] at he
 split at he
 case h_2 => cases he
 rename_i ps qs e1 e2
 rw [Option.map_eq_some_iff] at he
 obtain ⟨b, hb, he⟩ := he
 simp only [Prod.mk.injEq] at he
 obtain ⟨rfl, rfl⟩ := he
 rw [hcd] at hb
 rw [e1] at h1
 rw [e2] at h2
 generalize hxv : a.eval x = xv at h1
 generalize hyv : a.eval y = yv at h2
 cases h1 with
 | agg _ us hul huv =>
  cases h2 with
  | agg _ vs hvl hvv =>
   have h4 := run_eqK (P := P) (E := E) (w := w) 4 9996 t ks ps qs us vs b hks hb ⟨hul, huv⟩ ⟨hvl, hvv⟩
   have hv : ∀ l : List Value, valT P t l = .agg l.toArray := fun l => by unfold valT; rw [ht]
   rw [hv, hv] at h4
   replace h4 : (Op.equalIn 10000 t (.agg us.toArray) (.agg vs.toArray)).run P w = .ok b w := h4
   refine ⟨rfl, .bool (negIf neg b), ?_, .lit _⟩
   cases neg
   ·simp [execOp, ho, hxv, hyv, run_eqGuard_agg w .eql t x y us.toArray vs.toArray hg, run_eql_struct w t us.toArray vs.toArray, h4, negIf]
   ·simp [execOp, ho, hxv, hyv, run_eqGuard_agg w .neq t x y us.toArray vs.toArray hg, run_neq_struct w t us.toArray vs.toArray, h4, negIf]
theorem pure_eqn {neg : Bool} {t yt e : TypeId} {x y : Operand} {x' : MX} {v : MV} {h' : MHeap} {lk : Nat → Bool} {O : Oracle} (ho : o.op = .binOp (if neg then .neq else .eql) t x y yt) (ht : P.underlying t = some (.slice e)) (hx : cX x = some x') (hy : isNilSlice y = true) (hs : Slots E w s a) (hr : HRel E h w)
  (he : evO lk O s h (.eqn neg x') = some (v, h')) : h' = h ∧ Pure P o a w E v := by
 have h1 := hs.x hx
 have hy' : y = .const (.slice none 0 0) := by
  unfold isNilSlice at hy
  split at hy
  ·rfl
  ·cases hy
 subst hy'
 have key : ∀ {A : Option Addr} {n c : Nat}, a.eval x = .slice A n c → Pure P o a w E (.lit (.bool (negIf neg A.isNone))) := by
  intro A n c hxv
  refine ⟨_, ?_, .lit _⟩
  have hcv : a.eval (.const (.slice none 0 0)) = .slice none 0 0 := rfl
  cases neg
  ·simp [execOp, ho, hxv, hcv, eqGuard, binOp, Op.equal, Op.maxDepth, run_equalIn_slice_nil w 9999 t e A n c ht, negIf]
  ·simp [execOp, ho, hxv, hcv, eqGuard, binOp, Op.equal, Op.maxDepth, run_equalIn_slice_nil w 9999 t e A n c ht, negIf]
 simp only [evO] at he
 split at he
 ·rename_i id i n g hb
  rw [hb] at h1
  generalize hxv : a.eval x = xv at h1
  cases h1 with
  | arr _ _ _ _ A cap hk hg hd =>
   split at he
   case h_2 => cases he
   rename_i ob hob
   split at he
   case isFalse => cases he
   rename_i hog
   simp only [Option.some.injEq, Prod.mk.injEq] at he
   obtain ⟨rfl, rfl⟩ := he
   obtain ⟨es, a1, a2, a3, a4, a5⟩ := hr.obj id hk
   rw [hob] at a1
   simp only [Option.some.injEq] at a1
   subst a1
   dsimp only at hog ⊢
   obtain ⟨d1, d2, d3, d4, d5⟩ := hd hog.1
   have : E.nl id = A.isNone := by
    cases hnl : E.nl id
    ·have := d4 hnl; cases A <;> simp_all
    ·obtain ⟨rfl, -, -⟩ := d3 hnl; rfl
   rw [this]
   exact ⟨rfl, key hxv⟩
 ·rename_i A n c hb
  rw [hb] at h1
  simp only [Option.some.injEq, Prod.mk.injEq] at he
  obtain ⟨rfl, rfl⟩ := he
  exact ⟨rfl, key h1.lit_eq⟩
 ·rename_i e0 es hb
  rw [hb] at h1
  simp only [Option.some.injEq, Prod.mk.injEq] at he
  obtain ⟨rfl, rfl⟩ := he
  generalize hxv : a.eval x = xv at h1
  cases h1 with
  | sl _ vs A cap sz hc hsz hl hv hA =>
   obtain ⟨b, off, rfl, -⟩ := hA (by simp)
   have := key hxv
   refine ⟨rfl, ?_⟩
   simpa [negIf] using this
 ·rename_i hb
  rw [hb] at h1
  simp only [Option.some.injEq, Prod.mk.injEq] at he
  obtain ⟨rfl, rfl⟩ := he
  generalize hxv : a.eval x = xv at h1
  cases h1 with
  | emp ad =>
   have := key hxv
   refine ⟨rfl, ?_⟩
   simpa [negIf] using this
 ·cases he
end
end Go.Proofs.YtfchdbghjeophaaDoor
namespace Go.Proofs.YtfchdbghjeophaaDoor
open Go.RowKit
section
variable {P : Program} {w : World} {E : Env} {o : Oper} {a : Act} {s : List MV} {h : MHeap}
theorem V.moved {m : MV} {v : Value} (hv : V E w m v) {m' : MV} {d : Nat} (hm : (∃ id i off g, m = .ptr id i off g ∧ m' = .ptr id i (off + d) g) ∨ ∃ e off, m = .rp e off ∧ m' = .rp e (off + d)) :
  ∃ b o, v = .pointer (some ⟨b, o, none⟩) ∧ V E w m' (.pointer (some ⟨b, o + d, none⟩)) := by
 rcases hm with ⟨id, i, off, g, rfl, rfl⟩ | ⟨e, off, rfl, rfl⟩
 ·cases hv with
  | ptr _ _ _ _ b o' hk hg hd =>
   refine ⟨b, o', rfl, .ptr _ _ _ _ _ _ hk hg fun e => ?_⟩
   obtain ⟨h1, h2, h3⟩ := hd e
   exact ⟨h1, by omega, h3⟩
 ·cases hv with
  | rp _ _ vs b o' hl hc hS hcell =>
   refine ⟨b, o' + off, rfl, ?_⟩
   rw [Nat.add_assoc]
   exact .rp _ _ vs b o' hl hc hS hcell
theorem pure_fa {t : TypeId} {fs : Array Field} {f : Nat} {fd : Field} {n : Nat} {x : Operand} {x' : MX} {v : MV} {h' : MHeap} {lk : Nat → Bool} {O : Oracle} (ho : o.op = .fieldAddr t x f) (ht : P.underlying t = some (.struct fs)) (hf : fs[f]? = some fd) (hn : tsz P fd.type = some n) (hpos : 0 < n) (hx : cX x = some x')
  (hs : Slots E w s a) (he : evO lk O s h (.fa fd.offset x') = some (v, h')) : h' = h ∧ Pure P o a w E v := by
 have h1 := hs.x hx
 obtain ⟨inf, hinf, hsz⟩ : ∃ inf, P.info? fd.type = some inf ∧ inf.size = n := by unfold tsz at hn; rwa [Option.map_eq_some_iff] at hn
 have key : ∀ {b o' : Nat}, a.eval x = .pointer (some ⟨b, o', none⟩) → (execOp a.eval o).run P w = .ok (.value (.pointer (some ⟨b, o' + fd.offset, none⟩))) w := by
  intro b o' hxv
  have hne : ¬ inf.size = 0 := by omega
  simp [execOp, ho, hxv, Instr.fieldAt, run_underlying ht, hf, Instr.sureAddr, fieldPlace, sizeOf, typeInfo, hinf, hne, Addr.add_none]
 simp only [evO] at he
 split at he
 ·rename_i id i off g hb
  simp only [Option.some.injEq, Prod.mk.injEq] at he
  obtain ⟨rfl, rfl⟩ := he
  rw [hb] at h1
  obtain ⟨b, o', e1, e2⟩ := h1.moved (d := fd.offset) (.inl ⟨_, _, _, _, rfl, rfl⟩)
  exact ⟨rfl, _, key e1, e2⟩
 ·rename_i e off hb
  simp only [Option.some.injEq, Prod.mk.injEq] at he
  obtain ⟨rfl, rfl⟩ := he
  rw [hb] at h1
  obtain ⟨b, o', e1, e2⟩ := h1.moved (d := fd.offset) (.inr ⟨_, _, rfl, rfl⟩)
  exact ⟨rfl, _, key e1, e2⟩
 ·cases he
theorem pure_iaa {t e : TypeId} {len sz : Nat} {x y : Operand} {x' y' : MX} {v : MV} {h' : MHeap} {lk : Nat → Bool} {O : Oracle} (ho : o.op = .indexAddr t x y) (ht : P.underlying t = some (.array len e)) (hn : tsz P e = some sz) (hx : cX x = some x') (hy : cX y = some y')
  (hs : Slots E w s a) (he : evO lk O s h (.iaa sz len x' y') = some (v, h')) : h' = h ∧ Pure P o a w E v := by
 have h1 := hs.x hx
 have h2 := hs.x hy
 obtain ⟨inf, hinf, hsz⟩ : ∃ inf, P.info? e = some inf ∧ inf.size = sz := by unfold tsz at hn; rwa [Option.map_eq_some_iff] at hn
 simp only [evO] at he
 have hint : ∀ {k : Int}, intOf? (y'.get s) = some k → ∃ kk, a.eval y = .int kk k := by
  intro k hk
  unfold intOf? at hk
  split at hk
  ·rename_i kk n hb
   cases hk
   rw [hb] at h2
   exact ⟨kk, h2.lit_eq⟩
  ·cases hk
 have key : ∀ {b o' : Nat} {k : Int}, a.eval x = .pointer (some ⟨b, o', none⟩) → intOf? (y'.get s) = some k → 0 ≤ k ∧ k < len → (execOp a.eval o).run P w = .ok (.value (.pointer (some ⟨b, o' + k.toNat * sz, none⟩))) w := by
  intro b o' k hxv hk hb
  obtain ⟨kk, hyv⟩ := hint hk
  simp [execOp, ho, hxv, hyv, Instr.indexAt, asIntOf, run_underlying ht, Instr.sureAddr, hb, sizeOf, typeInfo, hinf, hsz, Addr.add_none]
 split at he
 ·rename_i id j o' g k hb hk
  split at he
  case isFalse => cases he
  rename_i hlt
  simp only [Option.some.injEq, Prod.mk.injEq] at he
  obtain ⟨rfl, rfl⟩ := he
  rw [hb] at h1
  obtain ⟨b, o', e1, e2⟩ := h1.moved (d := k.toNat * sz) (.inl ⟨_, _, _, _, rfl, rfl⟩)
  exact ⟨rfl, _, key e1 hk hlt, e2⟩
 ·rename_i e o' k hb hk
  split at he
  case isFalse => cases he
  rename_i hlt
  simp only [Option.some.injEq, Prod.mk.injEq] at he
  obtain ⟨rfl, rfl⟩ := he
  rw [hb] at h1
  obtain ⟨b, o', e1, e2⟩ := h1.moved (d := k.toNat * sz) (.inr ⟨_, _, rfl, rfl⟩)
  exact ⟨rfl, _, key e1 hk hlt, e2⟩
 ·cases he
theorem mheap_ok (hr : HRel E h w) {id g sz : Nat} (hk : E.K id) (hok : MHeap.ok h id g sz = true) : E.gn id = g ∧ E.sz id = sz := by
 unfold MHeap.ok at hok
 obtain ⟨es, a1, -⟩ := hr.obj id hk
 rw [a1] at hok
 simpa using hok
theorem pure_ia {t e : TypeId} {sz : Nat} {x y : Operand} {x' y' : MX} {v : MV} {h' : MHeap} {lk : Nat → Bool} {O : Oracle} (ho : o.op = .indexAddr t x y) (ht : P.underlying t = some (.slice e)) (hn : tsz P e = some sz) (hx : cX x = some x') (hy : cX y = some y')
  (hs : Slots E w s a) (hr : HRel E h w) (he : evO lk O s h (.ia sz x' y') = some (v, h')) : h' = h ∧ Pure P o a w E v := by
 have h1 := hs.x hx
 have h2 := hs.x hy
 obtain ⟨inf, hinf, hsz⟩ : ∃ inf, P.info? e = some inf ∧ inf.size = sz := by unfold tsz at hn; rwa [Option.map_eq_some_iff] at hn
 simp only [evO] at he
 have hint : ∀ {k : Int}, intOf? (y'.get s) = some k → ∃ kk, a.eval y = .int kk k := by
  intro k hk
  unfold intOf? at hk
  split at hk
  ·rename_i kk n hb
   cases hk
   rw [hb] at h2
   exact ⟨kk, h2.lit_eq⟩
  ·cases hk
 have key : ∀ {b o' n c : Nat} {k : Int}, a.eval x = .slice (some ⟨b, o', none⟩) n c → intOf? (y'.get s) = some k → 0 ≤ k ∧ k < n → (execOp a.eval o).run P w = .ok (.value (.pointer (some ⟨b, o' + k.toNat * sz, none⟩))) w := by
  intro b o' n c k hxv hk hb
  obtain ⟨kk, hyv⟩ := hint hk
  simp [execOp, ho, hxv, hyv, Instr.indexAt, asIntOf, run_underlying ht, hb, sizeOf, typeInfo, hinf, hsz, Addr.add_none]
 split at he
 ·rename_i es k hb hk
  split at he
  case isFalse => cases he
  rename_i h0
  obtain ⟨el, hel, he⟩ := Option.bind_eq_some_iff.1 he
  split at he
  case isFalse => cases he
  rename_i hcl
  simp only [Option.some.injEq, Prod.mk.injEq] at he
  obtain ⟨rfl, rfl⟩ := he
  rw [hb] at h1
  generalize hxv : a.eval x = xv at h1
  have hkl := (List.getElem?_eq_some_iff.1 hel).1
  cases h1 with
  | sl _ vs A cap sz' hc hsz' hl hv hA =>
   obtain ⟨b, off, rfl, hS, hcell⟩ := hA (by omega)
   obtain rfl : sz' = sz := by rw [← hsz' el (List.mem_of_getElem? hel)]; exact hcl
   have hvl : vs.length = es.length * sz' := by rw [← hl, flat_len hsz']
   have hfit : k.toNat * sz' + sz' ≤ vs.length := by rw [hvl, ← Nat.succ_mul]; exact Nat.mul_le_mul_right _ hkl
   refine ⟨rfl, _, key hxv hk ⟨h0, by omega⟩, ?_⟩
   have := V.rp (E := E) (w := w) el 0 ((vs.drop (k.toNat * sz')).take sz') b (off + k.toNat * sz') (by simp; omega) (fun i c u hci hu => by
    have hil : i < sz' := by have := (List.getElem?_eq_some_iff.1 hci).1; omega
    rw [List.getElem?_take, if_pos hil, List.getElem?_drop] at hu
    exact hv _ c u ((flat_iff hsz').2 ⟨k.toNat, i, el, rfl, hil, hel, hci⟩) hu) hS (fun i u hu => by
    rw [List.getElem?_take] at hu
    split at hu
    ·rw [List.getElem?_drop] at hu
     rw [Nat.add_assoc]
     exact hcell _ u hu
    ·cases hu)
   simpa using this
 ·rename_i id j n g k hb hk
  split at he
  case isFalse => cases he
  rename_i hlt
  obtain ⟨l1, l2, l3⟩ := hlt
  simp only [Option.some.injEq, Prod.mk.injEq] at he
  obtain ⟨rfl, rfl⟩ := he
  rw [hb] at h1
  generalize hxv : a.eval x = xv at h1
  cases h1 with
  | arr _ _ _ _ A cap hkk hg hd =>
   obtain ⟨c1, c2⟩ := mheap_ok hr hkk l3
   obtain ⟨d1, d2, d3, d4, d5⟩ := hd c1
   obtain ⟨rfl, d6⟩ := d5 (by omega)
   have hnl : E.nl id = false := by
    cases hnl : E.nl id
    ·rfl
    ·have := (d3 hnl).2.1; omega
   refine ⟨rfl, _, key hxv hk ⟨l1, l2⟩, .ptr _ _ _ _ _ _ hkk hg fun _ => ⟨rfl, ?_, by omega, hnl⟩⟩
   rw [c2, ← Nat.add_assoc, Nat.add_mul (E.bo id + j)]; omega
 ·cases he
theorem pure_fd {t : TypeId} {fs : Array Field} {f : Nat} {fd : Field} {ag : Option Nat} {x : Operand} {x' : MX} {v : MV} {h' : MHeap} {lk : Nat → Bool} {O : Oracle} (ho : o.op = .field t x f) (ht : P.underlying t = some (.struct fs)) (hf : fs[f]? = some fd) (hn : tagg P fd.type = some ag) (hx : cX x = some x')
  (hs : Slots E w s a) (he : evO lk O s h (.fd fd.offset ag x') = some (v, h')) : h' = h ∧ Pure P o a w E v := by
 have h1 := hs.x hx
 simp only [evO] at he
 split at he
 case h_2 => cases he
 rename_i cs hb
 rw [Option.map_eq_some_iff] at he
 obtain ⟨m, hm, he⟩ := he
 simp only [Prod.mk.injEq] at he
 obtain ⟨rfl, rfl⟩ := he
 rw [hb] at h1
 generalize hxv : a.eval x = xv at h1
 cases h1 with
 | agg _ vs hl hv =>
  refine ⟨rfl, ?_⟩
  cases ag with
  | none =>
   obtain ⟨d, d1, d2⟩ := tagg_none hn
   simp only [rdCells] at hm
   have hlt := (List.getElem?_eq_some_iff.1 hm).1
   rw [hl] at hlt
   have hx : vs[fd.offset]? = some vs[fd.offset] := by simp
   refine ⟨vs[fd.offset], ?_, hv _ m _ hm hx⟩
   simp [execOp, ho, hxv, Instr.field, run_underlying ht, hf, asAgg, part, run_isAgg d1 d2, hlt]
  | some n =>
   obtain ⟨⟨d, d1, d2⟩, i, hi, hsz⟩ := tagg_some hn
   simp only [rdCells] at hm
   split at hm
   case isFalse => cases hm
   rename_i hle
   cases hm
   refine ⟨.agg ((vs.drop fd.offset).take n).toArray, ?_, .agg _ _ (by simp; omega) fun j c u hj hu => ?_⟩
   ·simp [execOp, ho, hxv, Instr.field, run_underlying ht, hf, asAgg, part, run_isAgg d1 d2, sizeOf, typeInfo, hi, hsz]
   ·rw [List.getElem?_take] at hj hu
    split at hj
    ·rename_i hlt
     rw [if_pos hlt] at hu
     rw [List.getElem?_drop] at hj hu
     exact hv _ c u hj hu
    ·cases hj
theorem pure_ix {t e : TypeId} {len sz : Nat} {ag : Option Nat} {x i : Operand} {x' i' : MX} {v : MV} {h' : MHeap} {lk : Nat → Bool} {O : Oracle} (ho : o.op = .index t x i) (ht : P.underlying t = some (.array len e)) (hn : tagg P e = some ag) (hsz : tsz P e = some sz) (hx : cX x = some x') (hi : cX i = some i')
  (hs : Slots E w s a) (he : evO lk O s h (.ix ag sz len x' i') = some (v, h')) : h' = h ∧ Pure P o a w E v := by
 have h1 := hs.x hx
 have h2 := hs.x hi
 obtain ⟨inf, hinf, hsz⟩ : ∃ inf, P.info? e = some inf ∧ inf.size = sz := by unfold tsz at hsz; rwa [Option.map_eq_some_iff] at hsz
 simp only [evO] at he
 split at he
 case h_2 => cases he
 rename_i cs k hb hk
 obtain ⟨kk, hyv⟩ : ∃ kk, a.eval i = .int kk k := by
  unfold intOf? at hk
  split at hk
  ·rename_i kk n hb
   cases hk
   rw [hb] at h2
   exact ⟨kk, h2.lit_eq⟩
  ·cases hk
 split at he
 case isFalse => cases he
 rename_i hin
 rw [Option.map_eq_some_iff] at he
 obtain ⟨m, hm, he⟩ := he
 simp only [Prod.mk.injEq] at he
 obtain ⟨rfl, rfl⟩ := he
 rw [hb] at h1
 generalize hxv : a.eval x = xv at h1
 cases h1 with
 | agg _ vs hl hv =>
  refine ⟨rfl, ?_⟩
  cases ag with
  | none =>
   obtain ⟨d, d1, d2⟩ := tagg_none hn
   simp only [rdCells] at hm
   have hlt := (List.getElem?_eq_some_iff.1 hm).1
   rw [hl] at hlt
   have hx : vs[k.toNat * sz]? = some vs[k.toNat * sz] := by simp
   refine ⟨vs[k.toNat * sz], ?_, hv _ m _ hm hx⟩
   simp [execOp, ho, hxv, hyv, Instr.index, asIntOf, run_underlying ht, hin, part, run_isAgg d1 d2, sizeOf, typeInfo, hinf, hsz, hlt]
  | some n =>
   obtain ⟨⟨d, d1, d2⟩, i, hi, hsz'⟩ := tagg_some hn
   rw [hinf] at hi
   cases hi
   simp only [rdCells] at hm
   split at hm
   case isFalse => cases hm
   rename_i hle
   cases hm
   refine ⟨.agg ((vs.drop (k.toNat * sz)).take n).toArray, ?_, .agg _ _ (by simp; omega) fun j c u hj hu => ?_⟩
   ·obtain rfl : sz = n := by omega
    simp [execOp, ho, hxv, hyv, Instr.index, asIntOf, run_underlying ht, hin, part, run_isAgg d1 d2, sizeOf, typeInfo, hinf, hsz]
   ·rw [List.getElem?_take] at hj hu
    split at hj
    ·rename_i hlt
     rw [if_pos hlt] at hu
     rw [List.getElem?_drop] at hj hu
     exact hv _ c u hj hu
    ·cases hj
end
end Go.Proofs.YtfchdbghjeophaaDoor
namespace Go.Proofs.YtfchdbghjeophaaDoor
open Go.RowKit
section
variable {P : Program} {w : World} {E : Env} {o : Oper} {a : Act} {s : List MV} {h : MHeap}
theorem run_sliceAt {t e : TypeId} {inf : TypeInfo} (ht : P.underlying t = some (.slice e)) (hi : P.info? e = some inf) {A : Option Addr} {n cap : Nat} {lo hi' : Option Value} {l u : Nat} (hl : (lo = none ∧ l = 0) ∨ ∃ k, lo = some (.int k (l : Int)))
  (hu : (hi' = none ∧ u = n) ∨ ∃ k, hi' = some (.int k (u : Int))) (hlu : l ≤ u) (huc : u ≤ cap) :
  (Instr.sliceAt t (.slice A n cap) lo hi' none).run P w = .ok (.slice (if cap = l then A else A.map (·.add (l * inf.size))) (u - l) (cap - l)) w := by
 have hu' : (0 : Int) ≤ u ∧ (u : Int) ≤ cap := by omega
 have hl' : (0 : Int) ≤ l ∧ (l : Int) ≤ u := by omega
 rcases hl with ⟨rfl, rfl⟩ | ⟨k, rfl⟩ <;> rcases hu with ⟨rfl, rfl⟩ | ⟨k', rfl⟩ <;>
  simp [Instr.sliceAt, run_underlying ht, Instr.slice, Instr.sliceBounds, Instr.sliceBound, asIntOf, sizeOf, typeInfo, hi, hu', hl', huc, hlu]
theorem optInt {x : Option Operand} {x' : Option MX} (hx : oX x = some x') (hs : Slots E w s a) :
  (x = none ∧ (x'.map (MX.get s)).map intOf? = none) ∨ ∃ y, x = some y ∧ ∃ m, (x'.map (MX.get s)).map intOf? = some (intOf? m) ∧ V E w m (a.eval y) := by
 cases x with
 | none => simp [oX] at hx; subst hx; exact .inl ⟨rfl, rfl⟩
 | some y =>
  simp only [oX, Option.map_eq_some_iff] at hx
  obtain ⟨y', hy, rfl⟩ := hx
  exact .inr ⟨y, rfl, _, rfl, hs.x hy⟩
theorem intOf_int {m : MV} {v : Value} {n : Int} (hv : V E w m v) (hm : intOf? m = some n) : ∃ k, v = .int k n := by
 unfold intOf? at hm
 split at hm
 ·rename_i k n'
  cases hm
  exact ⟨k, hv.lit_eq⟩
 ·cases hm
theorem V.slcS {es : List MV} {A : Option Addr} {n cap sz : Nat} (hv : V E w (.sl es) (.slice A n cap)) {l u : Nat} (hlu : l ≤ u) (hu : u ≤ es.length) (hsz : ∀ e ∈ es, e.cells.length = sz) :
  V E w (.sl ((es.drop l).take (u - l))) (.slice (if cap = l then A else A.map (·.add (l * sz))) (u - l) (cap - l)) := by
 cases hv with
 | sl _ vs _ _ sz' hc hsz' hl hvv hA =>
  have hlen : ((es.drop l).take (u - l)).length = u - l := by simp; omega
  have hmem : ∀ e ∈ (es.drop l).take (u - l), e.cells.length = sz := fun e he => hsz e (List.mem_of_mem_drop (List.mem_of_mem_take he))
  have hvl : vs.length = es.length * sz := by rw [← hl, flat_len hsz]
  have hmul : l * sz + (u - l) * sz ≤ es.length * sz := by rw [← Nat.add_mul]; exact Nat.mul_le_mul_right _ (by omega)
  have key := V.sl (E := E) (w := w) ((es.drop l).take (u - l)) ((vs.drop (l * sz)).take ((u - l) * sz)) (if cap = l then A else A.map (·.add (l * sz))) (cap - l) sz (by rw [hlen]; omega) hmem
   (by rw [flat_len hmem, hlen]; simp; omega)
   (fun k c v hk hkv => by
    obtain ⟨i, j, e, rfl, hj, he, hcj⟩ := (flat_iff hmem).1 hk
    rw [List.getElem?_take] at he hkv
    split at he
    case isFalse => cases he
    split at hkv
    case isFalse => cases hkv
    rw [List.getElem?_drop] at he hkv
    refine hvv (l * sz + (i * sz + j)) c v ?_ hkv
    rw [flat_iff hsz]
    exact ⟨l + i, j, e, by rw [Nat.add_mul]; omega, hj, he, hcj⟩)
   (fun h0 => by
    rw [hlen] at h0
    obtain ⟨b, off, rfl, hS, hcell⟩ := hA (by omega)
    refine ⟨b, off + l * sz, ?_, hS, fun i v hi => ?_⟩
    ·rw [if_neg (by omega)]; simp [Addr.add_none]
    ·rw [List.getElem?_take] at hi
     split at hi
     ·rw [List.getElem?_drop] at hi
      rw [Nat.add_assoc]
      exact hcell _ v hi
     ·cases hi)
  rw [hlen] at key
  exact key
theorem V.slcA (hr : HRel E h w) {id i n g : Nat} {A : Option Addr} {n' cap sz : Nat} (hv : V E w (.arr id i n g) (.slice A n' cap)) {l u : Nat} (hlu : l ≤ u) (hu : u ≤ n) (hok : MHeap.ok h id g sz = true) :
  V E w (.arr id (i + l) (u - l) g) (.slice (if cap = l then A else A.map (·.add (l * sz))) (u - l) (cap - l)) := by
 cases hv with
 | arr _ _ _ _ _ _ hk hg hd =>
  obtain ⟨c1, c2⟩ := mheap_ok hr hk hok
  obtain ⟨d1, d2, d3, d4, d5⟩ := hd c1
  refine .arr _ _ _ _ _ _ hk hg fun _ => ⟨by omega, by omega, fun hn => ?_, fun hn => ?_, fun h0 => ?_⟩
  ·obtain ⟨rfl, rfl, d7⟩ := d3 hn
   simp [d7]
  ·have := d4 hn
   split
   ·exact this
   ·simpa using this
  ·obtain ⟨rfl, d6⟩ := d5 (by omega)
   rw [if_neg (by omega)]
   refine ⟨?_, by omega⟩
   simp only [Option.map_some, Addr.add_none, Option.some.injEq, Addr.mk.injEq, and_true, true_and]
   rw [c2, ← Nat.add_assoc, Nat.add_mul (E.bo id + i)]
theorem pure_slc {t e : TypeId} {sz : Nat} {x : Operand} {lo hi : Option Operand} {x' : MX} {lo' hi' : Option MX} {v : MV} {h' : MHeap} {lk : Nat → Bool} {O : Oracle} (ho : o.op = .slice t x lo hi none) (ht : telem P t = some e) (hn : tsz P e = some sz) (hx : cX x = some x')
  (hlo : oX lo = some lo') (hhi : oX hi = some hi')
  (hs : Slots E w s a) (hr : HRel E h w) (he : evO lk O s h (.slc sz x' lo' hi') = some (v, h')) : h' = h ∧ Pure P o a w E v := by
 have h1 := hs.x hx
 have h2 := optInt hlo hs
 have h3 := optInt hhi hs
 unfold telem at ht
 split at ht
 case h_2 => cases ht
 rename_i e' hu
 cases ht
 obtain ⟨inf, hinf, rfl⟩ : ∃ inf, P.info? e = some inf ∧ inf.size = sz := by unfold tsz at hn; rwa [Option.map_eq_some_iff] at hn
 have key : ∀ {A : Option Addr} {n cap : Nat} {l u : Nat}, a.eval x = .slice A n cap → ((lo.map a.eval = none ∧ l = 0) ∨ ∃ k, lo.map a.eval = some (.int k (l : Int))) → ((hi.map a.eval = none ∧ u = n) ∨ ∃ k, hi.map a.eval = some (.int k (u : Int))) → l ≤ u → u ≤ cap →
   (execOp a.eval o).run P w = .ok (.value (.slice (if cap = l then A else A.map (·.add (l * inf.size))) (u - l) (cap - l))) w := by
  intro A n cap l u hxv hl hu' hlu huc
  have := run_sliceAt (P := P) (w := w) hu hinf (A := A) (n := n) hl hu' hlu huc
  simp [execOp, ho, hxv, this]
 have loI : ∀ {l : Int}, ((lo'.map (MX.get s)).map intOf?).getD (some 0) = some l → (lo.map a.eval = none ∧ l = 0) ∨ ∃ k, lo.map a.eval = some (.int k l) := by
  intro l hl
  rcases h2 with ⟨rfl, e2⟩ | ⟨y, rfl, m, e2, e3⟩
  ·rw [e2] at hl; simp at hl; exact .inl ⟨rfl, hl.symm⟩
  ·rw [e2] at hl
   obtain ⟨k, hk⟩ := intOf_int e3 (by simpa using hl)
   exact .inr ⟨k, by simp [hk]⟩
 have hiI : ∀ {u : Int}, (hi'.map (MX.get s)).map intOf? = some (some u) → ∃ k, hi.map a.eval = some (.int k u) := by
  intro u hu
  rcases h3 with ⟨rfl, e2⟩ | ⟨y, rfl, m, e2, e3⟩
  ·rw [e2] at hu; cases hu
  ·rw [e2] at hu
   obtain ⟨k, hk⟩ := intOf_int e3 (by simpa using hu)
   exact ⟨k, by simp [hk]⟩
 have hiN : (hi'.map (MX.get s)).map intOf? = none → hi.map a.eval = none := by
  intro hu
  rcases h3 with ⟨rfl, e2⟩ | ⟨y, rfl, m, e2, e3⟩
  ·rfl
  ·rw [e2] at hu; cases hu
 have toN : ∀ {l : Int}, 0 ≤ l → (lo.map a.eval = none ∧ l = 0) ∨ (∃ k, lo.map a.eval = some (.int k l)) → (lo.map a.eval = none ∧ l.toNat = 0) ∨ ∃ k, lo.map a.eval = some (.int k (l.toNat : Int)) := by
  intro l h0 h
  rcases h with ⟨e, rfl⟩ | ⟨k, e⟩
  ·exact .inl ⟨e, rfl⟩
  ·exact .inr ⟨k, by rw [e, Int.toNat_of_nonneg h0]⟩
 simp only [evO] at he
 split at he
 ·rename_i es l u hb el eu
  split at he
  case isFalse => cases he
  rename_i hc
  obtain ⟨c1, c2, c3, c4⟩ := hc
  simp only [Option.some.injEq, Prod.mk.injEq] at he
  obtain ⟨rfl, rfl⟩ := he
  rw [hb] at h1
  have hx2 := h1
  generalize hxv : a.eval x = xv at h1
  cases h1 with
  | sl _ vs A cap sz' hcap =>
   rw [hxv] at hx2
   have := hx2.slcS (l := l.toNat) (u := u.toNat) (sz := inf.size) (by omega) (by omega) (fun e he => by simpa using List.all_eq_true.1 c4 e he)
   refine ⟨rfl, _, key (u := u.toNat) hxv (toN c1 (loI el)) (.inr ?_) (by omega) (by omega), ?_⟩
   ·obtain ⟨k, hk⟩ := hiI eu
    exact ⟨k, by rw [hk, Int.toNat_of_nonneg (by omega)]⟩
   ·have e2 : u.toNat - l.toNat = (u - l).toNat := by omega
    rw [e2] at this
    simpa [e2] using this
 ·rename_i es l hb el eu
  split at he
  case isFalse => cases he
  rename_i hc
  obtain ⟨c1, c2, c4⟩ := hc
  simp only [Option.some.injEq, Prod.mk.injEq] at he
  obtain ⟨rfl, rfl⟩ := he
  rw [hb] at h1
  have hx2 := h1
  generalize hxv : a.eval x = xv at h1
  cases h1 with
  | sl _ vs A cap sz' hcap =>
   rw [hxv] at hx2
   have := hx2.slcS (l := l.toNat) (u := es.length) (sz := inf.size) (by omega) (by omega) (fun e he => by simpa using List.all_eq_true.1 c4 e he)
   rw [List.take_of_length_le (by simp)] at this
   exact ⟨rfl, _, key hxv (toN c1 (loI el)) (.inl ⟨hiN eu, rfl⟩) (by omega) (by omega), this⟩
 ·rename_i id i n g l u hb el eu
  split at he
  case isFalse => cases he
  rename_i hc
  obtain ⟨c1, c2, c3, c4⟩ := hc
  simp only [Option.some.injEq, Prod.mk.injEq] at he
  obtain ⟨rfl, rfl⟩ := he
  rw [hb] at h1
  have hx2 := h1
  generalize hxv : a.eval x = xv at h1
  cases h1 with
  | arr _ _ _ _ A cap hk hg hd =>
   rw [hxv] at hx2
   have hcap := (hd (mheap_ok hr hk c4).1).2.1
   have := hx2.slcA hr (l := l.toNat) (u := u.toNat) (sz := inf.size) (by omega) (by omega) c4
   refine ⟨rfl, _, key (u := u.toNat) hxv (toN c1 (loI el)) (.inr ?_) (by omega) (by omega), ?_⟩
   ·obtain ⟨k, hk⟩ := hiI eu
    exact ⟨k, by rw [hk, Int.toNat_of_nonneg (by omega)]⟩
   ·have e2 : (u - l).toNat = u.toNat - l.toNat := by omega
    rw [e2]
    exact this
 ·rename_i id i n g l hb el eu
  split at he
  case isFalse => cases he
  rename_i hc
  obtain ⟨c1, c2, c4⟩ := hc
  simp only [Option.some.injEq, Prod.mk.injEq] at he
  obtain ⟨rfl, rfl⟩ := he
  rw [hb] at h1
  have hx2 := h1
  generalize hxv : a.eval x = xv at h1
  cases h1 with
  | arr _ _ _ _ A cap hk hg hd =>
   rw [hxv] at hx2
   have hcap := (hd (mheap_ok hr hk c4).1).2.1
   have := hx2.slcA hr (l := l.toNat) (u := n) (sz := inf.size) (by omega) (by omega) c4
   exact ⟨rfl, _, key hxv (toN c1 (loI el)) (.inl ⟨hiN eu, rfl⟩) (by omega) (by omega), this⟩
 ·cases he
end
end Go.Proofs.YtfchdbghjeophaaDoor
namespace Go.Proofs.YtfchdbghjeophaaDoor
open Go.RowKit
theorem growBy_le (m : Nat) : ∀ (r c : Nat), Builtin.growBy m r c ≤ 2 ^ r * (c + 192)
 | 0, c => by simp [Builtin.growBy]
 | r + 1, c => by
  have ih := growBy_le m r (c + (c + 768) / 4)
  simp only [Builtin.growBy]
  split
  ·have : 1 ≤ 2 ^ (r + 1) := Nat.one_le_two_pow
   have := Nat.mul_le_mul_right (c + 192) this
   omega
  ·refine Nat.le_trans ih ?_
   rw [Nat.pow_succ, Nat.mul_assoc]
   exact Nat.mul_le_mul_left _ (by omega)
theorem nextcap_le {need old : Nat} (h : old < need) (hn : need ≤ 4000000) : Builtin.nextslicecap need old ≤ 80000000 := by
 unfold Builtin.nextslicecap
 split
 ·omega
 ·split
  ·omega
  ·have := growBy_le need 4 old
   omega
section
variable {P : Program} {w : World} {E : Env} {o : Oper} {a : Act} {s : List MV} {h : MHeap}
theorem V.elems (hr : HRel E h w) {m : MV} {v : Value} (hv : V E w m v) {es : List MV} {sz : Nat} (he : m.elems h = some es) (hsz : ∀ e ∈ es, e.cells.length = sz) :
  ∃ A cap vs, v = .slice A es.length cap ∧ Vs E w (flat es) vs ∧ (0 < es.length → ∃ b off, A = some ⟨b, off, none⟩ ∧ ∀ (i : Nat) u, vs[i]? = some u → w.cell? ⟨b, off + i, none⟩ = some u) := by
 unfold MV.elems at he
 split at he
 ·cases he
  cases hv with
  | sl _ vs A cap sz' hc hsz' hl hvv hA =>
   refine ⟨A, cap, vs, rfl, ⟨hl, hvv⟩, fun h0 => ?_⟩
   obtain ⟨b, off, e, -, hc⟩ := hA h0
   exact ⟨b, off, e, hc⟩
 ·cases he
  cases hv with
  | emp ad => exact ⟨some ad, 0, [], rfl, ⟨rfl, fun i c v hc => by simp [flat] at hc⟩, fun h0 => absurd h0 (by simp)⟩
 ·cases he
  have := hv.lit_eq
  subst this
  exact ⟨none, 0, [], rfl, ⟨rfl, fun i c v hc => by simp [flat] at hc⟩, fun h0 => absurd h0 (by simp)⟩
 ·rename_i id i n g
  split at he
  case h_2 => cases he
  rename_i ob hob
  split at he
  case isFalse => cases he
  rename_i hog
  cases he
  cases hv with
  | arr _ _ _ _ A cap hk hg hd =>
   obtain ⟨es', a1, a2, a3, a4, a5⟩ := hr.obj id hk
   rw [hob] at a1
   simp only [Option.some.injEq] at a1
   subst a1
   dsimp only at hog hsz ⊢
   obtain ⟨d1, d2, d3, d4, d5⟩ := hd hog.1
   have hlen : ((es'.drop i).take n).length = n := by simp; omega
   by_cases h0 : n = 0
   ·subst h0
    refine ⟨A, cap, [], by simp, ⟨by simp [flat], fun i c v hc => by simp [flat] at hc⟩, fun h => absurd h (by simp)⟩
   ·have hcp : 0 < E.cp id := by omega
    obtain ⟨arr, t, b1, b2, b3⟩ := a5 hcp
    have hnl : E.nl id = false := by
     cases hnl : E.nl id
     ·rfl
     ·have := (d3 hnl).2.1; omega
    rw [hnl] at b1
    replace b1 : w.heap[E.ρ id]? = some (.cells arr t (0, 0)) := b1
    obtain ⟨rfl, d6⟩ := d5 (by omega)
    have hmem : ∀ e ∈ (es'.drop i).take n, e.cells.length = E.sz id := fun e he => a3 e (List.mem_of_mem_drop (List.mem_of_mem_take he))
    have hfit : (E.bo id + i) * E.sz id + n * E.sz id ≤ arr.size := by rw [b2, ← Nat.add_mul]; exact Nat.mul_le_mul_right _ (by omega)
    refine ⟨_, cap, (arr.toList.drop ((E.bo id + i) * E.sz id)).take (n * E.sz id), by rw [hlen], ⟨by rw [flat_len hmem, hlen]; simp; omega, fun k c v hk hkv => ?_⟩, fun _ => ⟨_, _, rfl, fun j u hj => ?_⟩⟩
    ·obtain ⟨i2, j, e, rfl, hj, he, hcj⟩ := (flat_iff hmem).1 hk
     rw [List.getElem?_take] at he hkv
     split at he
     case isFalse => cases he
     split at hkv
     case isFalse => cases hkv
     rw [List.getElem?_drop] at he hkv
     obtain ⟨v', c1, c2⟩ := b3 _ c ((flat_iff a3).2 ⟨i + i2, j, e, rfl, hj, he, hcj⟩)
     have e1 : (E.bo id + i) * E.sz id + (i2 * E.sz id + j) = E.bo id * E.sz id + ((i + i2) * E.sz id + j) := by rw [Nat.add_mul, Nat.add_mul]; omega
     rw [e1, Array.getElem?_toList, c1] at hkv
     cases hkv
     exact c2
    ·rw [List.getElem?_take] at hj
     split at hj
     case isFalse => cases hj
     rw [List.getElem?_drop, Array.getElem?_toList] at hj
     simp [World.cell?, b1, hj]
 ·cases he
theorem Src.of_elems {t e' : TypeId} {A : Option Addr} {cap sz : Nat} {es : List MV} {vs : List Value} (ht : P.underlying t = some (.slice e')) (hvs : Vs E w (flat es) vs) (hsz : ∀ e ∈ es, e.cells.length = sz) (hone : ∀ e ∈ es, ∀ c ∈ e.cells, c.one = true)
  (hA : 0 < es.length → ∃ b off, A = some ⟨b, off, none⟩ ∧ ∀ (i : Nat) u, vs[i]? = some u → w.cell? ⟨b, off + i, none⟩ = some u) : Src P sz t (.slice A es.length cap) es.length vs w := by
 have hl : vs.length = es.length * sz := by rw [← hvs.1, flat_len hsz]
 have h1 : ∀ u ∈ vs, u.oneCell' = true := fun u hu => by
  obtain ⟨i, hi⟩ := List.getElem?_of_mem hu
  have hil := (List.getElem?_eq_some_iff.1 hi).1
  have hc : (flat es)[i]? = some ((flat es)[i]'(hvs.1 ▸ hil)) := by simp
  refine (hvs.2 i _ u hc hi).one ?_
  obtain ⟨i2, j, e, -, -, he, hcj⟩ := (flat_iff hsz).1 hc
  exact hone e (List.mem_of_getElem? he) _ (List.mem_of_getElem? hcj)
 by_cases h0 : 0 < es.length
 ·obtain ⟨b, off, rfl, hc⟩ := hA h0
  exact Src.ofSlice w ht ⟨b, off, none⟩ es.length cap vs hl (fun j u hj => by rw [Addr.add_none]; exact hc j u hj) h1
 ·have he : es = [] := by cases es <;> simp_all
  subst he
  have hv : vs = [] := by simpa using hl
  subst hv
  exact ⟨.inl ⟨e', ht⟩, fun _ => rfl, by cases A <;> simp [Builtin.firstCells, loadCells, loadCellsFrom], by cases A <;> simp [Builtin.firstCells, loadCells, loadCellsFrom], by simp, fun _ h => by cases h⟩
theorem sOk_spec {e : MV} {sz : Nat} (h : e.sOk sz = true) : e.cells.length = sz ∧ ∀ c ∈ e.cells, c.one = true := by
 unfold MV.sOk at h
 simp only [Bool.and_eq_true, beq_iff_eq] at h
 exact ⟨h.1, fun c hc => List.all_eq_true.1 h.2 c hc⟩
theorem append_grow {t tx e e' : TypeId} {ty : TypeId} {inf : TypeInfo} {zv : Value} (ht : P.underlying t = some (.slice e)) (htx : P.underlying tx = some (.slice e')) (hi : P.info? e = some inf) (hz : inf.zero = some zv) (hzs : zv.cells.size = inf.size) (hby : inf.bytes ≤ 100000)
  {A B : Option Addr} {cap xcap : Nat} {olds xs : List MV} {ovs xvs : List Value} (hov : Vs E w (flat olds) ovs) (hosz : ∀ e ∈ olds, e.cells.length = inf.size)
  (hoA : 0 < olds.length → ∃ b off, A = some ⟨b, off, none⟩ ∧ ∀ (i : Nat) u, ovs[i]? = some u → w.cell? ⟨b, off + i, none⟩ = some u)
  (hxv : Vs E w (flat xs) xvs) (hxs : ∀ e ∈ xs, e.sOk inf.size = true) (hxA : 0 < xs.length → ∃ b off, B = some ⟨b, off, none⟩ ∧ ∀ (i : Nat) u, xvs[i]? = some u → w.cell? ⟨b, off + i, none⟩ = some u)
  (hg : cap < olds.length + xs.length) (hm : olds.length + xs.length ≤ 4000000) :
  ∃ (c : Array Value) (cap' : Nat), (Builtin.append_ #[t, tx] ty #[.slice A olds.length cap, .slice B xs.length xcap]).run P w = .ok (.slice (some ⟨w.heap.size, 0, none⟩) (olds.length + xs.length) cap') (w.drew.alloc (.cells c e)) ∧
   olds.length + xs.length ≤ cap' ∧ c.size = cap' * inf.size ∧ ∀ (k : Nat) m, (flat (olds ++ xs))[k]? = some m → ∃ v, c[k]? = some v ∧ V E w m v := by
 have hxsz : ∀ e ∈ xs, e.cells.length = inf.size := fun e he => (sOk_spec (hxs e he)).1
 have hsrc := Src.of_elems (P := P) (cap := xcap) htx hxv hxsz (fun e he => (sOk_spec (hxs e he)).2) hxA
 have hol : ovs.length = olds.length * inf.size := by rw [← hov.1, flat_len hosz]
 have hxl : xvs.length = xs.length * inf.size := by rw [← hxv.1, flat_len hxsz]
 have hold : (Builtin.firstCells inf.size olds.length (.slice A olds.length cap)).run P w.drew = .ok ovs.toArray w.drew := by
  by_cases h0 : 0 < olds.length
  ·obtain ⟨b, off, rfl, hc⟩ := hoA h0
   exact run_firstCells_some w.drew inf.size olds.length ⟨b, off, none⟩ olds.length cap ovs hol (fun j u hj => by rw [Addr.add_none]; exact hc j u hj)
  ·have he : olds = [] := by cases olds <;> simp_all
   subst he
   have hv : ovs = [] := by simpa using hol
   subst hv
   cases A <;> simp [Builtin.firstCells, loadCells, loadCellsFrom]
 have hcap : cap < olds.length + xs.length := hg
 have hfit : Builtin.nextslicecap (olds.length + xs.length) cap * inf.bytes ≤ 281474976710656 := by
  have := nextcap_le hcap hm
  have := Nat.mul_le_mul this hby
  omega
 have hrun := run_append_grow_src (P := P) w t tx ty e inf zv ht hi hz A olds.length cap ovs hold (.slice B xs.length xcap) xs.length xvs hsrc hg (by omega) hfit
 have hge := grownCap_ge w (olds.length + xs.length) cap e
 refine ⟨_, _, hrun, hge, ?_, fun k m hk => ?_⟩
 ·simp only [Array.size_append, List.size_toArray, List.length_append, size_zeroCells, hzs, hol, hxl]
  rw [← Nat.add_mul, ← Nat.add_mul]
  congr 1
  omega
 ·have hk2 : (flat olds ++ flat xs)[k]? = some m := by simpa [flat] using hk
  have hkl := (List.getElem?_eq_some_iff.1 hk2).1
  rw [List.length_append] at hkl
  by_cases hlt : k < (flat olds).length
  ·rw [List.getElem?_append_left hlt] at hk2
   have hlt' : k < ovs.length := hov.1 ▸ hlt
   refine ⟨ovs[k], ?_, hov.2 k m _ hk2 (by simp)⟩
   rw [Array.getElem?_append_left (by simp; omega)]
   simp [List.getElem?_append_left hlt', hlt']
  ·rw [List.getElem?_append_right (by omega)] at hk2
   have h1 := hov.1
   have h2 := hxv.1
   have hlt' : k - ovs.length < xvs.length := by omega
   rw [h1] at hk2
   refine ⟨xvs[k - ovs.length], ?_, hxv.2 _ m _ hk2 (by simp)⟩
   rw [Array.getElem?_append_left (by simp; omega)]
   simp [List.getElem?_append_right (show ovs.length ≤ k by omega), hlt']
end
end Go.Proofs.YtfchdbghjeophaaDoor
namespace Go.Proofs.YtfchdbghjeophaaDoor
open Go.RowKit
section
variable {lk : Nat → Bool} {P : Program} {w : World} {E : Env} {o : Oper} {a : Act} {s : List MV} {h : MHeap}
theorem flat_app (xs ys : List MV) : flat (xs ++ ys) = flat xs ++ flat ys := by simp [flat]
theorem eff_app {t tx e e' : TypeId} {inf : TypeInfo} {z : MV} {c : Call} {x y : Operand} {x' y' : MX} {v : MV} {h' : MHeap} {O : Oracle} (ho : o.op = .call c) (hc : c.callee = .builtin .append) (ha : c.args = #[x, y]) (hat : c.argTypes = #[t, tx])
  (ht : P.underlying t = some (.slice e)) (htx : P.underlying tx = some (.slice e')) (hi : P.info? e = some inf) (hz : tzero P e = some z) (hby : inf.bytes ≤ 100000) (hzl : z.cells.length = inf.size) (hok : z.cOk = true)
  (hx : cX x = some x') (hy : cX y = some y') (hs : Slots E w s a) (hr : HRel E h w) (he : evO lk O s h (.app inf.size x' y') = some (v, h')) : Eff lk P o a w E v h' := by
 have h1 := hs.x hx
 have h2 := hs.x hy
 unfold tzero at hz
 rw [Option.map_eq_some_iff] at hz
 obtain ⟨zv, hzv, rfl⟩ := hz
 obtain ⟨inf', hinf', hzero⟩ := Option.bind_eq_some_iff.1 hzv
 rw [hi] at hinf'
 cases hinf'
 have hzs : zv.cells.size = inf.size := by have := (ofV_ok (E := E) (w := w) hok).1; rw [hzl] at this; simpa using this.symm
 have hrunS : ∀ {u v : Value} {w' : World} {r : Value}, a.eval x = u → a.eval y = v → (Builtin.append_ #[t, tx] o.type #[u, v]).run P w = .ok r w' → (execOp a.eval o).run P w = .ok (.value r) w' := by
  intro u v w' r e1 e2 hrun
  simp [execOp, ho, resolve, hc, ha, hat, invoke, builtin, e1, e2, hrun]
 simp only [evO] at he
 split at he
 ·rename_i id i n g xs hb hel
  split at he
  case h_2 => cases he
  rename_i ob hob
  split at he
  case isFalse => cases he
  rename_i hog
  obtain ⟨og1, og2, og3⟩ := hog
  rw [hb] at h1
  have h1' := h1
  generalize hxv : a.eval x = xv at h1
  cases h1 with
  | arr _ _ _ _ A cap hk hg hd =>
   obtain ⟨es, a1, a2, a3, a4, a5⟩ := hr.obj id hk
   rw [hob] at a1
   simp only [Option.some.injEq] at a1
   subst a1
   dsimp only at og1 og2 og3 he ⊢
   obtain ⟨d1, d2, d3, d4, d5⟩ := hd og1
   split at he
   ·rename_i hx0
    subst hx0
    simp only [Option.some.injEq, Prod.mk.injEq] at he
    obtain ⟨rfl, rfl⟩ := he
    obtain ⟨B, xcap, xvs, e2, hvs, hA⟩ := h2.elems hr (sz := inf.size) hel (by simp)
    have hxv0 : xvs = [] := by have := hvs.1; simpa [flat] using this.symm
    subst hxv0
    have hsrc := Src.of_elems (P := P) (cap := xcap) (sz := inf.size) htx hvs (by simp) (by simp) hA
    have hrun := run_append_nothing (P := P) w t tx o.type e inf ht hi A n cap d2 (.slice B 0 xcap) hsrc
    refine ⟨.slice A n cap, w, E, .inl (hrunS hxv e2 hrun), ?_, hr, Ext.refl _ _ _⟩
    rw [hxv] at h1'
    exact h1'
   ·rename_i hx0
    split at he
    case isFalse => cases he
    rename_i hcond
    obtain ⟨hm, hall⟩ := hcond
    simp only [Option.some.injEq, Prod.mk.injEq] at he
    obtain ⟨rfl, rfl⟩ := he
    have hxs : ∀ e ∈ xs, e.sOk inf.size = true := fun e he => List.all_eq_true.1 hall.1 e he
    have hxsz : ∀ e ∈ xs, e.cells.length = inf.size := fun e he => (sOk_spec (hxs e he)).1
    have hpos : 0 < xs.length := List.length_pos_iff.2 hx0
    obtain ⟨B, xcap, xvs, e2, hvs, hB⟩ := h2.elems hr hel hxsz
    have hidl := hr.klt id hk
    have hdl : (es.drop i).length = n := by simp; omega
    have hgk : E.K id → E.gn id < g + 1 ∧ lk id = false := fun _ => ⟨by omega, hall.2⟩
    have hdsz : ∀ e ∈ es.drop i ++ xs, e.cells.length = inf.size := fun e he => by
     rcases List.mem_append.1 he with h | h
     ·rw [a3 e (List.mem_of_mem_drop h), og3]
     ·exact hxsz e h
    have hlen2 : (es.drop i ++ xs).length = n + xs.length := by rw [List.length_append, hdl]
    have helems : MV.elems h (.arr id i n g) = some (es.drop i) := by
     unfold MV.elems
     simp only [hob, og1, true_and]
     rw [if_pos (by omega), List.take_of_length_le (by omega)]
    obtain ⟨A2, cap2, ovs, e3, hov, hoA⟩ := h1'.elems hr (sz := inf.size) helems (fun e he => by rw [a3 e (List.mem_of_mem_drop he), og3])
    rw [hxv] at e3
    simp only [Value.slice.injEq] at e3
    obtain ⟨rfl, e4, rfl⟩ := e3
    by_cases hroom : n + xs.length ≤ cap
    ·obtain ⟨rfl, d6⟩ := d5 (by omega)
     have hcp : 0 < E.cp id := by omega
     obtain ⟨arr, te, b1, b2, b3⟩ := a5 hcp
     have hnl : E.nl id = false := by
      cases hnl : E.nl id
      ·rfl
      ·have := (d3 hnl).2.1; omega
     rw [hnl] at b1
     replace b1 : w.heap[E.ρ id]? = some (.cells arr te (0, 0)) := b1
     have hxl : xvs.length = xs.length * inf.size := by rw [← hvs.1, flat_len hxsz]
     have hsrc := Src.of_elems (P := P) (cap := xcap) htx hvs hxsz (fun e he => (sOk_spec (hxs e he)).2) hB
     have hfit : (E.bo id + i) * inf.size + n * inf.size + xvs.length ≤ arr.size := by
      rw [b2, og3, hxl, ← Nat.add_mul, ← Nat.add_mul]
      exact Nat.mul_le_mul_right _ (by omega)
     have hst := run_storeCells_at (P := P) (E.ρ id) ((E.bo id + i) * inf.size + n * inf.size) te xvs 0 arr w b1 (by simpa using hfit) hsrc.one
     simp only [Nat.add_zero] at hst
     generalize harr : (arr.toList.take ((E.bo id + i) * inf.size + n * inf.size) ++ xvs ++ arr.toList.drop ((E.bo id + i) * inf.size + n * inf.size + xvs.length)).toArray = arr' at hst
     have hsz' : arr'.size = arr.size := by
      rw [← harr]
      simp only [List.size_toArray, List.length_append, List.length_take, List.length_drop, Array.length_toList]
      omega
     have hrun : (Builtin.append_ #[t, tx] o.type #[.slice (some ⟨E.ρ id, (E.bo id + i) * E.sz id, none⟩) n cap, .slice B xs.length xcap]).run P w = .ok (.slice (some ⟨E.ρ id, (E.bo id + i) * E.sz id, none⟩) (n + xs.length) cap) (w.setRow (E.ρ id) arr') := by
      simp [Builtin.append_, run_underlying ht, run_underlying htx, sizeOf, typeInfo, hi, hsrc.len, hroom, hsrc.cells, Addr.add_none, og3, hst]
     have honly : OnlyObj lk E w (w.setRow (E.ρ id) arr') id := ⟨rfl, rfl, rfl, by simp [World.setRow], fun k _ hne => setRow_other w _ k _ (fun e => hne hk hall.2 hcp e.symm)⟩
     have hx2 : Ext lk E w (E.put id (E.ρ id) (E.bo id + i) (E.cp id) inf.size (g + 1) (es.drop i ++ xs).length false) (w.setRow (E.ρ id) arr') := Ext.put honly hgk (fun _ => .inr ⟨hk, hcp, rfl⟩) (.inl hk)
     obtain ⟨r1, r2⟩ := hr.put (h' := h.set id ⟨g + 1, false, inf.size, es.drop i ++ xs⟩) (b := E.ρ id) (bo := E.bo id + i) (cp := E.cp id) (sz := inf.size) (g := g + 1) (nl := false) (es := es.drop i ++ xs) honly hgk (fun _ => .inr ⟨hk, hcp, rfl⟩)
      (fun j hj _ => List.getElem?_set_ne (fun e => hj e.symm)) (by simp [hidl]) hdsz (by omega)
      (fun _ => ⟨arr', te, setRow_heap w _ arr arr' te _ b1, by rw [hsz', b2, og3], fun k m hkm => by
       rw [flat_app] at hkm
       have hdl2 : (flat (es.drop i)).length = n * inf.size := by rw [flat_len (sz := inf.size) (fun e he => by rw [a3 e (List.mem_of_mem_drop he), og3]), hdl]
       by_cases hlt : k < n * inf.size
       ·rw [List.getElem?_append_left (by omega)] at hkm
        obtain ⟨i2, j, e5, rfl, hj, he5, hcj⟩ := (flat_iff (sz := inf.size) (fun e he => by rw [a3 e (List.mem_of_mem_drop he), og3])).1 hkm
        rw [List.getElem?_drop] at he5
        obtain ⟨u, c1, c2⟩ := b3 _ m ((flat_iff a3).2 ⟨i + i2, j, e5, rfl, by rw [og3]; exact hj, he5, hcj⟩)
        refine ⟨u, ?_, c2.ext hr hx2⟩
        rw [← harr, List.getElem?_toArray, List.append_assoc, List.getElem?_append_left (by simp; omega), List.getElem?_take, if_pos (by omega), Array.getElem?_toList]
        rw [og3] at c1
        rw [← c1]
        congr 1
        rw [Nat.add_mul, Nat.add_mul]
        omega
       ·rw [List.getElem?_append_right (by omega), hdl2] at hkm
        have hkl := (List.getElem?_eq_some_iff.1 hkm).1
        have hv1 := hvs.1
        have hlt2 : k - n * inf.size < xvs.length := by omega
        refine ⟨xvs[k - n * inf.size], ?_, (hvs.2 _ m _ hkm (by simp)).ext hr hx2⟩
        rw [← harr, List.getElem?_toArray, List.append_assoc, List.getElem?_append_right (by simp; omega), List.getElem?_append_left (by simp; omega)]
        have e6 : (E.bo id + i) * inf.size + k - (List.take ((E.bo id + i) * inf.size + n * inf.size) arr.toList).length = k - n * inf.size := by simp; omega
        rw [e6]; simp⟩) (by simp) (.inl hk)
     refine ⟨_, _, _, .inl (hrunS hxv e2 hrun), ?_, r1, r2⟩
     rw [hlen2]
     refine .arr _ _ _ _ _ _ (.inr rfl) (by simp [Env.put]) fun _ => ?_
     simp only [Env.put, if_true]
     exact ⟨by omega, hroom, fun h => (by cases h), fun _ => rfl, fun _ => ⟨by rw [og3]; simp, by omega⟩⟩
    ·have hgr := append_grow (P := P) (ty := o.type) (A := A) (B := B) (cap := cap) (xcap := xcap) ht htx hi hzero hzs hby hov (fun e he => by rw [a3 e (List.mem_of_mem_drop he), og3]) hoA hvs hxs hB (by omega) (by omega)
     obtain ⟨cc, cap', g1, g2, g3, g4⟩ := hgr
     rw [hdl] at g1 g2
     have hbel : Below w.heap.size w (w.drew.alloc (.cells cc e)) := ((Below.refl _ w).drew).alloc (Nat.le_refl _) _
     have honly : OnlyObj lk E w (w.drew.alloc (.cells cc e)) id := OnlyObj.of_below hbel
     have hx2 : Ext lk E w (E.put id w.heap.size 0 cap' inf.size (g + 1) (es.drop i ++ xs).length false) (w.drew.alloc (.cells cc e)) := Ext.put honly hgk (fun _ => .inl (Nat.le_refl _)) (.inl hk)
     obtain ⟨r1, r2⟩ := hr.put (h' := h.set id ⟨g + 1, false, inf.size, es.drop i ++ xs⟩) (b := w.heap.size) (bo := 0) (cp := cap') (sz := inf.size) (g := g + 1) (nl := false) (es := es.drop i ++ xs) honly hgk (fun _ => .inl (Nat.le_refl _))
      (fun j hj _ => List.getElem?_set_ne (fun e => hj e.symm)) (by simp [hidl]) hdsz (by omega)
      (fun _ => ⟨cc, e, World.alloc_heap_new w.drew _, g3, fun k m hkm => by
       obtain ⟨u, c1, c2⟩ := g4 k m hkm
       exact ⟨u, by simpa using c1, c2.ext hr hx2⟩⟩) (by simp) (.inl hk)
     refine ⟨_, _, _, .inl (hrunS hxv e2 g1), ?_, r1, r2⟩
     rw [hlen2]
     refine .arr _ _ _ _ _ _ (.inr rfl) (by simp [Env.put]) fun _ => ?_
     simp only [Env.put, if_true]
     exact ⟨by omega, g2, fun h => (by cases h), fun _ => rfl, fun _ => ⟨by simp, by omega⟩⟩
 ·rename_i xs hb hel
  rw [hb] at h1
  have hxv := h1.lit_eq
  split at he
  ·rename_i hx0
   subst hx0
   simp only [Option.some.injEq, Prod.mk.injEq] at he
   obtain ⟨rfl, rfl⟩ := he
   obtain ⟨B, xcap, xvs, e2, hvs, hA⟩ := h2.elems hr (sz := inf.size) hel (by simp)
   have hxv0 : xvs = [] := by have := hvs.1; simpa [flat] using this.symm
   subst hxv0
   have hsrc := Src.of_elems (P := P) (cap := xcap) (sz := inf.size) htx hvs (by simp) (by simp) hA
   have hrun := run_append_nothing (P := P) w t tx o.type e inf ht hi none 0 0 (Nat.le_refl _) (.slice B 0 xcap) hsrc
   exact ⟨_, w, E, .inl (hrunS hxv e2 hrun), .lit _, hr, Ext.refl _ _ _⟩
  ·rename_i hx0
   split at he
   case isFalse => cases he
   rename_i hcond
   obtain ⟨hm, hall⟩ := hcond
   simp only [Option.some.injEq, Prod.mk.injEq] at he
   obtain ⟨rfl, rfl⟩ := he
   have hxs : ∀ e ∈ xs, e.sOk inf.size = true := fun e he => List.all_eq_true.1 hall e he
   have hxsz : ∀ e ∈ xs, e.cells.length = inf.size := fun e he => (sOk_spec (hxs e he)).1
   have hpos : 0 < xs.length := List.length_pos_iff.2 hx0
   obtain ⟨B, xcap, xvs, e2, hvs, hB⟩ := h2.elems hr hel hxsz
   have hgr := append_grow (P := P) (w := w) (E := E) (ty := o.type) (A := none) (B := B) (cap := 0) (xcap := xcap) (olds := []) (ovs := []) ht htx hi hzero hzs hby ⟨rfl, fun i c v hc => by simp [flat] at hc⟩ (by simp) (by simp) hvs hxs hB (by simp; omega) (by simpa using hm)
   obtain ⟨cc, cap', g1, g2, g3, g4⟩ := hgr
   simp only [List.length_nil, Nat.zero_add, List.nil_append] at g1 g2 g4
   have hbel : Below w.heap.size w (w.drew.alloc (.cells cc e)) := ((Below.refl _ w).drew).alloc (Nat.le_refl _) _
   obtain ⟨r1, r2⟩ := hr.add (b := w.heap.size) (cp := cap') (sz := inf.size) (nl := false) hbel hxsz g2 (fun _ => ⟨Nat.le_refl _, cc, e, World.alloc_heap_new w.drew _, g3, g4⟩)
   refine ⟨_, _, _, .inl (hrunS hxv e2 g1), ?_, r1, r2⟩
   exact arr_put g2
 ·rename_i xs hb hel
  rw [hb] at h1
  obtain ⟨ad, hxv⟩ : ∃ ad, a.eval x = .slice (some ad) 0 0 := by
   generalize a.eval x = xv at h1
   cases h1 with
   | emp ad => exact ⟨ad, rfl⟩
  split at he
  ·rename_i hx0
   subst hx0
   simp only [Option.some.injEq, Prod.mk.injEq] at he
   obtain ⟨rfl, rfl⟩ := he
   obtain ⟨B, xcap, xvs, e2, hvs, hA⟩ := h2.elems hr (sz := inf.size) hel (by simp)
   have hxv0 : xvs = [] := by have := hvs.1; simpa [flat] using this.symm
   subst hxv0
   have hsrc := Src.of_elems (P := P) (cap := xcap) (sz := inf.size) htx hvs (by simp) (by simp) hA
   have hrun := run_append_nothing (P := P) w t tx o.type e inf ht hi (some ad) 0 0 (Nat.le_refl _) (.slice B 0 xcap) hsrc
   exact ⟨_, w, E, .inl (hrunS hxv e2 hrun), .emp ad, hr, Ext.refl _ _ _⟩
  ·rename_i hx0
   split at he
   case isFalse => cases he
   rename_i hcond
   obtain ⟨hm, hall⟩ := hcond
   simp only [Option.some.injEq, Prod.mk.injEq] at he
   obtain ⟨rfl, rfl⟩ := he
   have hxs : ∀ e ∈ xs, e.sOk inf.size = true := fun e he => List.all_eq_true.1 hall e he
   have hxsz : ∀ e ∈ xs, e.cells.length = inf.size := fun e he => (sOk_spec (hxs e he)).1
   have hpos : 0 < xs.length := List.length_pos_iff.2 hx0
   obtain ⟨B, xcap, xvs, e2, hvs, hB⟩ := h2.elems hr hel hxsz
   have hgr := append_grow (P := P) (w := w) (E := E) (ty := o.type) (A := some ad) (B := B) (cap := 0) (xcap := xcap) (olds := []) (ovs := []) ht htx hi hzero hzs hby ⟨rfl, fun i c v hc => by simp [flat] at hc⟩ (by simp) (by simp) hvs hxs hB (by simp; omega) (by simpa using hm)
   obtain ⟨cc, cap', g1, g2, g3, g4⟩ := hgr
   simp only [List.length_nil, Nat.zero_add, List.nil_append] at g1 g2 g4
   have hbel : Below w.heap.size w (w.drew.alloc (.cells cc e)) := ((Below.refl _ w).drew).alloc (Nat.le_refl _) _
   obtain ⟨r1, r2⟩ := hr.add (b := w.heap.size) (cp := cap') (sz := inf.size) (nl := false) hbel hxsz g2 (fun _ => ⟨Nat.le_refl _, cc, e, World.alloc_heap_new w.drew _, g3, g4⟩)
   refine ⟨_, _, _, .inl (hrunS hxv e2 g1), ?_, r1, r2⟩
   exact arr_put g2
 ·cases he
end
section
variable {P : Program} {w : World} {E : Env}
theorem run_partI {xs : Array Value} {i : Nat} {f : Field} {kk : IntKind} {v : Value} (hu : P.underlying f.type = some (.int kk)) (hv : xs[i]? = some v) : (part f.type xs i).run P w = .ok v w := by
 have hag : (isAgg f.type).run P w = .ok false w := run_isAgg hu rfl w
 simp [part, hag, hv]
theorem intFields_cons {i : Nat} {f : Field} {fs : List Field} (hf : intFields P i (f :: fs) = true) : f.offset = i ∧ f.name ≠ "_" ∧ (∃ kk, P.underlying f.type = some (.int kk)) ∧ intFields P (i + 1) fs = true := by
 simp only [intFields, Bool.and_eq_true, beq_iff_eq, bne_iff_ne] at hf
 obtain ⟨⟨⟨f1, f2⟩, f3⟩, f4⟩ := hf
 refine ⟨f1, f2, ?_, f4⟩
 split at f3
 ·rename_i kk hh; exact ⟨kk, hh⟩
 ·cases f3
theorem run_checkKeyS {t : TypeId} {fs : Array Field} {xs : Array Value} (hu : P.underlying t = some (.struct fs)) (hf : intFields P 0 fs.toList = true) (hl : fs.size ≤ xs.size) (em : Bool) (n : Nat) : (Instr.checkKey em (n + 2) t (.agg xs)).run P w = .ok () w := by
 rw [Instr.checkKey]
 simp only [Sem.run_bind, run_underlying hu, Result.andThen_ok]
 rw [← Array.forIn_toList]
 have key : ∀ (L : List Field) (i : Nat), intFields P i L = true → i + L.length ≤ xs.size → (forIn L PUnit.unit fun f r => do
   if f.name ≠ "_" then
    let x ← part f.type xs f.offset
    Instr.checkKey em (n + 1) f.type x
    pure (ForInStep.yield PUnit.unit)
   else
    pure PUnit.unit
    pure (ForInStep.yield PUnit.unit) : Sem PUnit).run P w = .ok PUnit.unit w := by
  intro L
  induction L with
  | nil => intro i _ _; simp
  | cons f L ih =>
   intro i h1 h2
   obtain ⟨k1, k2, ⟨kk, k3⟩, k4⟩ := intFields_cons h1
   simp only [List.length_cons] at h2
   obtain ⟨u, hx⟩ : ∃ u, xs[i]? = some u := ⟨_, Array.getElem?_eq_getElem (by omega)⟩
   have p1 := run_partI (P := P) (w := w) (xs := xs) (i := i) k3 hx
   rw [← k1] at p1
   have p2 : ∀ v, (Instr.checkKey em (n + 1) f.type v).run P w = .ok () w := fun v => by
    simp [Instr.checkKey, run_underlying k3]
   simp only [List.forIn_cons, Sem.run_bind, k2, ne_eq, not_false_eq_true, if_true, Result.andThen_ok, p1, p2, Sem.run_pure]
   exact ih (i + 1) k4 (by omega)
 have := key fs.toList 0 hf (by simpa using hl)
 simp at this ⊢
 simp [this, Result.andThen]
theorem run_keyEqS {kt : TypeId} {fs : Array Field} {xs ys : Array Value} {ps qs : List MV} {b : Bool} (hu : P.underlying kt = some (.struct fs)) (hf : intFields P 0 fs.toList = true) (hst : P.stoodInHeld kt = false) (hp : ps.length = fs.size) (he : litEq ps qs = some b)
  (h1 : Vs E w ps xs.toList) (h2 : Vs E w qs ys.toList) : (Op.equal kt (.agg xs) (.agg ys)).run P w = .ok b w := by
 have hfo : P.fieldsOf kt = fs := by simp [Program.fieldsOf, hu]
 have hrun := run_eqFields (P := P) (E := E) (w := w) (d := 9998) (xs := xs) (ys := ys) hf (by simpa using hp) he (by simpa using h1) (by simpa using h2)
 have h3 := run_equalIn_struct (P := P) w 9999 kt xs ys (by rw [hfo]; exact hu) hst
 rw [hfo] at h3
 simp only [Op.equal, Op.maxDepth]
 exact h3.trans hrun
def EntV (E : Env) (w : World) (es : List MV) (l : List MapEntry) : Prop := es.length = l.length ∧ ∀ (i : Nat) c e, es[i]? = some c → l[i]? = some e → V E w c (.tuple #[e.key, e.val])
theorem EntV.tail {c : MV} {es : List MV} {e : MapEntry} {l : List MapEntry} (h : EntV E w (c :: es) (e :: l)) : EntV E w es l := ⟨by have := h.1; simpa using this, fun i c' e' h1 h2 => h.2 (i + 1) c' e' (by simpa using h1) (by simpa using h2)⟩
theorem V.pair {k v : MV} {a b : Value} (h : V E w (.tup [k, v]) (.tuple #[a, b])) : V E w k a ∧ V E w v b := by
 generalize hx : Value.tuple #[a, b] = x at h
 cases h with
 | tup cs vs hl hv =>
  simp only [Value.tuple.injEq] at hx
  have : vs = [a, b] := by
   have := congrArg Array.toList hx
   simpa using this.symm
  subst this
  exact ⟨hv 0 _ _ rfl rfl, hv 1 _ _ rfl rfl⟩
theorem V.aggK {ps : List MV} {a : Value} (h : V E w (.agg ps) a) : ∃ xs : Array Value, a = .agg xs ∧ Vs E w ps xs.toList := by
 cases h with
 | agg cs vs hl hv => exact ⟨vs.toArray, rfl, ⟨by simpa using hl, by simpa using hv⟩⟩
theorem run_findS {kt : TypeId} {fs : Array Field} {xs : Array Value} {ps : List MV} (hu : P.underlying kt = some (.struct fs)) (hf : intFields P 0 fs.toList = true) (hst : P.stoodInHeld kt = false) (hp : ps.length = fs.size) (hx : Vs E w ps xs.toList) :
  ∀ {es : List MV} {l : List MapEntry} {i : Nat} {r : Option (Nat × MV)}, EntV E w es l → mfind ps es i = some r →
   match r with
   | none => (Instr.findAsking kt (.agg xs) l i).run P w = .ok none w
   | some (j, v) => i ≤ j ∧ ∃ e qs ys, l[j - i]? = some e ∧ (Instr.findAsking kt (.agg xs) l i).run P w = .ok (some (j, e.val)) w ∧ V E w v e.val ∧ e.key = .agg ys ∧ Vs E w qs ys.toList ∧ litEq ps qs = some true := by
 intro es
 induction es with
 | nil =>
  intro l i r hE hm
  have : l = [] := List.length_eq_zero_iff.1 hE.1.symm
  subst this
  simp only [mfind, Option.some.injEq] at hm
  subst hm
  simp [Instr.findAsking]
 | cons c es ih =>
  intro l i r hE hm
  cases l with
  | nil => have := hE.1; simp at this
  | cons e l =>
   obtain ⟨qs, v, rfl⟩ : ∃ qs v, c = .tup [.agg qs, v] := by
    unfold mfind at hm
    split at hm
    ·rename_i e; cases e
    ·rename_i e
     simp only [List.cons.injEq] at e
     exact ⟨_, _, e.1⟩
    ·cases hm
   have hm : (match litEq ps qs with
    | some true => some (some (i, v))
    | some false => mfind ps es (i + 1)
    | none => none) = some r := hm
   ·obtain ⟨h1, h2⟩ := (hE.2 0 _ _ rfl rfl).pair
    obtain ⟨ys, hk, hys⟩ := h1.aggK
    split at hm
    ·rename_i he
     simp only [Option.some.injEq] at hm
     subst hm
     have hrun := run_keyEqS hu hf hst hp he hx hys
     refine ⟨Nat.le_refl _, e, qs, ys, by simp, ?_, h2, hk, hys, he⟩
     rw [← hk] at hrun
     simp [Instr.findAsking, hrun]
    ·rename_i he
     have hrun := run_keyEqS hu hf hst hp he hx hys
     rw [← hk] at hrun
     have := ih hE.tail hm
     cases r with
     | none =>
      simp only at this ⊢
      simp [Instr.findAsking, hrun, this]
     | some jv =>
      obtain ⟨j, v'⟩ := jv
      simp only at this ⊢
      obtain ⟨a1, e', qs', ys', a2, a3, a4, a5, a6, a7⟩ := this
      refine ⟨by omega, e', qs', ys', ?_, ?_, a4, a5, a6, a7⟩
      ·rw [show j - i = (j - (i + 1)) + 1 by omega]; simpa using a2
      ·simp [Instr.findAsking, hrun, a3]
    ·cases hm
theorem run_findKeyS {kt : TypeId} {fs : Array Field} (hu : P.underlying kt = some (.struct fs)) (x : Value) (l : List MapEntry) : (Instr.findKey kt x l).run P w = (Instr.findAsking kt x l).run P w :=
 run_findKey_eq w (by rw [hu]) x l
theorem V.mapOf {h : MHeap} {m : MV} {v : Value} {es : List MV} (hr : HRel E h w) (hv : V E w m v) (he : m.ents h = some es) : ∃ b ents ck, v = .map (some b) ∧ w.heap[b]? = some (.map ents ck) ∧ EntV E w es ents.toList := by
 have tk : ∀ {ents : Array MapEntry} {vs : List Value}, mapV ents = .tuple vs.toArray → es.length = vs.length → (∀ (i : Nat) c v, es[i]? = some c → vs[i]? = some v → V E w c v) → EntV E w es ents.toList := by
  intro ents vs hm hl hv
  have hvs : vs = ents.toList.map fun e => Value.tuple #[e.key, e.val] := by
   unfold mapV at hm
   simp only [Value.tuple.injEq] at hm
   have := congrArg Array.toList hm
   simpa using this.symm
  subst hvs
  refine ⟨by simpa using hl, fun i c e h1 h2 => hv i c _ h1 (by rw [List.getElem?_map, h2]; rfl)⟩
 cases hv with
 | rm es' vs b ents ck hl hv hm hb hc =>
  simp only [MV.ents, Option.some.injEq] at he
  subst he
  exact ⟨b, ents, ck, rfl, hc, tk hm hl hv⟩
 | mp id g b hk hg hd =>
  simp only [MV.ents] at he
  split at he
  case h_2 => cases he
  rename_i ob hob
  split at he
  case isFalse => cases he
  rename_i hc
  split at he
  case h_2 => cases he
  rename_i es' hes
  simp only [Option.some.injEq] at he
  subst he
  obtain ⟨es0, a1, a2, a3, a4, a5⟩ := hr.obj id hk
  rw [hob] at a1
  simp only [Option.some.injEq] at a1
  subst a1
  simp only at hc hes
  subst hes
  obtain ⟨rfl, d2, d3⟩ := hd hc.1
  obtain ⟨arr, t, b1, b2, b3⟩ := a5 d3
  rw [d2] at b1
  obtain ⟨ents, ck, b4, rfl⟩ := b1
  have h0 : E.bo id * E.sz id + 0 = 0 := by
   have hz : (MV.tup es').cells.length = E.sz id := a3 _ List.mem_cons_self
   simp only [MV.cells, List.length_cons, List.length_nil] at hz
   simp only [List.size_toArray, List.length_cons, List.length_nil] at b2
   rw [← hz, Nat.mul_one] at b2
   simp only [List.length_cons, List.length_nil] at a4
   rw [← hz]; omega
  obtain ⟨v, b5, b6⟩ := b3 0 (.tup es') rfl
  rw [h0] at b5
  simp only [List.getElem?_toArray, List.getElem?_cons_zero, Option.some.injEq] at b5
  subst b5
  generalize hx : mapV ents = x at b6
  cases b6 with
  | tup cs vs hl hv => exact ⟨_, ents, ck, rfl, b4, tk hx hl hv⟩
 | lit v => simp [MV.ents] at he
 | _ => simp [MV.ents] at he
end
section
variable {lk : Nat → Bool} {P : Program} {w : World} {E : Env} {o : Oper} {a : Act} {s : List MV} {h : MHeap}
theorem eff_mkm {t kt et : TypeId} (ho : o.op = .makeMap t none) (_ht : P.underlying t = some (.map kt et)) (hr : HRel E h w) : Eff lk P o a w E (.mp h.length 0) (h ++ [⟨0, true, 1, [.tup []]⟩]) := by
 have hbel : Below w.heap.size w (w.alloc (.map #[] 0)) := (Below.refl _ w).alloc (Nat.le_refl _) _
 obtain ⟨r1, r2⟩ := hr.add (lk := lk) (b := w.heap.size) (cp := 1) (sz := 1) (nl := true) (es := [.tup []]) hbel (by simp [MV.cells]) (by simp) (fun _ => ⟨Nat.le_refl _, #[mapV #[]], 0, ⟨#[], 0, World.alloc_heap_new w _, rfl⟩, by simp, fun k c hk => by
  cases k with
  | zero =>
   simp [flat, MV.cells] at hk
   subst hk
   exact ⟨mapV #[], by simp, by have e : mapV #[] = .tuple #[] := (by simp [mapV]); rw [e]; exact .tup [] [] rfl fun i c v hc => (by simp at hc)⟩
  | succ k => simp [flat, MV.cells] at hk⟩)
 refine ⟨.map (some w.heap.size), _, _, .inl ?_, ?_, r1, r2⟩
 ·have := run_makeMap (P := P) t w
  simp [execOp, ho, this]
 ·exact .mp _ _ _ (.inr rfl) (by simp [Env.put]) fun _ => by simp [Env.put]
theorem pure_mlk {t kt et : TypeId} {fs : Array Field} {z : MV} {ok : Bool} {x k : Operand} {x' k' : MX} {v : MV} {h' : MHeap} {O : Oracle} (ho : o.op = .lookup t x k ok) (ht : P.underlying t = some (.map kt et)) (hu : P.underlying kt = some (.struct fs)) (hf : intFields P 0 fs.toList = true) (hst : P.stoodInHeld kt = false)
  (hz : tzero P et = some z) (hx : cX x = some x') (hk : cX k = some k') (hs : Slots E w s a) (hr : HRel E h w) (he : evO lk O s h (.mlk fs.size z ok x' k') = some (v, h')) : h' = h ∧ Pure P o a w E v := by
 have h1 := hs.x hx
 have h2 := hs.x hk
 simp only [evO] at he
 split at he
 case h_2 => cases he
 rename_i ps es e1 e2
 split at he
 case isFalse => cases he
 rename_i hl
 rw [e1] at h2
 obtain ⟨b, ents, ck, hxv, hb, hE⟩ := h1.mapOf hr e2
 obtain ⟨xs, hkv, hxs⟩ := h2.aggK
 have hck : (Instr.checkKey ents.isEmpty 10000 kt (.agg xs)).run P w = .ok () w := run_checkKeyS hu hf (by have := hxs.1; simp at this; omega) _ 9998
 obtain ⟨zv, hzr, rfl⟩ : ∃ zv, (zeroValue et).run P w = .ok zv w ∧ ofV zv = z := by
  unfold tzero at hz
  rw [Option.map_eq_some_iff] at hz
  obtain ⟨zv, hz, rfl⟩ := hz
  rw [Option.bind_eq_some_iff] at hz
  obtain ⟨i, h1, h2⟩ := hz
  exact ⟨zv, by simp [zeroValue, typeInfo, h1, h2], rfl⟩
 have two : ∀ {m : MV} {u : Value} {b : Bool}, V E w m u → V E w (.tup [m, .lit (.bool b)]) (.tuple #[u, .bool b]) := fun {m u b} hm => by
  have := V.tup (E := E) (w := w) [m, .lit (.bool b)] [u, .bool b] rfl fun i c v hc hv => by
   match i, hc, hv with
   | 0, hc, hv => simp at hc hv; subst hc hv; exact hm
   | 1, hc, hv => simp at hc hv; subst hc hv; exact .lit _
   | i + 2, hc, _ => simp at hc
  exact this
 split at he
 case h_2 => cases he
 rename_i r hm
 simp only [Option.some.injEq, Prod.mk.injEq] at he
 obtain ⟨rfl, rfl⟩ := he
 have a3 := run_findS hu hf hst hl hxs hE hm
 cases r with
 | some jv =>
  obtain ⟨j, v'⟩ := jv
  simp only at a3
  obtain ⟨_, e, qs, ys, a2, a3, a4, _⟩ := a3
  cases ok
  ·exact ⟨rfl, e.val, by simp [execOp, ho, hxv, hkv, Instr.lookup, run_underlying ht, MapKept.run_getObj_map hb, hck, run_findKeyS hu, a3, Result.andThen], a4⟩
  ·exact ⟨rfl, .tuple #[e.val, .bool true], by simp [execOp, ho, hxv, hkv, Instr.lookup, run_underlying ht, MapKept.run_getObj_map hb, hck, run_findKeyS hu, a3, Result.andThen], two a4⟩
 | none =>
  simp only at a3
  cases ok
  ·exact ⟨rfl, zv, by simp [execOp, ho, hxv, hkv, Instr.lookup, run_underlying ht, MapKept.run_getObj_map hb, hck, run_findKeyS hu, a3, hzr, Result.andThen], V.ofV _⟩
  ·exact ⟨rfl, .tuple #[zv, .bool false], by simp [execOp, ho, hxv, hkv, Instr.lookup, run_underlying ht, MapKept.run_getObj_map hb, hck, run_findKeyS hu, a3, hzr, Result.andThen], two (V.ofV _)⟩
theorem EntV.toV {es : List MV} {ents : Array MapEntry} (h : EntV E w es ents.toList) : V E w (.tup es) (mapV ents) := by
 have := V.tup (E := E) (w := w) es (ents.toList.map fun e => Value.tuple #[e.key, e.val]) (by simpa using h.1) fun i c v hc hv => by
  rw [List.getElem?_map, Option.map_eq_some_iff] at hv
  obtain ⟨e, he, rfl⟩ := hv
  exact h.2 i c e hc he
 have e1 : mapV ents = .tuple (ents.toList.map fun e => Value.tuple #[e.key, e.val]).toArray := by
  unfold mapV
  congr 1
  apply Array.ext'
  simp
 rw [e1]
 exact this
theorem EntV.rm {Es : Env} {es : List MV} {ents : Array MapEntry} {b ck : Nat} (h : EntV Es w es ents.toList) (hS : Es.S b) (hb : w.heap[b]? = some (.map ents ck)) : V Es w (.rm es) (.map (some b)) :=
 .rm es (ents.toList.map fun e => Value.tuple #[e.key, e.val]) b ents ck (by simpa using h.1) (fun i c v hc hv => by
  rw [List.getElem?_map, Option.map_eq_some_iff] at hv
  obtain ⟨e, he, rfl⟩ := hv
  exact h.2 i c e hc he) (by
  unfold mapV
  congr 1
  apply Array.ext'
  simp) hS hb
theorem litEq_same : ∀ {ps qs : List MV} {us vs : List Value}, litEq ps qs = some true → Vs E w ps us → Vs E w qs vs → us = vs ∧ ∀ u ∈ us, ∃ k n, u = .int k n
 | [], [], us, vs, _, h1, h2 => by
  have e1 : us = [] := List.length_eq_zero_iff.1 h1.1.symm
  have e2 : vs = [] := List.length_eq_zero_iff.1 h2.1.symm
  subst e1 e2
  exact ⟨rfl, fun u hu => by cases hu⟩
 | [], q :: qs, _, _, h, _, _ => by simp [litEq] at h
 | p :: ps, [], _, _, h, _, _ => by cases p <;> simp [litEq] at h
 | p :: ps, q :: qs, us, vs, h, h1, h2 => by
  unfold litEq at h
  split at h <;> try (cases h; done)
  ·rename_i e _; cases e
  ·rename_i k a ps' k' b qs' e1 e2
   simp only [List.cons.injEq] at e1 e2
   obtain ⟨rfl, rfl⟩ := e1
   obtain ⟨rfl, rfl⟩ := e2
   split at h
   case isFalse => cases h
   rename_i hk
   subst hk
   rw [Option.map_eq_some_iff] at h
   obtain ⟨r, hr, hr2⟩ := h
   rw [Bool.and_eq_true, beq_iff_eq] at hr2
   obtain ⟨rfl, rfl⟩ := hr2
   obtain ⟨u, us, rfl, k1, k2⟩ := h1.uncons
   obtain ⟨v, vs, rfl, k3, k4⟩ := h2.uncons
   have e3 := k1.lit_eq
   have e4 := k3.lit_eq
   obtain ⟨e5, e6⟩ := litEq_same hr k2 k4
   subst e3 e4 e5
   exact ⟨rfl, fun u hu => by
    rcases List.mem_cons.1 hu with rfl | hu
    ·exact ⟨_, _, rfl⟩
    ·exact e6 u hu⟩
theorem sameBits_ints {xs : Array Value} (h : ∀ u ∈ xs.toList, ∃ k n, u = .int k n) (n : Nat) : Instr.sameBits (n + 2) (.agg xs) (.agg xs) = true := by
 simp only [Instr.sameBits, beq_self_eq_true, Bool.true_and]
 rw [List.all_eq_true]
 rintro ⟨a, b⟩ hab
 obtain ⟨i, hi⟩ := List.getElem?_of_mem hab
 rw [List.getElem?_zip_eq_some] at hi
 obtain ⟨h1, h2⟩ := hi
 rw [h1] at h2
 simp only [Option.some.injEq] at h2
 subst h2
 obtain ⟨k, m, rfl⟩ := h a (List.mem_of_getElem? h1)
 simp [Instr.sameBits]
theorem eff_mup {t kt et : TypeId} {fs : Array Field} {m k x : Operand} {m' k' x' : MX} {v : MV} {h' : MHeap} {O : Oracle} (ho : o.op = .mapUpdate t m k x ∨ o.op = .insert t m k x) (ht : P.underlying t = some (.map kt et)) (hu : P.underlying kt = some (.struct fs)) (hf : intFields P 0 fs.toList = true) (hst : P.stoodInHeld kt = false)
  (hm : cX m = some m') (hk : cX k = some k') (hx : cX x = some x') (hs : Slots E w s a) (hr : HRel E h w) (he : evO lk O s h (.mup fs.size m' k' x') = some (v, h')) : Eff lk P o a w E v h' := by
 have h1 := hs.x hm
 have h2 := hs.x hk
 have h3 := hs.x hx
 simp only [evO] at he
 split at he
 case h_2 => cases he
 rename_i id g ps es e1 e2 e3
 split at he
 case isFalse => cases he
 rename_i hl
 obtain ⟨hl, hlk⟩ := hl
 rw [e2] at h2
 obtain ⟨b, ents, ck, hxv, hb, hE⟩ := h1.mapOf hr e3
 obtain ⟨xs, hkv, hxs⟩ := h2.aggK
 rw [e1] at h1 e3
 rw [hxv] at h1
 have hck : (Instr.checkKey false 10000 kt (.agg xs)).run P w = .ok () w := run_checkKeyS hu hf (by have := hxs.1; simp at this; omega) _ 9998
 simp only [MV.ents] at e3
 split at e3
 case h_2 => cases e3
 rename_i ob hob
 split at e3
 case isFalse => cases e3
 rename_i hc
 split at e3
 case h_2 => cases e3
 rename_i es' hes
 simp only [Option.some.injEq] at e3
 subst e3
 obtain ⟨hK, hρ, hnl, hcp⟩ : E.K id ∧ b = E.ρ id ∧ E.nl id = true ∧ 0 < E.cp id := by
  cases h1 with
  | mp _ _ _ hk hg hd =>
   obtain ⟨d1, d2, d3⟩ := hd (hr.gnOf hk hob hc.1).1
   exact ⟨hk, d1, d2, d3⟩
 subst hρ
 obtain ⟨es0, a1, a2, a3, a4, a5⟩ := hr.obj id hK
 have hob' := hob
 rw [hob'] at a1
 simp only [Option.some.injEq] at a1
 subst a1
 simp only at hc hes
 subst hes
 have hz : E.sz id = 1 := by
  have := a3 _ List.mem_cons_self
  simpa [MV.cells] using this.symm
 obtain ⟨arr, tt, b1, b2, b3⟩ := a5 hcp
 rw [hnl] at b1
 obtain ⟨ents2, ck2, b4, rfl⟩ := b1
 have hbo : E.bo id = 0 ∧ E.cp id = 1 := by
  simp only [List.size_toArray, List.length_cons, List.length_nil] at b2
  rw [hz, Nat.mul_one] at b2
  simp only [List.length_cons, List.length_nil] at a4
  omega
 have fin : ∀ (es2 : List MV) (ents' : Array MapEntry) (ck' : Nat), EntV E w es2 ents'.toList → (Instr.mapUpdate t (.map (some (E.ρ id))) (.agg xs) (a.eval x)).run P w = .ok () { w with heap := w.heap.setIfInBounds (E.ρ id) (.map ents' ck') } →
   Eff lk P o a w E (.lit undef) (h.set id ⟨g, true, 1, [.tup es2]⟩) := by
  intro es2 ents' ck' hE2 hrun
  obtain ⟨q1, q2⟩ := MapKept.heap_set (o' := .map ents' ck') hb
  have hw := hr.write hlk (w' := { w with heap := w.heap.setIfInBounds (E.ρ id) (.map ents' ck') }) (t := tt) (arr' := #[mapV ents']) hK hcp hob (es' := [.tup es2]) (by simp) (fun e he => by
   rw [List.mem_singleton] at he
   subst he
   rw [hz]; rfl) ⟨rfl, rfl, rfl, by simp⟩ (fun k hne => q2 k hne) (by rw [hnl]; exact ⟨ents', ck', q1, rfl⟩) (by rw [hz, hbo.2]; rfl) (fun k c hkc => by
   cases k with
   | zero =>
    simp [flat, MV.cells] at hkc
    subst hkc
    exact ⟨mapV ents', by rw [hbo.1]; simp, hE2.toV⟩
   | succ k => simp [flat, MV.cells] at hkc)
  have e9 : (⟨g, true, 1, [.tup es2]⟩ : MObj) = { (⟨E.gn id, E.nl id, E.sz id, [.tup es']⟩ : MObj) with es := [.tup es2] } := by
   simp only [hc.1, hnl, hz]
  rw [e9]
  refine ⟨undef, _, E, .inr ⟨?_, rfl⟩, .lit _, hw.1, hw.2⟩
  rcases ho with ho | ho
  ·simp [execOp, ho, hxv, hkv, hrun]
  ·simp [execOp, ho, hxv, hkv, hrun]
 split at he
 case h_2 => cases he
 rename_i r hmf
 simp only [Option.some.injEq, Prod.mk.injEq] at he
 obtain ⟨rfl, rfl⟩ := he
 have hfind := run_findS hu hf hst hl hxs hE hmf
 have hnew : V E w (.tup [.agg ps, x'.get s]) (.tuple #[.agg xs, a.eval x]) := by
  rw [hkv] at h2
  have := V.tup (E := E) (w := w) [.agg ps, x'.get s] [.agg xs, a.eval x] rfl fun i c v hc hv => by
   match i, hc, hv with
   | 0, hc, hv => simp at hc hv; subst hc hv; exact h2
   | 1, hc, hv => simp at hc hv; subst hc hv; exact h3
   | i + 2, hc, _ => simp at hc
  exact this
 cases r with
 | none =>
  simp only at hfind
  refine fin _ (ents.push { key := .agg xs, val := a.eval x, born := ck }) (ck + 1) ⟨by simp [mset, hE.1], fun i c e hc he => ?_⟩ ?_
  ·simp only [mset] at hc
   rw [Array.toList_push] at he
   by_cases hi : i < es'.length
   ·rw [List.getElem?_append_left hi] at hc
    rw [List.getElem?_append_left (by rw [← hE.1]; exact hi)] at he
    exact hE.2 i c e hc he
   ·rw [List.getElem?_append_right (by omega)] at hc
    rw [List.getElem?_append_right (by rw [← hE.1]; omega), ← hE.1] at he
    cases hii : i - es'.length with
    | zero =>
     rw [hii] at hc he
     simp at hc he
     subst hc he
     exact hnew
    | succ q => rw [hii] at hc; simp at hc
  ·simp [Instr.mapUpdate, run_underlying ht, MapKept.run_getObj_map hb, hck, run_findKeyS hu, hfind, MapKept.run_setObj_map _ hb, Result.andThen]
 | some jv =>
  obtain ⟨j, v0⟩ := jv
  simp only at hfind
  obtain ⟨_, e, qs, ys, q2, q3, q4, q5, q6, q7⟩ := hfind
  rw [Nat.sub_zero] at q2
  obtain ⟨q8, q9⟩ := litEq_same q7 hxs q6
  have hxy : xs = ys := by
   apply Array.ext'
   exact q8
  have hkey : e.key = .agg xs := by rw [q5, hxy]
  have hst2 : (Instr.keyThatStays (.agg xs) (.agg xs)).run P w = .ok (.agg xs) w := by
   simp [Instr.keyThatStays, sameBits_ints q9 9998]
  have hj : ents[j]? = some e := by simpa using q2
  refine fin _ (ents.modify j fun e => { e with key := .agg xs, val := a.eval x }) ck ⟨by simp [mset, hE.1], fun i c e' hc he => ?_⟩ ?_
  ·simp only [mset] at hc
   rw [Array.getElem?_toList, Array.getElem?_modify] at he
   rw [List.getElem?_set] at hc
   by_cases hij : j = i
   ·subst hij
    rw [if_pos rfl] at hc he
    rw [hj] at he
    simp only [Option.map_some, Option.some.injEq] at he
    subst he
    split at hc
    ·simp only [Option.some.injEq] at hc
     subst hc
     exact hnew
    ·cases hc
   ·rw [if_neg hij] at hc he
    exact hE.2 i c e' hc (by rw [Array.getElem?_toList]; exact he)
  ·simp [Instr.mapUpdate, run_underlying ht, MapKept.run_getObj_map hb, hck, run_findKeyS hu, q3, hj, hkey, hst2, MapKept.run_setObj_map _ hb, Result.andThen]
end
section
variable {P : Program} {w : World} {E : Env} {o : Oper} {a : Act} {s : List MV} {h : MHeap} {lk : Nat → Bool}
theorem pure_shf {op : BinOp} {t yt : TypeId} {x y : Operand} {x' y' : MX} {v : MV} {h' : MHeap} {O : Oracle} (ho : o.op = .binOp op t x y yt) (hop : op = .shl ∨ op = .shr) (hx : cX x = some x') (hy : cX y = some y') (hs : Slots E w s a)
  (he : evO lk O s h (.shf op x' y') = some (v, h')) : h' = h ∧ Pure P o a w E v := by
 have h1 := hs.x hx
 have h2 := hs.x hy
 simp only [evO] at he
 split at he
 case h_2 => cases he
 rename_i k u k' u' e1 e2
 rw [Option.map_eq_some_iff] at he
 obtain ⟨c, hc, he⟩ := he
 simp only [Prod.mk.injEq] at he
 obtain ⟨rfl, rfl⟩ := he
 rw [e1] at h1
 rw [e2] at h2
 unfold shfI at hc
 split at hc
 case isTrue => cases hc
 rename_i hneg
 refine ⟨rfl, c, ?_, .lit _⟩
 rcases hop with rfl | rfl
 ·simp only [Option.some.injEq] at hc
  subst hc
  simp [execOp, ho, h1.lit_eq, h2.lit_eq, eqGuard, binOp, Op.shift, hneg]
 ·simp only [Option.some.injEq] at hc
  subst hc
  simp [execOp, ho, h1.lit_eq, h2.lit_eq, eqGuard, binOp, Op.shift, hneg]
theorem pure_cat {t yt : TypeId} {x y : Operand} {x' y' : MX} {v : MV} {h' : MHeap} {O : Oracle} (ho : o.op = .binOp .add t x y yt) (hx : cX x = some x') (hy : cX y = some y') (hs : Slots E w s a)
  (he : evO lk O s h (.cat x' y') = some (v, h')) : h' = h ∧ Pure P o a w E v := by
 have h1 := hs.x hx
 have h2 := hs.x hy
 simp only [evO] at he
 split at he
 case h_2 => cases he
 rename_i u u' e1 e2
 split at he
 case isFalse => cases he
 rename_i hle
 simp only [Option.some.injEq, Prod.mk.injEq] at he
 obtain ⟨rfl, rfl⟩ := he
 rw [e1] at h1
 rw [e2] at h2
 refine ⟨rfl, _, ?_, .lit _⟩
 have hb : ¬ (((u.size + u'.size : Nat) : Int) > IntKind.i64.max) := by
  have : IntKind.i64.max = 9223372036854775807 := rfl
  omega
 simp only [execOp, ho, h1.lit_eq, h2.lit_eq, eqGuard, binOp, Op.stringOp, if_neg hb]
 simp
theorem bytes_at (b : ByteArray) (i : Nat) : b[i]? = b.data.toList[i]? := by
 rw [Array.getElem?_toList]
 by_cases hi : i < b.size
 ·rw [getElem?_pos b i hi, getElem?_pos b.data i hi]; rfl
 ·rw [getElem?_neg b i hi, getElem?_neg b.data i hi]
theorem pure_sx {t : TypeId} {x i : Operand} {x' i' : MX} {v : MV} {h' : MHeap} {O : Oracle} (ho : o.op = .index t x i) (ht : P.underlying t = some .string) (hx : cX x = some x') (hi : cX i = some i')
  (hs : Slots E w s a) (he : evO lk O s h (.sx x' i') = some (v, h')) : h' = h ∧ Pure P o a w E v := by
 have h1 := hs.x hx
 have h2 := hs.x hi
 simp only [evO] at he
 split at he
 case h_2 => cases he
 rename_i b k hb hk
 obtain ⟨kk, hyv⟩ := intOf_int h2 hk
 split at he
 case isFalse => cases he
 rename_i h0
 rw [Option.map_eq_some_iff] at he
 obtain ⟨c, hc, he⟩ := he
 simp only [Prod.mk.injEq] at he
 obtain ⟨rfl, rfl⟩ := he
 rw [hb] at h1
 refine ⟨rfl, .int .u8 c.toNat, ?_, .lit _⟩
 have hc' : b[k.toNat]? = some c := by rw [bytes_at]; exact hc
 simp [execOp, ho, h1.lit_eq, hyv, Instr.index, asIntOf, run_underlying ht, h0, hc']
theorem run_sliceStr {t : TypeId} (ht : P.underlying t = some .string) {b : ByteArray} {lo hi' : Option Value} {l u : Nat} (hl : (lo = none ∧ l = 0) ∨ ∃ k, lo = some (.int k (l : Int)))
  (hu : (hi' = none ∧ u = b.size) ∨ ∃ k, hi' = some (.int k (u : Int))) (hlu : l ≤ u) (huc : u ≤ b.size) :
  (Instr.sliceAt t (.string b) lo hi' none).run P w = .ok (.string (b.extract l u)) w := by
 have hu' : (0 : Int) ≤ u ∧ (u : Int) ≤ b.size := by omega
 have hl' : (0 : Int) ≤ l ∧ (l : Int) ≤ u := by omega
 rcases hl with ⟨rfl, rfl⟩ | ⟨k, rfl⟩ <;> rcases hu with ⟨rfl, rfl⟩ | ⟨k', rfl⟩ <;>
  simp [Instr.sliceAt, run_underlying ht, Instr.slice, Instr.sliceBounds, Instr.sliceBound, asIntOf, hu', hl', huc, hlu]
theorem pure_ssl {t : TypeId} {x : Operand} {lo hi : Option Operand} {x' : MX} {lo' hi' : Option MX} {v : MV} {h' : MHeap} {O : Oracle} (ho : o.op = .slice t x lo hi none) (ht : P.underlying t = some .string) (hx : cX x = some x')
  (hlo : oX lo = some lo') (hhi : oX hi = some hi')
  (hs : Slots E w s a) (he : evO lk O s h (.ssl x' lo' hi') = some (v, h')) : h' = h ∧ Pure P o a w E v := by
 have h1 := hs.x hx
 have h2 := optInt hlo hs
 have h3 := optInt hhi hs
 have key : ∀ {b : ByteArray} {l u : Nat}, a.eval x = .string b → ((lo.map a.eval = none ∧ l = 0) ∨ ∃ k, lo.map a.eval = some (.int k (l : Int))) → ((hi.map a.eval = none ∧ u = b.size) ∨ ∃ k, hi.map a.eval = some (.int k (u : Int))) → l ≤ u → u ≤ b.size →
   (execOp a.eval o).run P w = .ok (.value (.string (b.extract l u))) w := by
  intro b l u hxv hl hu' hlu huc
  have := run_sliceStr (P := P) (w := w) ht (b := b) hl hu' hlu huc
  simp [execOp, ho, hxv, this]
 have loI : ∀ {l : Int}, ((lo'.map (MX.get s)).map intOf?).getD (some 0) = some l → (lo.map a.eval = none ∧ l = 0) ∨ ∃ k, lo.map a.eval = some (.int k l) := by
  intro l hl
  rcases h2 with ⟨rfl, e2⟩ | ⟨y, rfl, m, e2, e3⟩
  ·rw [e2] at hl; simp at hl; exact .inl ⟨rfl, hl.symm⟩
  ·rw [e2] at hl
   obtain ⟨k, hk⟩ := intOf_int e3 (by simpa using hl)
   exact .inr ⟨k, by simp [hk]⟩
 have hiI : ∀ {u : Int}, (hi'.map (MX.get s)).map intOf? = some (some u) → ∃ k, hi.map a.eval = some (.int k u) := by
  intro u hu
  rcases h3 with ⟨rfl, e2⟩ | ⟨y, rfl, m, e2, e3⟩
  ·rw [e2] at hu; cases hu
  ·rw [e2] at hu
   obtain ⟨k, hk⟩ := intOf_int e3 (by simpa using hu)
   exact ⟨k, by simp [hk]⟩
 have hiN : (hi'.map (MX.get s)).map intOf? = none → hi.map a.eval = none := by
  intro hu
  rcases h3 with ⟨rfl, e2⟩ | ⟨y, rfl, m, e2, e3⟩
  ·rfl
  ·rw [e2] at hu; cases hu
 have toN : ∀ {l : Int}, 0 ≤ l → (lo.map a.eval = none ∧ l = 0) ∨ (∃ k, lo.map a.eval = some (.int k l)) → (lo.map a.eval = none ∧ l.toNat = 0) ∨ ∃ k, lo.map a.eval = some (.int k (l.toNat : Int)) := by
  intro l h0 h
  rcases h with ⟨e, rfl⟩ | ⟨k, e⟩
  ·exact .inl ⟨e, rfl⟩
  ·exact .inr ⟨k, by rw [e, Int.toNat_of_nonneg h0]⟩
 simp only [evO] at he
 split at he
 ·rename_i b l u hb el eu
  split at he
  case isFalse => cases he
  rename_i hc
  obtain ⟨c1, c2, c3⟩ := hc
  simp only [Option.some.injEq, Prod.mk.injEq] at he
  obtain ⟨rfl, rfl⟩ := he
  rw [hb] at h1
  obtain ⟨k, hk⟩ := hiI eu
  exact ⟨rfl, _, key h1.lit_eq (toN c1 (loI el)) (.inr ⟨k, by rw [hk, Int.toNat_of_nonneg (by omega)]⟩) (by omega) (by omega), .lit _⟩
 ·rename_i b l hb el eu
  split at he
  case isFalse => cases he
  rename_i hc
  obtain ⟨c1, c2⟩ := hc
  simp only [Option.some.injEq, Prod.mk.injEq] at he
  obtain ⟨rfl, rfl⟩ := he
  rw [hb] at h1
  exact ⟨rfl, _, key h1.lit_eq (toN c1 (loI el)) (.inl ⟨hiN eu, rfl⟩) (by omega) (by omega), .lit _⟩
 ·cases he
theorem HRel.writeG (hr : HRel E h w) {id : Nat} (hlk : lk id = false) {ob : MObj} {es' : List MV} {w' : World} {arr' : Array Value} {t : TypeId} (hk : E.K id) (hc : 0 < E.cp id) (hob : h[id]? = some ob) (hlen : es'.length = ob.es.length)
  (hsz : ∀ e ∈ es', e.cells.length = E.sz id) (h1 : w'.os = w.os ∧ w'.tape = w.tape ∧ w'.output = w.output ∧ w.heap.size ≤ w'.heap.size) (hkeep : ∀ k, k < w.heap.size → k ≠ E.ρ id → w'.heap[k]? = w.heap[k]?)
  (hh : viewO (E.nl id) w'.heap[E.ρ id]? arr' t) (hs : arr'.size = E.cp id * E.sz id) (hcells : ∀ (k : Nat) c, (flat es')[k]? = some c → ∃ v, arr'[E.bo id * E.sz id + k]? = some v ∧ V E w c v) :
  HRel E (h.set id { ob with es := es' }) w' ∧ Ext lk E w E w' := by
 have hx : Ext lk E w E w' := ⟨h1.1, h1.2.1, h1.2.2.1, h1.2.2.2, fun k hk' hn => hkeep k hk' (fun e => hn id hk hlk hc e.symm), fun _ h => h, fun _ h => h, fun _ _ => ⟨Nat.le_refl _, fun _ => ⟨rfl, rfl, rfl, rfl, rfl, rfl⟩⟩, fun _ _ _ => rfl, fun _ hj hcj => .inl ⟨hj, hcj, rfl⟩, rfl, fun _ h => .inl h, rfl, fun _ h => .inl h⟩
 have hidl := hr.klt id hk
 refine ⟨⟨fun j hj => by simpa using hr.klt j hj, by simpa using hr.top, fun j hj => ?_, hr.inj, hr.sep, fun b hb => Nat.lt_of_lt_of_le (hr.slt b hb) h1.2.2.2, fun p hp => (hr.tab p hp).ext hr hx⟩, hx⟩
 by_cases e : j = id
 ·subst e
  obtain ⟨es, a1, a2, a3, a4, a5⟩ := hr.obj j hj
  rw [hob] at a1
  simp only [Option.some.injEq] at a1
  subst a1
  dsimp only at hlen ⊢
  refine ⟨es', by simp [hidl], by rw [a2, hlen], hsz, by rw [hlen]; exact a4, fun _ => ⟨arr', t, hh, hs, fun k c hkc => ?_⟩⟩
  obtain ⟨v, b1, b2⟩ := hcells k c hkc
  exact ⟨v, b1, b2.ext hr hx⟩
 ·obtain ⟨es, a1, a2, a3, a4, a5⟩ := hr.obj j hj
  refine ⟨es, by rw [List.getElem?_set_ne (fun e' => e e'.symm)]; exact a1, a2, a3, a4, fun hcj => ?_⟩
  obtain ⟨arr, t', b1, b2, b3⟩ := a5 hcj
  refine ⟨arr, t', ?_, b2, fun k c hkc => ?_⟩
  ·rw [hkeep _ (hr.lt hj hcj) (fun e' => e (hr.inj j id hj hk hcj hc e'))]; exact b1
  ·obtain ⟨v, c1, c2⟩ := b3 k c hkc
   exact ⟨v, c1, c2.ext hr hx⟩
theorem HRel.seg (hr : HRel E h w) {id i : Nat} (hlk : lk id = false) {ob : MObj} {ms : List MV} {vs : List Value} {w' : World} {arr : Array Value} {te : TypeId} (hk : E.K id) (hc : 0 < E.cp id) (hob : h[id]? = some ob) (hnl : E.nl id = false)
  (hi : i + ms.length ≤ ob.es.length) (hms : ∀ e ∈ ms, e.cells.length = E.sz id) (hvs : Vs E w (flat ms) vs) (h1 : w'.os = w.os ∧ w'.tape = w.tape ∧ w'.output = w.output ∧ w.heap.size ≤ w'.heap.size) (hkeep : ∀ k, k < w.heap.size → k ≠ E.ρ id → w'.heap[k]? = w.heap[k]?)
  (b1 : w.heap[E.ρ id]? = some (.cells arr te (0, 0))) (hh : w'.heap[E.ρ id]? = some (.cells (arr.toList.take ((E.bo id + i) * E.sz id) ++ vs ++ arr.toList.drop ((E.bo id + i) * E.sz id + vs.length)).toArray te (0, 0))) :
  HRel E (h.set id { ob with es := ob.es.take i ++ ms ++ ob.es.drop (i + ms.length) }) w' ∧ Ext lk E w E w' := by
 obtain ⟨es, a1, a2, a3, a4, a5⟩ := hr.obj id hk
 rw [hob] at a1
 simp only [Option.some.injEq] at a1
 subst a1
 dsimp only at hi hk ⊢
 obtain ⟨arr2, te2, c1, c2, c3⟩ := a5 hc
 rw [hnl] at c1
 replace c1 : w.heap[E.ρ id]? = some (.cells arr2 te2 (0, 0)) := c1
 rw [b1] at c1
 simp only [Option.some.injEq, Obj.cells.injEq] at c1
 obtain ⟨rfl, rfl, -⟩ := c1
 have hvl : vs.length = ms.length * E.sz id := by rw [← hvs.1, flat_len hms]
 have hbase : (E.bo id + i) * E.sz id + vs.length ≤ arr.size := by
  rw [hvl, ← Nat.add_mul, c2]; exact Nat.mul_le_mul_right _ (by omega)
 have hes : ∀ x ∈ es.take i ++ ms ++ es.drop (i + ms.length), x.cells.length = E.sz id := fun x hx => by
  rcases List.mem_append.1 hx with hx | hx
  ·rcases List.mem_append.1 hx with hx | hx
   ·exact a3 x (List.mem_of_mem_take hx)
   ·exact hms x hx
  ·exact a3 x (List.mem_of_mem_drop hx)
 refine hr.writeG hlk (es' := es.take i ++ ms ++ es.drop (i + ms.length)) hk hc hob (by simp; omega) hes h1 hkeep (by rw [hnl]; exact hh) (by rw [← c2]; simp; omega) fun k c hkc => ?_
 rw [List.getElem?_toArray]
 have hft : (flat (es.take i)).length = i * E.sz id := by rw [flat_len (fun e he => a3 e (List.mem_of_mem_take he)), List.length_take, Nat.min_eq_left (by omega)]
 have hfm : (flat ms).length = ms.length * E.sz id := flat_len hms
 rw [flat_app, flat_app] at hkc
 have hm2 : (E.bo id + i) * E.sz id = E.bo id * E.sz id + i * E.sz id := Nat.add_mul _ _ _
 have old : ∀ (j : Nat), (flat es)[j]? = some c → ∃ v, arr.toList[E.bo id * E.sz id + j]? = some v ∧ V E w c v := fun j hj => by
  obtain ⟨v, e1, e2⟩ := c3 j c hj
  exact ⟨v, by rw [Array.getElem?_toList]; exact e1, e2⟩
 by_cases k1 : k < i * E.sz id
 ·rw [List.append_assoc, List.getElem?_append_left (by omega)] at hkc
  have : (flat es)[k]? = some c := by
   rw [← List.take_append_drop i es, flat_app, List.getElem?_append_left (by omega)]; exact hkc
  obtain ⟨v, e1, e2⟩ := old k this
  refine ⟨v, ?_, e2⟩
  rw [List.append_assoc, List.getElem?_append_left (by simp; omega), List.getElem?_take, if_pos (by omega)]
  exact e1
 ·by_cases k2 : k < i * E.sz id + ms.length * E.sz id
  ·rw [List.append_assoc, List.getElem?_append_right (by omega), List.getElem?_append_left (by omega), hft] at hkc
   have hlt : k - i * E.sz id < vs.length := by omega
   refine ⟨vs[k - i * E.sz id], ?_, hvs.2 _ c _ hkc (List.getElem?_eq_getElem hlt)⟩
   rw [List.append_assoc, List.getElem?_append_right (by simp; omega), List.getElem?_append_left (by simp; omega), List.length_take, Array.length_toList, Nat.min_eq_left (by omega), ← List.getElem?_eq_getElem hlt]
   congr 1; omega
  ·rw [List.getElem?_append_right (by simp; omega)] at hkc
   have : (flat es)[k]? = some c := by
    rw [← List.take_append_drop (i + ms.length) es, flat_app, List.getElem?_append_right (by rw [flat_len (fun e he => a3 e (List.mem_of_mem_take he))]; simp; rw [Nat.min_eq_left (by omega), Nat.add_mul]; omega), ← hkc]
    congr 1
    rw [flat_len (fun e he => a3 e (List.mem_of_mem_take he)), List.length_append, hft, hfm, List.length_take, Nat.min_eq_left (by omega), Nat.add_mul]
   obtain ⟨v, e1, e2⟩ := old k this
   refine ⟨v, ?_, e2⟩
   rw [List.getElem?_append_right (by simp; omega), List.getElem?_drop, ← e1]
   congr 1
   simp only [List.length_append, List.length_take, Array.length_toList]
   omega
theorem eff_cpy {t u e : TypeId} {c : Call} {x y : Operand} {x' y' : MX} {v : MV} {h' : MHeap} {O : Oracle} (ho : o.op = .call c) (hc : c.callee = .builtin .copy) (ha : c.args = #[x, y]) (hat : c.argTypes = #[t, u])
  (ht : P.underlying t = some (.slice e)) (hz : tsz P e = some 1) (hx : cX x = some x') (hy : cX y = some y') (hs : Slots E w s a) (hr : HRel E h w) (he : evO lk O s h (.cpy x' y') = some (v, h')) : Eff lk P o a w E v h' := by
 have h1 := hs.x hx
 have h2 := hs.x hy
 simp only [evO] at he
 split at he
 case h_2 => cases he
 rename_i id i n g xs hb hxs
 split at he
 case h_2 => cases he
 rename_i ob hob
 split at he
 case isFalse => cases he
 rename_i hcond
 obtain ⟨hog, hn0, hle, hsz, hne, hok, hlk⟩ := hcond
 simp only [Option.some.injEq, Prod.mk.injEq] at he
 obtain ⟨rfl, rfl⟩ := he
 rw [hb] at h1
 generalize hxv : a.eval x = xv at h1
 cases h1 with
 | arr _ _ _ _ A cap hk hg hd =>
  obtain ⟨es, a1, a2, a3, a4, a5⟩ := hr.obj id hk
  rw [hob] at a1
  simp only [Option.some.injEq] at a1
  subst a1
  dsimp only at hog hle hsz ⊢
  obtain ⟨d1, d2, d3, d4, d5⟩ := hd hog
  have hcp : 0 < E.cp id := by omega
  obtain ⟨arr, te, b1, b2, b3⟩ := a5 hcp
  have hnl : E.nl id = false := by
   cases hnl : E.nl id
   ·rfl
   ·have := (d3 hnl).2.1; omega
  rw [hnl] at b1
  replace b1 : w.heap[E.ρ id]? = some (.cells arr te (0, 0)) := b1
  obtain ⟨rfl, d6⟩ := d5 (by omega)
  have hone : ∀ m ∈ xs, m.cells.length = 1 ∧ ∀ c ∈ m.cells, c.one = true := fun m hm => sOk_spec (List.all_eq_true.1 hok m hm)
  obtain ⟨A', cap', vs, hyv, hvs, hA⟩ := V.elems hr h2 hxs (sz := 1) (fun m hm => (hone m hm).1)
  obtain ⟨b', off', rfl, hcell⟩ := hA (List.length_pos_iff.2 hne)
  have hvl : vs.length = xs.length := by rw [← hvs.1, flat_len (fun m hm => (hone m hm).1)]; omega
  have hvt : Vs E w (flat (xs.take n)) (vs.take n) := by
   have hft : flat (xs.take n) = (flat xs).take n := by
    have hl : (flat (xs.take n)).length = (xs.take n).length := by rw [flat_len (fun m hm => (hone m (List.mem_of_mem_take hm)).1)]; omega
    have key : flat xs = flat (xs.take n) ++ flat (xs.drop n) := by rw [← flat_app, List.take_append_drop]
    have t1 : (flat (xs.take n)).take n = flat (xs.take n) := List.take_of_length_le (by rw [hl, List.length_take]; exact Nat.min_le_left _ _)
    have t2 : (flat (xs.drop n)).take (n - (flat (xs.take n)).length) = [] := by
     rw [hl, List.length_take]
     by_cases hn : n ≤ xs.length
     ·rw [Nat.min_eq_left hn]; simp
     ·rw [List.drop_eq_nil_of_le (by omega)]; simp [flat]
    rw [key, List.take_append, t1, t2, List.append_nil]
   rw [hft]
   refine ⟨by rw [List.length_take, List.length_take, hvs.1], fun j c v hj hv => ?_⟩
   rw [List.getElem?_take] at hj hv
   split at hj
   ·rename_i hlt
    rw [if_pos hlt] at hv
    exact hvs.2 j c v hj hv
   ·cases hj
  have hv1 : ∀ v ∈ vs.take n, v.oneCell' = true := fun v hv => by
   obtain ⟨j, hj⟩ := List.getElem?_of_mem hv
   have hjl := (List.getElem?_eq_some_iff.1 hj).1
   have hc : (flat (xs.take n))[j]? = some ((flat (xs.take n))[j]'(hvt.1 ▸ hjl)) := by simp
   refine (hvt.2 j _ v hc hj).one ?_
   obtain ⟨i2, j2, e2, -, -, he2, hcj⟩ := (flat_iff (fun m hm => (hone m (List.mem_of_mem_take hm)).1)).1 hc
   exact (hone e2 (List.mem_of_mem_take (List.mem_of_getElem? he2))).2 _ (List.mem_of_getElem? hcj)
  have hcl : (vs.take n).length = Nat.min xs.length n := by rw [List.length_take, hvl, Nat.min_comm]
  have hbase : (E.bo id + i) * E.sz id + (vs.take n).length ≤ arr.size := by
   have h4 : (E.bo id + i) * E.sz id + n * E.sz id ≤ arr.size := by rw [b2, ← Nat.add_mul]; exact Nat.mul_le_mul_right _ (by omega)
   rw [hsz, Nat.mul_one, List.length_take] at *
   omega
  have hrun := run_copy_row (P := P) w t u o.type e (E.ρ id) ((E.bo id + i) * E.sz id) n cap ⟨b', off', none⟩ xs.length cap' arr te (vs.take n) ht (by unfold tsz at hz; exact hz) b1 hcl
   (fun j v hj => by
    rw [List.getElem?_take] at hj
    split at hj
    ·have := hcell j v hj
     rw [Addr.add_none]; exact this
    ·cases hj) hbase hv1
  have hseg := hr.seg (i := i) hlk (ms := xs.take n) (vs := vs.take n) (w' := w.setRow (E.ρ id) (arr.toList.take ((E.bo id + i) * E.sz id) ++ vs.take n ++ arr.toList.drop ((E.bo id + i) * E.sz id + (vs.take n).length)).toArray) hk hcp hob hnl (by simp; omega) (fun m hm => by rw [hsz]; exact (hone m (List.mem_of_mem_take hm)).1) hvt ⟨rfl, rfl, rfl, by simp [World.setRow]⟩ (fun k _ hne => setRow_other w _ k _ hne) b1 (setRow_heap w _ arr _ te _ b1)
  refine ⟨goInt (vs.take n).length, _, E, .inl (by simp [execOp, ho, resolve, hc, ha, hat, hxv, hyv, invoke, builtin, hrun]), ?_, hseg.1, hseg.2⟩
  have : goInt (vs.take n).length = .int .i64 ((xs.take n).length : Int) := by rw [List.length_take, List.length_take, hvl]; rfl
  rw [this]
  exact .lit _
end
def rowsV (xs : List (List Int)) : List Value := xs.flatMap fun x => x.map (Value.int .i64)
def SortsOK (P : Program) : Prop := ∀ f cf k, sortKind f cf = some k →
 (∀ (w : World) (p : Option Addr) (cap : Nat), Calls P f #[.slice p 0 cap, .func (.func cf) #[] #[]] w fun e w' => e = .returned (.tuple #[]) ∧ w' = w) ∧
 ∀ (w : World) (b off cap : Nat) (xs : List (List Int)) (arr : Array Value) (te : TypeId), 0 < xs.length → xs.length ≤ 4000000 → (∀ x ∈ xs, okRow k x = true) → ordS k (sortS k xs) = true → w.heap[b]? = some (.cells arr te (0, 0)) → off + (rowsV xs).length ≤ arr.size →
  (∀ (j : Nat) v, (rowsV xs)[j]? = some v → arr[off + j]? = some v) →
  Calls P f #[.slice (some ⟨b, off, none⟩) xs.length cap, .func (.func cf) #[] #[]] w fun e w' => e = .returned (.tuple #[]) ∧ (w'.os = w.os ∧ w'.tape = w.tape ∧ w'.output = w.output ∧ w.heap.size ≤ w'.heap.size) ∧
   (∀ k, k < w.heap.size → k ≠ b → w'.heap[k]? = w.heap[k]?) ∧ w'.heap[b]? = some (.cells (arr.toList.take off ++ rowsV (sortS k xs) ++ arr.toList.drop (off + (rowsV xs).length)).toArray te (0, 0))
theorem i64s_spec : ∀ {ms : List MV} {x : List Int}, i64s ms = some x → ms = x.map fun z => .lit (.int .i64 z)
 | [], x, h => by simp [i64s] at h; subst h; rfl
 | m :: ms, x, h => by
  unfold i64s at h
  split at h
  ·rename_i e; cases e
  ·rename_i n ms' e
   cases e
   rw [Option.map_eq_some_iff] at h
   obtain ⟨y, h1, rfl⟩ := h
   rw [i64s_spec h1]; rfl
  ·cases h
theorem rowsOf_spec : ∀ {es : List MV} {xs : List (List Int)}, rowsOf es = some xs → es = xs.map pairM
 | [], xs, h => by simp [rowsOf] at h; subst h; rfl
 | m :: es, xs, h => by
  unfold rowsOf at h
  split at h
  ·rename_i x ys h1 h2
   cases h
   rw [rowsOf_spec h2]
   unfold rowOf at h1
   split at h1
   ·rename_i ms
    rw [i64s_spec h1]; rfl
   ·cases h1
  ·cases h
theorem flat_pairs (xs : List (List Int)) : flat (xs.map pairM) = (rowsV xs).map .lit := by
 induction xs with
 | nil => rfl
 | cons x xs ih =>
  rw [List.map_cons, flat_cons, ih]
  simp [rowsV, pairM, MV.cells]
theorem insS_mem {k : Nat} {x y : List Int} : ∀ {ys : List (List Int)}, y ∈ insS k x ys → y = x ∨ y ∈ ys
 | [], h => by simp [insS] at h; exact .inl h
 | z :: ys, h => by
  unfold insS at h
  split at h
  ·simpa using h
  ·rcases List.mem_cons.1 h with h | h
   ·exact .inr (by simp [h])
   ·rcases insS_mem h with h | h
    ·exact .inl h
    ·exact .inr (by simp [h])
theorem sortS_mem {k : Nat} {y : List Int} : ∀ {ys : List (List Int)}, y ∈ sortS k ys → y ∈ ys
 | [], h => by simp [sortS] at h
 | z :: ys, h => by
  rcases insS_mem h with h | h
  ·simp [h]
  ·exact List.mem_cons_of_mem _ (sortS_mem h)
theorem insS_len {k : Nat} {x : List Int} : ∀ (ys : List (List Int)), (insS k x ys).length = ys.length + 1
 | [] => rfl
 | z :: ys => by
  unfold insS
  split
  ·rfl
  ·simp [insS_len ys]
theorem sortS_len {k : Nat} : ∀ (ys : List (List Int)), (sortS k ys).length = ys.length
 | [] => rfl
 | z :: ys => by rw [sortS, insS_len, sortS_len ys]; rfl
theorem rowsV_len : ∀ {xs : List (List Int)}, (∀ x ∈ xs, x.length = 2) → (rowsV xs).length = xs.length * 2
 | [], _ => rfl
 | x :: xs, h => by
  have h1 := rowsV_len (xs := xs) fun y hy => h y (by simp [hy])
  have h2 := h x (by simp)
  simp only [rowsV, List.flatMap_cons, List.length_append, List.length_map, List.length_cons] at h1 ⊢
  rw [h1, h2]; omega
def SoundC (P : Program) (O : Oracle) : Prop := ∀ f args h m h', O f args h = some (m, h') → hasBody P f = true ∧ ∀ E w vs, HRel E h w → Vs E w args vs →
 Calls P f vs.toArray w fun e w' => ∃ v E', e = .returned v ∧ V E' w' m v ∧ HRel E' h' w' ∧ Ext (fun _ => true) E w E' w'
def SoundO (P : Program) (O : Oracle) : Prop := SoundC P O ∧ SortsOK P
theorem hasBody_run {P : Program} {f : Nat} (hb : hasBody P f = true) (args : Array Value) (w : World) : (callFunc f args).run P w = .ok (.enter f args) w := by
 unfold hasBody at hb
 split at hb
 ·rename_i fn hf
  simp only [Bool.and_eq_true, bne_iff_ne] at hb
  obtain ⟨h1, h2⟩ := hb
  cases hbd : fn.body with
  | none => rw [hbd] at h1; cases h1
  | some c => simp [callFunc, hf, h2, hbd]
 ·cases hb
def OpOK (lk : Nat → Bool) (P : Program) (o : Oper) (a : Act) (w : World) (E : Env) (m : MV) (h' : MHeap) : Prop :=
 ∀ (r : Option Nat) (n : Nat) (K : Act → World → Prop) (Q : Exit → Act → World → Prop), (∀ v w' E', V E' w' m v → HRel E' h' w' → Ext lk E w E' w' → K (a.put o.dst v) w') → o.wpIn (Fw r) n P a w K Q
theorem Eff.ok {lk : Nat → Bool} {P : Program} {o : Oper} {a : Act} {w : World} {E : Env} {m : MV} {h' : MHeap} (hnd : ∀ c, o.op ≠ .defer c) (h : Eff lk P o a w E m h') : OpOK lk P o a w E m h' := by
 intro r n K Q hK
 obtain ⟨v, w', E', hrun, h1, h2, h3⟩ := h
 rcases hrun with hrun | ⟨hrun, rfl⟩
 ·exact wpIn_val hnd hrun (hK v w' E' h1 h2 h3)
 ·exact wpIn_skp hnd hrun (hK undef w' E' h1 h2 h3)
theorem ok_call {lk : Nat → Bool} {P : Program} {O : Oracle} (hO : SoundO P O) {o : Oper} {a : Act} {w : World} {E : Env} {m : MV} {h h' : MHeap} {f : Nat} {args : List MV} {vs : List Value} (hnd : ∀ c, o.op ≠ .defer c) (hr : HRel E h w) (hv : Vs E w args vs)
  (hrun : ∀ w', (execOp a.eval o).run P w' = (callFunc f vs.toArray).run P w') (he : O f args h = some (m, h')) : OpOK lk P o a w E m h' := by
 intro r n K Q hK
 obtain ⟨hb, hcall⟩ := hO.1 f args h m h' he
 exact wpIn_ent hnd ((hrun w).trans (hasBody_run hb _ w)) ((hcall E w vs hr hv).mono fun e w'' ⟨v, E', e1, e2, e3, e4⟩ => ⟨v, e1, hK v w'' E' e2 e3 (e4.mono fun _ _ _ => rfl)⟩)
theorem ok_srt {P : Program} {lk : Nat → Bool} {O : Oracle} {w : World} {E : Env} {o : Oper} {a : Act} {s : List MV} {h h' : MHeap} {m : MV} (hS : SortsOK P) {f cf : Nat} {c : Call} {x : Operand} {x' : MX} (ho : o.op = .call c) (hcal : c.callee = .value (.func f)) (hargs : c.args.toList = [x, .func cf]) (hx : cX x = some x') (hbd : hasBody P f = true)
  (hnd : ∀ c, o.op ≠ .defer c) (hs : Slots E w s a) (hr : HRel E h w) (he : evO lk O s h (.srt f cf x') = some (m, h')) : OpOK lk P o a w E m h' := by
 intro r n0 K Q hK
 have h1 := hs.x hx
 simp only [evO] at he
 split at he
 case h_2 => cases he
 rename_i id i n g hb
 split at he
 case h_2 => cases he
 rename_i ob hob
 split at he
 case isFalse => cases he
 rename_i hcond
 obtain ⟨hog, hle, hn4, hlk⟩ := hcond
 split at he
 case h_2 => cases he
 rename_i k hk
 split at he
 case h_2 => cases he
 rename_i es' hes
 simp only [Option.some.injEq, Prod.mk.injEq] at he
 obtain ⟨rfl, rfl⟩ := he
 obtain ⟨hS0, hS1⟩ := hS f cf k hk
 rw [hb] at h1
 generalize hxv : a.eval x = xv at h1
 have e1 : c.args.map a.eval = #[xv, .func (.func cf) #[] #[]] := by
  apply Array.ext'
  rw [Array.toList_map, hargs]
  simp only [List.map_cons, List.map_nil, hxv]
  rfl
 have hrun : ∀ w', (execOp a.eval o).run P w' = (callFunc f #[xv, .func (.func cf) #[] #[]]).run P w' := fun w' => by
  simp [execOp, ho, resolve, hcal, Act.eval, Deferred.ofValue, invoke, e1]
 cases h1 with
 | arr _ _ _ _ A cap hkk hg hd =>
  obtain ⟨es, a1, a2, a3, a4, a5⟩ := hr.obj id hkk
  rw [hob] at a1
  simp only [Option.some.injEq] at a1
  subst a1
  dsimp only at hog hle hes hK ⊢
  obtain ⟨d1, d2, d3, d4, d5⟩ := hd hog
  unfold srtM at hes
  split at hes
  case h_2 => cases hes
  rename_i xs hxs
  split at hes
  case isFalse => cases hes
  rename_i hok
  cases hes
  rw [Bool.and_eq_true] at hok
  obtain ⟨hok, hord⟩ := hok
  have hok' : ∀ x ∈ xs, okRow k x = true := List.all_eq_true.1 hok
  have h2 : ∀ x ∈ xs, x.length = 2 := fun x hx => by
   have := hok' x hx
   simp only [okRow, Bool.and_eq_true, beq_iff_eq] at this
   exact this.1.1
  have hxe := rowsOf_spec hxs
  have hxl : xs.length = n := by
   have := congrArg List.length hxe
   simp only [List.length_take, List.length_drop, List.length_map] at this
   omega
  by_cases h0 : n = 0
  ·subst h0
   have hx0 : xs = [] := List.length_eq_zero_iff.1 hxl
   subst hx0
   have hset : h.set id { g := E.gn id, nl := E.nl id, sz := E.sz id, es := es.take i ++ List.map pairM (sortS k []) ++ es.drop (i + 0) } = h := by
    rw [show List.take i es ++ List.map pairM (sortS k []) ++ List.drop (i + 0) es = es by simp [sortS]]
    obtain ⟨hlt, he⟩ := List.getElem?_eq_some_iff.1 hob
    rw [← he]; exact List.set_getElem_self hlt
   rw [hset] at hK
   refine wpIn_ent hnd ((hrun w).trans (hasBody_run hbd _ w)) ((hS0 w A cap).mono ?_)
   rintro e w'' ⟨rfl, rfl⟩
   exact ⟨_, rfl, hK _ _ E (.lit _) hr (Ext.refl _ _ _)⟩
  ·have hcp : 0 < E.cp id := by omega
   obtain ⟨arr, te, b1, b2, b3⟩ := a5 hcp
   have hnl : E.nl id = false := by
    cases hnl : E.nl id
    ·rfl
    ·have := (d3 hnl).2.1; omega
   rw [hnl] at b1
   replace b1 : w.heap[E.ρ id]? = some (.cells arr te (0, 0)) := b1
   obtain ⟨rfl, d6⟩ := d5 (by omega)
   have hsz : E.sz id = 2 := by
    have hi : i < es.length := by omega
    have h3 : xs[0]? = some (xs[0]'(by omega)) := List.getElem?_eq_getElem (by omega)
    have h4 : (es.drop i |>.take n)[0]? = some (pairM (xs[0]'(by omega))) := by rw [hxe, List.getElem?_map, h3]; rfl
    have h5 := a3 _ (List.mem_of_mem_drop (List.mem_of_mem_take (List.mem_of_getElem? h4)))
    rw [← h5]
    simp only [pairM, MV.cells, List.length_map]
    exact h2 _ (List.getElem_mem _)
   have hrl := rowsV_len h2
   have hms : ∀ e ∈ (sortS k xs).map pairM, e.cells.length = E.sz id := fun e he => by
    obtain ⟨y, hy, rfl⟩ := List.mem_map.1 he
    simp only [pairM, MV.cells, List.length_map, hsz]
    exact h2 _ (sortS_mem hy)
   have hrs : (rowsV (sortS k xs)).length = (rowsV xs).length := by rw [hrl, rowsV_len (fun x hx => h2 x (sortS_mem hx)), sortS_len]
   have hvs : Vs E w (flat ((sortS k xs).map pairM)) (rowsV (sortS k xs)) := by
    rw [flat_pairs]
    refine ⟨by simp, fun j c v hj hv => ?_⟩
    rw [List.getElem?_map, hv] at hj
    cases hj; exact .lit _
   have hat : ∀ (j : Nat) v, (rowsV xs)[j]? = some v → arr[(E.bo id + i) * E.sz id + j]? = some v := fun j v hj => by
    have hjl := (List.getElem?_eq_some_iff.1 hj).1
    have h3 : (flat ((es.drop i).take n))[j]? = some (.lit v) := by rw [hxe, flat_pairs, List.getElem?_map, hj]; rfl
    have h4 : (flat es)[i * E.sz id + j]? = some (.lit v) := by
     rw [← List.take_append_drop i es, flat_app, List.getElem?_append_right (by rw [flat_len (fun e he => a3 e (List.mem_of_mem_take he))]; simp; rw [Nat.min_eq_left (by omega)]; omega), flat_len (fun e he => a3 e (List.mem_of_mem_take he)), List.length_take, Nat.min_eq_left (by omega), Nat.add_sub_cancel_left]
     rw [← List.take_append_drop n (es.drop i), flat_app, List.getElem?_append_left (by rw [flat_len (fun e he => a3 e (List.mem_of_mem_drop (List.mem_of_mem_take he))), List.length_take, List.length_drop, Nat.min_eq_left (by omega), hsz]; omega)]
     exact h3
    obtain ⟨u, c1, c2⟩ := b3 _ _ h4
    have hu := c2.lit_eq
    subst hu
    rw [← c1]
    congr 1
    rw [Nat.add_mul]; omega
   have hfit : (E.bo id + i) * E.sz id + (rowsV xs).length ≤ arr.size := by
    rw [b2, hrl, hxl, hsz, ← Nat.add_mul]; exact Nat.mul_le_mul_right _ (by omega)
   have hcall := hS1 w (E.ρ id) ((E.bo id + i) * E.sz id) cap xs arr te (by omega) (by omega) hok' hord b1 hfit hat
   rw [hxl] at hcall
   refine wpIn_ent hnd ((hrun w).trans (hasBody_run hbd _ w)) (hcall.mono ?_)
   rintro e w'' ⟨rfl, q1, q2, q3⟩
   rw [← hrs] at q3
   have hseg := hr.seg (i := i) hlk (ms := (sortS k xs).map pairM) hkk hcp hob hnl (by simp [sortS_len]; omega) hms hvs q1 q2 b1 q3
   rw [show ((sortS k xs).map pairM).length = n by simp [sortS_len, hxl]] at hseg
   exact ⟨_, rfl, hK _ _ E (.lit _) hseg.1 hseg.2⟩
def MO.isP : MO → Bool
 | .nil0 _ | .new _ | .box _ _ | .bsl _ _ _ _ | .mks _ _ | .call _ _ | .callv _ _ | .st _ _ _ | .app _ _ _ | .bad | .mkm | .mlk _ _ _ _ _ | .mup _ _ _ _ | .s2b _ | .cpy _ _ | .srt _ _ _ => false
 | _ => true
def MO.isR : MO → Bool
 | .ld _ _ | .eqn _ _ | .slc _ _ _ _ | .ia _ _ _ => true
 | _ => false
def MO.isM : MO → Bool
 | .st _ _ _ | .app _ _ _ | .bad | .mup _ _ _ _ | .cpy _ _ | .srt _ _ _ => true
 | _ => false
theorem evO_ok {P : Program} {lk : Nat → Bool} {O : Oracle} (hO : SoundO P O) {o : Oper} {mo : MO} {a : Act} {w : World} {E : Env} {s : List MV} {h h' : MHeap} {m : MV} (hc : compO P o = some mo) (hs : Slots E w s a) (hr : HRel E h w) (he : evO lk O s h mo = some (m, h')) : OpOK lk P o a w E m h' ∧ (mo.isP = true → h' = h ∧ Pure P o a w E m) := by
 have hnd : ∀ c, o.op ≠ .defer c := fun c e => by simp [compO, e] at hc
 have pe : ∀ {x : MV}, h' = h ∧ Pure P o a w E x → OpOK lk P o a w E x h' ∧ (mo.isP = true → h' = h ∧ Pure P o a w E x) := fun hp => ⟨by rw [hp.1]; exact (hp.2.eff hr).ok hnd, fun _ => hp⟩
 obtain ⟨dst, op, type, pos, after, guard⟩ := o
 cases op <;> simp only [compO] at hc <;> try (cases hc; done)
 case move x =>
  rw [Option.map_eq_some_iff] at hc
  obtain ⟨x', hx, rfl⟩ := hc
  simp only [evO, Option.some.injEq, Prod.mk.injEq] at he
  obtain ⟨rfl, rfl⟩ := he
  exact pe ⟨rfl, pure_mv (.inl rfl) hx hs⟩
 case assign x =>
  split at hc
  ·rename_i hn
   obtain ⟨e, he1, hc⟩ := Option.bind_eq_some_iff.1 hc
   rw [Option.map_eq_some_iff] at hc
   obtain ⟨sz, hsz, rfl⟩ := hc
   simp only [evO, Option.some.injEq, Prod.mk.injEq] at he
   obtain ⟨rfl, rfl⟩ := he
   exact ⟨(eff_nil0 rfl hn hr).ok hnd, fun hp => by simp [MO.isP] at hp⟩
  ·rw [Option.map_eq_some_iff] at hc
   obtain ⟨x', hx, rfl⟩ := hc
   simp only [evO, Option.some.injEq, Prod.mk.injEq] at he
   obtain ⟨rfl, rfl⟩ := he
   exact pe ⟨rfl, pure_mv (.inr rfl) hx hs⟩
 case pick c x y =>
  simp only [Option.bind_eq_bind, Option.bind_eq_some_iff, Option.some.injEq] at hc
  obtain ⟨c', hc', x', hx', y', hy', rfl⟩ := hc
  simp only [evO] at he
  split at he
  case h_2 => cases he
  rename_i t ht
  simp only [Option.some.injEq, Prod.mk.injEq] at he
  obtain ⟨rfl, rfl⟩ := he
  exact pe ⟨rfl, pure_pick rfl hc' hx' hy' hs ht⟩
 case alloc t =>
  simp only [Option.bind_eq_bind, Option.bind_eq_some_iff] at hc
  obtain ⟨z, hz, hc⟩ := hc
  split at hc
  case isFalse => cases hc
  rename_i hok
  cases hc
  simp only [evO, Option.some.injEq, Prod.mk.injEq] at he
  obtain ⟨rfl, rfl⟩ := he
  exact ⟨(eff_new rfl hz hok hr).ok hnd, fun hp => by simp [MO.isP] at hp⟩
 case box t x =>
  simp only [Option.bind_eq_bind, Option.bind_eq_some_iff, Option.some.injEq] at hc
  obtain ⟨sz, hsz, x', hx', rfl⟩ := hc
  exact ⟨(eff_box rfl hx' hs hr he).ok hnd, fun hp => by simp [MO.isP] at hp⟩
 case build t parts =>
  simp only [Option.bind_eq_bind, Option.bind_eq_some_iff] at hc
  obtain ⟨pl, hpl, z, hz, hc⟩ := hc
  split at hc
  case h_2 => cases hc
  rename_i zs
  simp only [Option.bind_eq_some_iff, Option.some.injEq] at hc
  obtain ⟨parts', hp, rfl⟩ := hc
  refine pe (eff_build rfl hpl hz ?_ hs he)
  exact hp
 case buildSlice t len parts =>
  simp only [Option.bind_eq_bind, Option.bind_eq_some_iff] at hc
  obtain ⟨e, he1, sz, hsz, z, hz, hc⟩ := hc
  split at hc
  case isFalse => cases hc
  rename_i hcond
  simp only [Option.bind_eq_some_iff, Option.some.injEq] at hc
  obtain ⟨parts', hp, rfl⟩ := hc
  exact ⟨(eff_bsl rfl he1 hsz hz hcond.1 hcond.2.1 hcond.2.2.1 hcond.2.2.2 hp hs hr he).ok hnd, fun hp => by simp [MO.isP] at hp⟩
 case load t x =>
  simp only [Option.bind_eq_bind, Option.bind_eq_some_iff, Option.some.injEq] at hc
  obtain ⟨ag, hag, x', hx', rfl⟩ := hc
  exact pe (pure_ld rfl hag hx' hs hr he)
 case makeMap t r =>
  cases r with
  | some _ => cases hc
  | none =>
   simp only at hc
   split at hc
   case h_2 => cases hc
   rename_i kt et hu
   simp only [Option.some.injEq] at hc
   subst hc
   simp only [evO, Option.some.injEq, Prod.mk.injEq] at he
   obtain ⟨rfl, rfl⟩ := he
   exact ⟨(eff_mkm rfl hu hr).ok hnd, fun hp => by simp [MO.isP] at hp⟩
 case lookup t x k ok =>
  split at hc
  case h_2 => cases hc
  rename_i kt et hu
  split at hc
  case h_2 => cases hc
  rename_i fs hk
  split at hc
  case isFalse => cases hc
  rename_i hcond
  simp only [Option.bind_eq_bind, Option.bind_eq_some_iff, Option.some.injEq] at hc
  obtain ⟨z, hz, x', hx', k', hk', rfl⟩ := hc
  exact pe (pure_mlk rfl hu hk hcond.1 hcond.2 hz hx' hk' hs hr he)
 case mapUpdate t m k x =>
  split at hc
  case h_2 => cases hc
  rename_i kt et hu
  split at hc
  case h_2 => cases hc
  rename_i fs hk
  split at hc
  case isFalse => cases hc
  rename_i hcond
  simp only [Option.bind_eq_bind, Option.bind_eq_some_iff, Option.some.injEq] at hc
  obtain ⟨m', hm', k', hk', x', hx', rfl⟩ := hc
  exact ⟨(eff_mup (.inl rfl) hu hk hcond.1 hcond.2 hm' hk' hx' hs hr he).ok hnd, fun hp => by simp [MO.isP] at hp⟩
 case insert t m k x =>
  split at hc
  case h_2 => cases hc
  rename_i kt et hu
  split at hc
  case h_2 => cases hc
  rename_i fs hk
  split at hc
  case isFalse => cases hc
  rename_i hcond
  simp only [Option.bind_eq_bind, Option.bind_eq_some_iff, Option.some.injEq] at hc
  obtain ⟨m', hm', k', hk', x', hx', rfl⟩ := hc
  exact ⟨(eff_mup (.inr rfl) hu hk hcond.1 hcond.2 hm' hk' hx' hs hr he).ok hnd, fun hp => by simp [MO.isP] at hp⟩
 case store t x y =>
  simp only [Option.bind_eq_bind, Option.bind_eq_some_iff, Option.some.injEq] at hc
  obtain ⟨sz, hsz, x', hx', y', hy', rfl⟩ := hc
  exact ⟨(eff_st rfl hsz hx' hy' hs hr he).ok hnd, fun hp => by simp [MO.isP] at hp⟩
 case nilCheck x =>
  rw [Option.map_eq_some_iff] at hc
  obtain ⟨x', hx, rfl⟩ := hc
  simp only [evO] at he
  split at he <;> simp only [Option.some.injEq, Prod.mk.injEq, reduceCtorEq] at he
  ·rename_i id i off g hb
   obtain ⟨rfl, rfl⟩ := he
   exact pe ⟨rfl, pure_nilck rfl hx hs hb (.inl ⟨_, _, _, _, rfl⟩)⟩
  ·rename_i e off hb
   obtain ⟨rfl, rfl⟩ := he
   exact pe ⟨rfl, pure_nilck rfl hx hs hb (.inr (.inl ⟨_, _, rfl⟩))⟩
  ·rename_i f cs hb
   obtain ⟨rfl, rfl⟩ := he
   exact pe ⟨rfl, pure_nilck rfl hx hs hb (.inr (.inr ⟨_, _, _, rfl⟩))⟩
 case binOp op t x y yt =>
  split at hc <;> try (cases hc; done)
  case h_16 =>
   simp only [Option.bind_eq_bind, Option.bind_eq_some_iff, Option.some.injEq] at hc
   obtain ⟨x', hx', y', hy', rfl⟩ := hc
   exact pe (pure_shf rfl (.inl rfl) hx' hy' hs he)
  case h_17 =>
   simp only [Option.bind_eq_bind, Option.bind_eq_some_iff, Option.some.injEq] at hc
   obtain ⟨x', hx', y', hy', rfl⟩ := hc
   exact pe (pure_shf rfl (.inr rfl) hx' hy' hs he)
  case h_18 =>
   simp only [Option.bind_eq_bind, Option.bind_eq_some_iff, Option.some.injEq] at hc
   obtain ⟨x', hx', y', hy', rfl⟩ := hc
   exact pe (pure_cat rfl hx' hy' hs he)
  case h_19 ht =>
   simp only [Option.bind_eq_bind, Option.bind_eq_some_iff, Option.some.injEq] at hc
   obtain ⟨x', hx', y', hy', rfl⟩ := hc
   exact pe (pure_beq (neg := false) rfl ht hx' hy' hs he)
  case h_20 ht =>
   simp only [Option.bind_eq_bind, Option.bind_eq_some_iff, Option.some.injEq] at hc
   obtain ⟨x', hx', y', hy', rfl⟩ := hc
   exact pe (pure_beq (neg := true) rfl ht hx' hy' hs he)
  case h_21 =>
   simp only [Option.bind_eq_bind, Option.bind_eq_some_iff, Option.some.injEq] at hc
   obtain ⟨x', hx', y', hy', rfl⟩ := hc
   exact pe (pure_seq (neg := false) rfl hx' hy' hs he)
  case h_22 =>
   simp only [Option.bind_eq_bind, Option.bind_eq_some_iff, Option.some.injEq] at hc
   obtain ⟨x', hx', y', hy', rfl⟩ := hc
   exact pe (pure_seq (neg := true) rfl hx' hy' hs he)
  case h_23 ht =>
   simp only [Option.bind_eq_bind, Option.bind_eq_some_iff, Option.some.injEq] at hc
   obtain ⟨c, hm, x', hx', y', hy', rfl⟩ := hc
   exact pe (pure_eqa (neg := false) rfl ht hm hx' hy' hs he)
  case h_24 ht =>
   simp only [Option.bind_eq_bind, Option.bind_eq_some_iff, Option.some.injEq] at hc
   obtain ⟨c, hm, x', hx', y', hy', rfl⟩ := hc
   exact pe (pure_eqa (neg := true) rfl ht hm hx' hy' hs he)
  case h_25 ht =>
   split at hc
   case isFalse => cases hc
   rename_i hn
   rw [Option.map_eq_some_iff] at hc
   obtain ⟨x', hx, rfl⟩ := hc
   exact pe (pure_eqn (neg := false) rfl ht hx hn hs hr he)
  case h_26 ht =>
   split at hc
   case isFalse => cases hc
   rename_i hn
   rw [Option.map_eq_some_iff] at hc
   obtain ⟨x', hx, rfl⟩ := hc
   exact pe (pure_eqn (neg := true) rfl ht hx hn hs hr he)
  all_goals
   simp only [Option.bind_eq_bind, Option.bind_eq_some_iff, Option.some.injEq] at hc
   obtain ⟨x', hx', y', hy', rfl⟩ := hc
   exact pe (pure_bin rfl hx' hy' hs he)
 case unOp op t x =>
  simp only [Option.bind_eq_bind, Option.bind_eq_some_iff, Option.some.injEq] at hc
  obtain ⟨x', hx', rfl⟩ := hc
  exact pe (pure_un rfl hx' hs he)
 case convert src t x =>
  split at hc
  case h_3 => cases hc
  ·rename_i d k hsrc ht
   rw [Option.map_eq_some_iff] at hc
   obtain ⟨x', hx, rfl⟩ := hc
   exact pe (pure_cv rfl (by rw [hsrc]; simp) ht hx hs he)
  ·rename_i e hsrc ht
   split at hc
   case h_2 => cases hc
   rename_i he8
   rw [Option.map_eq_some_iff] at hc
   obtain ⟨x', hx, rfl⟩ := hc
   exact ⟨(eff_s2b rfl hsrc ht he8 hx hs hr he).ok hnd, fun hp => by simp [MO.isP] at hp⟩
 case makeFunc fn first caps =>
  cases fn <;> simp only at hc <;> try (cases hc; done)
  simp only [Option.bind_eq_bind, Option.bind_eq_some_iff, Option.some.injEq] at hc
  obtain ⟨caps', hcc, rfl⟩ := hc
  simp only [evO, Option.some.injEq, Prod.mk.injEq] at he
  obtain ⟨rfl, rfl⟩ := he
  exact pe ⟨rfl, pure_mf rfl hcc hs⟩
 case makeSlice t l c =>
  simp only [Option.bind_eq_bind, Option.bind_eq_some_iff] at hc
  obtain ⟨e, he1, i, hi, z, hz, hc⟩ := hc
  split at hc
  case isFalse => cases hc
  rename_i hcond
  simp only [Option.bind_eq_some_iff, Option.some.injEq] at hc
  obtain ⟨l', hl, rfl⟩ := hc
  exact ⟨(eff_mks rfl he1 hi hcond.1 hz hcond.2.1 hcond.2.2.1 hcond.2.2.2.1 hcond.2.2.2.2 hl hs hr he).ok hnd, fun hp => by simp [MO.isP] at hp⟩
 case slice t x lo hi mx =>
  cases mx <;> simp only at hc <;> try (cases hc; done)
  split at hc
  ·rename_i ht
   simp only [Option.bind_eq_bind, Option.bind_eq_some_iff, Option.some.injEq] at hc
   obtain ⟨x', hx', lo', hlo, hi', hhi, rfl⟩ := hc
   exact pe (pure_ssl rfl ht hx' hlo hhi hs he)
  simp only [Option.bind_eq_bind, Option.bind_eq_some_iff, Option.some.injEq] at hc
  obtain ⟨e, he1, sz, hsz, x', hx', lo', hlo, hi', hhi, rfl⟩ := hc
  exact pe (pure_slc rfl he1 hsz hx' hlo hhi hs hr he)
 case fieldAddr t x f =>
  split at hc
  case h_2 => cases hc
  rename_i fs ht
  simp only [Option.bind_eq_bind, Option.bind_eq_some_iff] at hc
  obtain ⟨fd, hfd, n, hn, hc⟩ := hc
  split at hc
  case isFalse => cases hc
  rename_i hpos
  simp only [Option.bind_eq_some_iff, Option.some.injEq] at hc
  obtain ⟨x', hx', rfl⟩ := hc
  exact pe (pure_fa rfl ht hfd hn hpos hx' hs he)
 case field t x f =>
  split at hc
  case h_2 => cases hc
  rename_i fs ht
  simp only [Option.bind_eq_bind, Option.bind_eq_some_iff, Option.some.injEq] at hc
  obtain ⟨fd, hfd, ag, hag, x', hx', rfl⟩ := hc
  exact pe (pure_fd rfl ht hfd hag hx' hs he)
 case index t x i =>
  split at hc
  ·rename_i n e ht
   simp only [Option.bind_eq_bind, Option.bind_eq_some_iff, Option.some.injEq] at hc
   obtain ⟨ag, hag, sz, hsz, x', hx', y', hy', rfl⟩ := hc
   exact pe (pure_ix rfl ht hag hsz hx' hy' hs he)
  ·rename_i ht
   simp only [Option.bind_eq_bind, Option.bind_eq_some_iff, Option.some.injEq] at hc
   obtain ⟨x', hx', y', hy', rfl⟩ := hc
   exact pe (pure_sx rfl ht hx' hy' hs he)
  ·cases hc
 case indexAddr t x i =>
  split at hc
  ·rename_i e ht
   simp only [Option.bind_eq_bind, Option.bind_eq_some_iff, Option.some.injEq] at hc
   obtain ⟨sz, hsz, x', hx', y', hy', rfl⟩ := hc
   exact pe (pure_ia rfl ht hsz hx' hy' hs hr he)
  ·rename_i n e ht
   simp only [Option.bind_eq_bind, Option.bind_eq_some_iff, Option.some.injEq] at hc
   obtain ⟨sz, hsz, x', hx', y', hy', rfl⟩ := hc
   exact pe (pure_iaa rfl ht hsz hx' hy' hs he)
  ·cases hc
 case extract x i =>
  rw [Option.map_eq_some_iff] at hc
  obtain ⟨x', hx, rfl⟩ := hc
  exact pe (pure_ext rfl hx hs he)
 case call c =>
  obtain ⟨callee, args, argTypes⟩ := c
  cases callee with
  | invoke r m => simp only at hc; cases hc
  | value x =>
   have gen : ∀ {x' : MX} {args' : List MX}, cX x = some x' → cXs args.toList = some args' → evO lk O s h (.callv x' args') = some (m, h') → OpOK lk P ⟨dst, .call ⟨.value x, args, argTypes⟩, type, pos, after, guard⟩ a w E m h' := by
    intro x' args' hx ha he
    simp only [evO] at he
    split at he
    case h_2 => cases he
    rename_i f q caps hb
    have h1 := hs.x hx
    rw [hb] at h1
    have h2 := hs.xs ha
    generalize hxv : a.eval x = xv at h1
    cases h1 with
    | fn _ _ _ vs hl hv =>
     have hcv : Vs E w caps vs := ⟨hl, hv⟩
     refine ok_call hO hnd hr (vs := vs.take q ++ args.toList.map a.eval ++ vs.drop q) (((hcv.take q).append h2).append (hcv.drop q)) (fun w' => ?_) he
     have e1 : (vs.take q).toArray ++ args.map a.eval ++ (vs.drop q).toArray = (vs.take q ++ args.toList.map a.eval ++ vs.drop q).toArray := by
      apply Array.ext'; simp
     simp [execOp, resolve, hxv, Deferred.ofValue, invoke, e1]
   have gen2 : ∀ {f : Nat} {args' : List MX}, x = .func f → cXs args.toList = some args' → O f (args'.map (MX.get s)) h = some (m, h') → OpOK lk P ⟨dst, .call ⟨.value x, args, argTypes⟩, type, pos, after, guard⟩ a w E m h' := by
    intro f args' hx ha he
    subst hx
    have h2 := hs.xs ha
    refine ok_call hO hnd hr h2 (fun w' => ?_) he
    have e1 : args.map a.eval = (args.toList.map a.eval).toArray := by apply Array.ext'; simp
    simp [execOp, resolve, Act.eval, Deferred.ofValue, invoke, e1]
   cases x with
   | func f =>
    simp only at hc
    split at hc
    ·rename_i cf x hsc
     split at hc
     case isFalse => cases hc
     rename_i hbd
     rw [Option.map_eq_some_iff] at hc
     obtain ⟨x', hx, rfl⟩ := hc
     unfold srtCall at hsc
     split at hsc
     case h_2 => cases hsc
     rename_i y cf' hargs
     split at hsc
     case h_2 => cases hsc
     cases hsc
     exact ⟨ok_srt hO.2 rfl rfl hargs hx hbd hnd hs hr he, fun hp => by simp [MO.isP] at hp⟩
    split at hc
    case isFalse => cases hc
    simp only [Option.bind_eq_bind, Option.bind_eq_some_iff, Option.some.injEq] at hc
    obtain ⟨args', ha, rfl⟩ := hc
    exact ⟨gen2 rfl ha he, fun hp => by simp [MO.isP] at hp⟩
   | tmp t =>
    simp only [Option.bind_eq_bind, Option.bind_eq_some_iff, Option.some.injEq] at hc
    obtain ⟨x', hx, args', ha, rfl⟩ := hc
    exact ⟨gen hx ha he, fun hp => by simp [MO.isP] at hp⟩
   | const t =>
    simp only [Option.bind_eq_bind, Option.bind_eq_some_iff, Option.some.injEq] at hc
    obtain ⟨x', hx, args', ha, rfl⟩ := hc
    exact ⟨gen hx ha he, fun hp => by simp [MO.isP] at hp⟩
   | global t =>
    simp only [Option.bind_eq_bind, Option.bind_eq_some_iff, Option.some.injEq] at hc
    obtain ⟨x', hx, args', ha, rfl⟩ := hc
    exact ⟨gen hx ha he, fun hp => by simp [MO.isP] at hp⟩
  | builtin b =>
   simp only at hc
   split at hc
   ·rename_i x t ha hat
    split at hc
    case h_3 => cases hc
    ·rename_i e ht
     rw [Option.map_eq_some_iff] at hc
     obtain ⟨x', hx, rfl⟩ := hc
     exact pe (pure_len rfl rfl (by apply Array.ext'; exact ha) (by apply Array.ext'; exact hat) ht hx hs he)
    ·rename_i ht
     rw [Option.map_eq_some_iff] at hc
     obtain ⟨x', hx, rfl⟩ := hc
     exact pe (pure_sln rfl rfl (by apply Array.ext'; exact ha) (by apply Array.ext'; exact hat) ht hx hs he)
   ·rename_i x y t u ha hat
    split at hc
    case h_2 => cases hc
    rename_i e e' ht htx
    simp only [Option.bind_eq_bind, Option.bind_eq_some_iff] at hc
    obtain ⟨i, hi, z, hz, hc⟩ := hc
    split at hc
    case isFalse => cases hc
    rename_i hcond
    simp only [Option.bind_eq_some_iff, Option.some.injEq] at hc
    obtain ⟨x', hx, y', hy, rfl⟩ := hc
    exact ⟨(eff_app rfl rfl (by apply Array.ext'; exact ha) (by apply Array.ext'; exact hat) ht htx hi hz hcond.1 hcond.2.2.1 hcond.2.2.2 hx hy hs hr he).ok hnd, fun hp => by simp [MO.isP] at hp⟩
   ·rename_i x y t u ha hat
    split at hc
    case h_2 => cases hc
    rename_i e ht
    split at hc
    case isFalse => cases hc
    rename_i hz
    simp only [Option.bind_eq_bind, Option.bind_eq_some_iff, Option.some.injEq] at hc
    obtain ⟨x', hx, y', hy, rfl⟩ := hc
    exact ⟨(eff_cpy rfl rfl (by apply Array.ext'; exact ha) (by apply Array.ext'; exact hat) ht hz hx hy hs hr he).ok hnd, fun hp => by simp [MO.isP] at hp⟩
   ·rename_i x y ha
    simp only [Option.bind_eq_bind, Option.bind_eq_some_iff, Option.some.injEq] at hc
    obtain ⟨x', hx, y', hy, rfl⟩ := hc
    exact pe (pure_mx rfl rfl (by apply Array.ext'; exact ha) hx hy hs he)
   ·rename_i x y ha
    simp only [Option.bind_eq_bind, Option.bind_eq_some_iff, Option.some.injEq] at hc
    obtain ⟨x', hx, y', hy, rfl⟩ := hc
    exact pe (pure_mn rfl rfl (by apply Array.ext'; exact ha) hx hy hs he)
   ·cases hc
end Go.Proofs.YtfchdbghjeophaaDoor
