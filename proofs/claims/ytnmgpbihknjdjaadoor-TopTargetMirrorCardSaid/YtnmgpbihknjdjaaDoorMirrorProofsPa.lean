/- Strings as bytes: what the conversion lays. -/
import Derived.Test.YtnmgpbihknjdjaaDoorRows
import Derived.WalkKit
import Derived.WalkSpells
import Derived.WalkLawsBesides
import Derived.Lib.Hide
import Derived.Deep.QuietTactic
import Derived.BigQuiet
import Derived.StillTailTactics
import Derived.Deep.RegionHeld3
import Derived.Deep.DeepCutAuto
import Derived.Deep.LoopGhost
import Derived.Deep.DeepFit
import Derived.Deep.DeepMust
import Derived.Deep.OwnRows
import Derived.RangeFuncNested
import Derived.RangeFuncBound
import Derived.RangeFuncCalls
import Derived.RangeFuncLeaves
import Derived.RangeFuncBox
import Derived.OrdersIn
import Derived.OwnWalkIn
import Derived.TacticsInMore
import Derived.LoopNIn
import Derived.LoopIn
import Derived.Shelf.Abstract
import Derived.MapKept
import Derived.Great.BuildSlice
import Derived.Deep.AppendSrc
import Derived.Laws.MakeOwn
set_option linter.unusedVariables false
set_option linter.unusedSimpArgs false
/- Words for memory and small lemmas of this seat's proofs. -/
namespace Go.Proofs.YtnmgpbihknjdjaaDoor
open Go.RowKit
def Ret (w : World) (v : Value) (e : Ending) (w' : World) : Prop := e = .returned v ∧ Below w.heap.size w w'
theorem cell_lt {w : World} {p : Addr} {v : Value} (h : w.cell? p = some v) : p.block < w.heap.size := World.block_lt_of_cell? w p h
def Rd (w : World) (size : Nat) (A : Option Addr) (n : Nat) (xs : List Value) : Prop :=
 xs.length = n * size ∧ (0 < n → ∃ b off, A = some ⟨b, off, none⟩ ∧ b < w.heap.size ∧ ∀ j u, xs[j]? = some u → w.cell? ⟨b, off + j, none⟩ = some u)
theorem Rd.below {w w' : World} {size n : Nat} {A : Option Addr} {xs : List Value} (h : Rd w size A n xs) {B : Nat} (hB : B = w.heap.size) (hb : Below B w w') : Rd w' size A n xs := by
 subst hB
 refine ⟨h.1, fun hn => ?_⟩
 obtain ⟨b, off, e, hlt, hc⟩ := h.2 hn
 exact ⟨b, off, e, Nat.lt_of_lt_of_le hlt hb.size, fun j u hu => (hb.cell (p := ⟨b, off + j, none⟩) hlt).trans (hc j u hu)⟩
theorem Rd.sub {w : World} {size n b off : Nat} {xs : List Value} (h : Rd w size (some ⟨b, off, none⟩) n xs) (i m : Nat) (hi : i + m ≤ n) : Rd w size (some ⟨b, off + i * size, none⟩) m ((xs.drop (i * size)).take (m * size)) := by
 have hl := h.1
 have hmul : i * size + m * size ≤ n * size := by rw [← Nat.add_mul]; exact Nat.mul_le_mul_right _ hi
 refine ⟨by rw [List.length_take, List.length_drop]; omega, fun hm => ?_⟩
 obtain ⟨b', off', e, hlt, hc⟩ := h.2 (by omega)
 cases e
 refine ⟨b, off + i * size, rfl, hlt, fun j u hu => ?_⟩
 have hj : j < m * size := by
  have := (List.getElem?_eq_some_iff.1 hu).1
  rw [List.length_take] at this; omega
 rw [List.getElem?_take_of_lt hj, List.getElem?_drop] at hu
 have := hc _ u hu
 rwa [← Nat.add_assoc] at this
theorem drop_at {α : Type} (xs : List α) (k : Nat) (h : k < xs.length) : xs.drop k = xs[k]'h :: xs.drop (k + 1) := List.drop_eq_getElem_cons h
def mx (x y : Int) : Int := if y > x then y else x
def mn (x y : Int) : Int := if y < x then y else x
end Go.Proofs.YtnmgpbihknjdjaaDoor

/- Regions that draw their order: the operations of a head yield fixed values in every world of a class; then a tail whose order is forced. -/
namespace Go.Proofs.YtnmgpbihknjdjaaDoor
open Go.RowKit
section
variable {P : Program} {ops : Array Oper} {md : Region.Mode} {C : World → Prop}
end
structure After (w : World) where
 val : World
 below : Below w.heap.size w val
instance After.some_ (w : World) : Nonempty (After w) := ⟨⟨w, Below.refl _ _⟩⟩
@[simp, go_sem] theorem After.cell {w : World} (x : After w) (b o : Nat) (h : b < w.heap.size) : x.val.cell? ⟨b, o, none⟩ = w.cell? ⟨b, o, none⟩ := x.below.cell (p := ⟨b, o, none⟩) h
@[simp, go_sem] theorem After.frozen {w : World} (x : After w) (b o : Nat) (h : b < w.heap.size) : x.val.frozen? ⟨b, o, none⟩ = w.frozen? ⟨b, o, none⟩ := x.below.frozen (p := ⟨b, o, none⟩) h
theorem After.call {P : Program} {f : FuncId} {args : Array Value} {w : World} {x : After w} {v : Value} (h : Calls P f args x.val (Ret x.val v)) :
  Calls P f args x.val fun e w'' => e = .returned v ∧ ∃ y : After w, w'' = y.val :=
 h.mono fun _ w'' ⟨he, hb⟩ => ⟨he, ⟨w'', x.below.trans (hb.mono x.below.size)⟩, rfl⟩
theorem After.same {P : Program} {f : FuncId} {args : Array Value} {w : World} {x : After w} {v : Value} (h : Calls P f args x.val fun e w' => e = .returned v ∧ x.val = w') :
  Calls P f args x.val fun e w'' => e = .returned v ∧ ∃ y : After w, w'' = y.val :=
 h.mono fun _ _ ⟨he, hb⟩ => ⟨he, x, hb.symm⟩
section
variable {P : Program} {ops : Array Oper} {C : World → Prop} {Q : Exit → Act → World → Prop}
end
end Go.Proofs.YtnmgpbihknjdjaaDoor

/- Regions that draw their order, inside the fence of a range over a function. -/
namespace Go.Proofs.YtnmgpbihknjdjaaDoor
open Go.RowKit
abbrev Fw (r : Option Nat) : Fence := { Fence.wide with round := r }
theorem calls_in {P : Program} {f : FuncId} {args : Array Value} {w : World} {R : Ending → World → Prop} (r : Option Nat) (n : Nat) (h : Calls P f args w R) : CallsIn (Fw r) n P f args w R :=
 (callsIn_wide (n := n)).2 h
section
variable {P : Program} {ops : Array Oper} {md : Region.Mode} {C : World → Prop} {r : Option Nat} {m : Nat}
theorem about_wide (o : Oper) (a : Act) (w : World) : ∀ f, o.about P w a.eval = some f → (Fw r).fn f := fun _ _ => trivial
end
section
variable {P : Program} {ops : Array Oper} {C : World → Prop} {Q : Exit → Act → World → Prop} {r : Option Nat} {m : Nat}
end
end Go.Proofs.YtnmgpbihknjdjaaDoor

/- Ranges over a function: the laws in the form in which this seat uses them. -/
namespace Go.Proofs.YtnmgpbihknjdjaaDoor
open Go.RowKit
def dataO (o : Obj) : Bool := o.isCells || (match o with | .map _ _ => true | .mapIter _ _ _ _ => true | _ => false)
structure CK (B : Nat) (W W' : World) : Prop where
 os : W'.os = W.os
 tape : W'.tape = W.tape
 output : W'.output = W.output
 size : W.heap.size ≤ W'.heap.size
 low : ∀ k, k < B → k < W.heap.size → W'.heap[k]? = W.heap[k]?
 cells : ∀ (k : Nat) (o : Obj), W.heap[k]? = some o → o.isCells = true → W'.heap[k]? = some o
theorem CK.refl (B : Nat) (W : World) : CK B W W := ⟨rfl, rfl, rfl, Nat.le_refl _, fun _ _ _ => rfl, fun _ _ h _ => h⟩
theorem CK.trans {B : Nat} {U V Z : World} (h : CK B U V) (k : CK B V Z) : CK B U Z :=
 ⟨k.os.trans h.os, k.tape.trans h.tape, k.output.trans h.output, Nat.le_trans h.size k.size, fun i hi hs => (k.low i hi (Nat.lt_of_lt_of_le hs h.size)).trans (h.low i hi hs), fun i o hi ho => k.cells i o (h.cells i o hi ho) ho⟩
theorem CK.mono {B B' : Nat} {U V : World} (h : CK B U V) (hB : B' ≤ B) : CK B' U V := ⟨h.os, h.tape, h.output, h.size, fun k hk => h.low k (Nat.lt_of_lt_of_le hk hB), h.cells⟩
theorem CK.below {B : Nat} {U V : World} (h : CK B U V) (hB : B ≤ U.heap.size) : Below B U V := ⟨h.os, h.tape, h.output, h.size, fun k hk => h.low k hk (Nat.lt_of_lt_of_le hk hB)⟩
theorem CK.of_below {B : Nat} {U V : World} (h : Below U.heap.size U V) : CK B U V :=
 ⟨h.os, h.tape, h.output, h.size, fun k _ hs => h.block k hs, fun k _ hk _ => (h.block k (Array.getElem?_eq_some_iff.1 hk).1).trans hk⟩
theorem CK.putObj {B : Nat} (W : World) (l : Nat) (o o' : Obj) (hl : W.heap[l]? = some o) (ho : o.isCells = false) (hB : B ≤ l) : CK B W (W.putObj l o') := by
 have hg := grownBy_putObj' W l o'
 refine ⟨hg.os, hg.tape, hg.output, hg.size, fun k hk hs => hg.block k hs (fun e => by cases e; omega), fun k x hk hx => ?_⟩
 have hs := (Array.getElem?_eq_some_iff.1 hk).1
 refine (hg.block k hs (fun e => ?_)).trans hk
 cases e
 rw [hl] at hk
 cases hk
 rw [ho] at hx
 cases hx
theorem block_isCells {W : World} {p : Addr} {v : Value} (h : W.cell? p = some v) : ∃ o, W.heap[p.block]? = some o ∧ o.isCells = true := by
 unfold World.cell? at h
 cases hb : W.heap[p.block]? with
 | none => rw [hb] at h; simp at h
 | some o =>
  refine ⟨o, rfl, ?_⟩
  rw [hb] at h
  cases o <;> first | rfl | simp at h
theorem CK.cell {B : Nat} {W W' : World} (h : CK B W W') {p : Addr} {v : Value} (hc : W.cell? p = some v) : W'.cell? p = some v := by
 obtain ⟨o, ho, hx⟩ := block_isCells hc
 exact (World.cell?_of_block (w := W) ((h.cells _ o ho hx).trans ho.symm)).trans hc
theorem CK.frozen {B : Nat} {W W' : World} (h : CK B W W') {p : Addr} {v : Value} (hc : W.cell? p = some v) : W'.frozen? p = W.frozen? p := by
 obtain ⟨o, ho, hx⟩ := block_isCells hc
 exact World.frozen?_of_block (w := W) ((h.cells _ o ho hx).trans ho.symm)
structure SameS (S : Nat → Prop) (W W' : World) : Prop where
 os : W'.os = W.os
 tape : W'.tape = W.tape
 output : W'.output = W.output
 size : W.heap.size ≤ W'.heap.size
 block : ∀ k, S k → W'.heap[k]? = W.heap[k]?
theorem SameS.refl (S : Nat → Prop) (W : World) : SameS S W W := ⟨rfl, rfl, rfl, Nat.le_refl _, fun _ _ => rfl⟩
theorem SameS.trans {S : Nat → Prop} {U V Z : World} (h : SameS S U V) (k : SameS S V Z) : SameS S U Z :=
 ⟨k.os.trans h.os, k.tape.trans h.tape, k.output.trans h.output, Nat.le_trans h.size k.size, fun i hi => (k.block i hi).trans (h.block i hi)⟩
theorem SameS.cell {S : Nat → Prop} {W W' : World} (h : SameS S W W') {p : Addr} (hp : S p.block) : W'.cell? p = W.cell? p := World.cell?_of_block (w := W) (h.block _ hp)
theorem SameS.of_below {S : Nat → Prop} {W W' : World} (h : Below W.heap.size W W') (hn : ∀ k, S k → k < W.heap.size) : SameS S W W' := ⟨h.os, h.tape, h.output, h.size, fun k hk => h.block k (hn k hk)⟩
theorem SameS.putObj {S : Nat → Prop} {B : Nat} (hn : ∀ k, S k → k < B) (W : World) (l : Nat) (o o' : Obj) (hl : B ≤ l) (_ : W.heap[l]? = some o) (_ : o.isCells = false) (_ : o.isWalk = false) : SameS S W (W.putObj l o') := by
 have hg := grownBy_putObj' W l o'
 refine ⟨hg.os, hg.tape, hg.output, hg.size, fun k hk => ?_⟩
 exact World.putObj_heap_other (fun e => by have := hn k hk; omega)
def Stable (B : Nat) (R : World → Prop) : Prop := ∀ W W', R W → CK B W W' → R W'
theorem Stable.and {B : Nat} {R S : World → Prop} (h : Stable B R) (k : Stable B S) : Stable B (fun W => R W ∧ S W) := fun W W' hs hc => ⟨h W W' hs.1 hc, k W W' hs.2 hc⟩
theorem Stable.ex {β : Type} {B : Nat} {R : β → World → Prop} (h : ∀ b, Stable B (R b)) : Stable B (fun W => ∃ b, R b W) := fun W W' ⟨b, hs⟩ hc => ⟨b, h b W W' hs hc⟩
theorem Stable.pure {B : Nat} (p : Prop) : Stable B (fun _ => p) := fun _ _ h _ => h
theorem Stable.cell {B : Nat} (p : Addr) (v : Value) : Stable B (fun W => W.cell? p = some v) := fun _ _ h hc => hc.cell h
theorem Stable.below {B B' : Nat} {w : World} (hB : B' ≤ B) (hw : B' ≤ w.heap.size) : Stable B (fun W => Below B' w W) := fun _ _ h hc => h.trans ((hc.mono hB).below (Nat.le_trans hw h.size))
theorem Stable.le {B n : Nat} : Stable B (fun W => n ≤ W.heap.size) := fun _ _ h hc => Nat.le_trans h hc.size
theorem Stable.lt {B n : Nat} : Stable B (fun W => n < W.heap.size) := fun _ _ h hc => Nat.lt_of_lt_of_le h hc.size
def OneC (W : World) (b : Nat) (t : TypeId) (v : Value) : Prop := W.heap[b]? = some (.cells #[v] t (0, 0))
theorem OneC.cell {W : World} {b : Nat} {t : TypeId} {v : Value} (h : OneC W b t v) : W.cell? ⟨b, 0, none⟩ = some v := by
 rw [cell_of_row W b 0 _ t (0, 0) h]; rfl
theorem OneC.frozen {W : World} {b : Nat} {t : TypeId} {v : Value} (h : OneC W b t v) : W.frozen? ⟨b, 0, none⟩ = false := frozen_of_row W b 0 _ t h
theorem OneC.lt {W : World} {b : Nat} {t : TypeId} {v : Value} (h : OneC W b t v) : b < W.heap.size := (Array.getElem?_eq_some_iff.1 h).1
theorem OneC.below {W W' : World} {b : Nat} {t : TypeId} {v : Value} (h : OneC W b t v) (hb : Below W.heap.size W W') : OneC W' b t v := (hb.block b h.lt).trans h
theorem OneC.alloc {W : World} {b : Nat} {t : TypeId} {v : Value} (h : OneC W b t v) (o : Obj) : OneC (W.alloc o) b t v := (Below.heap_alloc W o b h.lt).trans h
theorem OneC.new (W : World) (t : TypeId) (v : Value) : OneC (W.alloc (.cells #[v] t)) W.heap.size t v := by unfold OneC; exact World.alloc_heap_new W _
theorem OneC.set {W : World} {b : Nat} {t : TypeId} {v : Value} (h : OneC W b t v) (u : Value) : OneC (W.setCell ⟨b, 0, none⟩ u) b t u := by
 unfold OneC at *
 simp [World.setCell, Array.getElem?_modify, h]
theorem OneC.other {W : World} {b : Nat} {t : TypeId} {v : Value} (h : OneC W b t v) {p : Addr} (hp : p.block ≠ b) (u : Value) : OneC (W.setCell p u) b t v := (Below.heap_setCell W p u b (fun e => hp e.symm)).trans h
theorem Stable.one {B b : Nat} {t : TypeId} {v : Value} : Stable B (fun W => OneC W b t v) := fun _ _ h hk => hk.cells _ _ h rfl
structure CKd (B : Nat) (W W' : World) : Prop extends CK B W W' where
 data : ∀ (k : Nat) (o : Obj), W.heap[k]? = some o → dataO o = true → W'.heap[k]? = some o
theorem CKd.of_below {B : Nat} {U V : World} (h : Below U.heap.size U V) : CKd B U V := ⟨CK.of_below h, fun k _ hk _ => (h.block k (Array.getElem?_eq_some_iff.1 hk).1).trans hk⟩
theorem CKd.putObj {B : Nat} (W : World) (l : Nat) (o o' : Obj) (hl : W.heap[l]? = some o) (ho : dataO o = false) (hB : B ≤ l) : CKd B W (W.putObj l o') := by
 have hd : ∀ x : Obj, dataO x = false → x.isCells = false := fun x h => by unfold dataO at h; rw [Bool.or_eq_false_iff] at h; exact h.1
 refine ⟨CK.putObj W l o o' hl (hd o ho) hB, fun k x hk hx => ?_⟩
 by_cases e : k = l
 ·subst e
  rw [hl] at hk
  cases hk
  rw [ho] at hx
  cases hx
 ·exact (World.putObj_heap_other e).trans hk
theorem CKd.refl (B : Nat) (W : World) : CKd B W W := ⟨CK.refl B W, fun _ _ h _ => h⟩
theorem CKd.trans {B : Nat} {U V Z : World} (h : CKd B U V) (k : CKd B V Z) : CKd B U Z := ⟨h.toCK.trans k.toCK, fun i o hi ho => k.data i o (h.data i o hi ho) ho⟩
def Marks (B : Nat) : List Deferred → World → Prop
 | [], _ => True
 | d :: ds, W => (∃ D, d = { target := .collected D, args := #[] } ∧ B ≤ D ∧ W.heap[D]? = some (.deferred (some [])) ∧ ∀ d' ∈ ds, d' ≠ d) ∧ Marks B ds W
theorem Marks.keep {B : Nat} : ∀ {ds : List Deferred} {W W' : World}, Marks B ds W → (∀ D, ({ target := .collected D, args := #[] } : Deferred) ∈ ds → W.heap[D]? = some (.deferred (some [])) → W'.heap[D]? = some (.deferred (some []))) → Marks B ds W'
 | [], _, _, _, _ => trivial
 | d :: ds, W, W', ⟨⟨D, hd, hB, hD, hne⟩, hm⟩, hk => ⟨⟨D, hd, hB, hk D (by rw [hd]; exact List.mem_cons_self) hD, hne⟩, Marks.keep hm fun D' hD' h => hk D' (List.mem_cons_of_mem _ hD') h⟩
theorem Marks.at_ {B : Nat} : ∀ {ds : List Deferred} {W : World}, Marks B ds W → ∀ D, ({ target := .collected D, args := #[] } : Deferred) ∈ ds → W.heap[D]? = some (.deferred (some [])) ∧ B ≤ D
 | d :: ds, W, ⟨⟨D, hd, hB, hD, _⟩, hm⟩, D', h => by
  rcases List.mem_cons.1 h with e | h
  ·rw [hd] at e; cases e; exact ⟨hD, hB⟩
  ·exact Marks.at_ hm D' h
theorem leaves_marksD {n : Nat} {P : Program} {fn : Func} {tmps : Array Value} {R : Ending → World → Prop} {v : Value} {B : Nat} : ∀ (ds : List Deferred) (W : World), Marks B ds W →
  (∀ W', CKd B W W' → (results fn tmps).run P W' = .ok v W' ∧ R (.returned v) W') → LeavesInM Fence.wide n P fn tmps R ds .returning W
 | [], W, _, h => by
  obtain ⟨h1, h2⟩ := h W (CKd.refl _ _)
  exact ⟨v, h1, h2⟩
 | d :: ds, W, ⟨⟨D, hd, hB, hD, hne⟩, hm⟩, h => by
  refine ⟨by simp, .inl ⟨D, W.putObj D (.deferred none), by rw [hd], run_takeDeferred hD, ?_⟩⟩
  have hck : CKd B W (W.putObj D (.deferred none)) := CKd.putObj W D _ _ hD rfl hB
  refine leaves_marksD ds _ (hm.keep fun D' hD' hh => ?_) fun W' hk => h W' (hck.trans hk)
  refine (World.putObj_heap_other (fun e => ?_)).trans hh
  exact hne _ hD' (by rw [hd, e])
theorem ret_marksD {n : Nat} {P : Program} {fn : Func} {a : Act} {W : World} {R : Ending → World → Prop} {v : Value} {B : Nat} (hm : Marks B a.defers W)
  (h : ∀ W', CKd B W W' → (results fn a.tmps).run P W' = .ok v W' ∧ R (.returned v) W') : bodyPostM Fence.wide n P fn R .ret a W := leaves_marksD _ _ hm h
structure Kept (S : Nat → Prop) (B : Nat) (W W' : World) : Prop where
 keeps : KeepsFrom B W W'
 same : SameS S W W'
theorem Kept.refl (S : Nat → Prop) (B : Nat) (W : World) : Kept S B W W := ⟨KeepsFrom.refl _ _, SameS.refl _ _⟩
theorem Kept.trans {S : Nat → Prop} {B : Nat} {U V Z : World} (h : Kept S B U V) (k : Kept S B V Z) : Kept S B U Z := ⟨h.keeps.trans k.keeps, h.same.trans k.same⟩
theorem Kept.of_below {S : Nat → Prop} {B : Nat} {W W' : World} (h : Below W.heap.size W W') (hn : ∀ k, S k → k < W.heap.size) : Kept S B W W' :=
 ⟨⟨h.size, fun k _ _ hk _ => (h.block k (Array.getElem?_eq_some_iff.1 hk).1).trans hk⟩, h.os, h.tape, h.output, h.size, fun k hk => h.block k (hn k hk)⟩
theorem Kept.alloc {S : Nat → Prop} {B : Nat} (W : World) (hn : ∀ k, S k → k < W.heap.size) (o : Obj) : Kept S B W (W.alloc o) := Kept.of_below ((Below.refl _ W).alloc (Nat.le_refl _) o) hn
theorem Kept.setCell {S : Nat → Prop} {B : Nat} (W : World) {p : Addr} (hp : ¬ S p.block) (u : Value) : Kept S B W (W.setCell p u) :=
 ⟨(KeepsOthers.setCell W p u).from B, rfl, rfl, rfl, by simp [World.setCell], fun k hk => Below.heap_setCell W p u k (fun e => hp (e ▸ hk))⟩
end Go.Proofs.YtnmgpbihknjdjaaDoor

/- Abstract values and their relation to memory: what a deterministic evaluation of the program's text computes with. -/
namespace Go.Proofs.YtnmgpbihknjdjaaDoor
open Go.RowKit
inductive MV where
 | lit (v : Value)
 | agg (cs : List MV)
 | tup (vs : List MV)
 | sl (es : List MV)
 | rp (e : MV) (off : Nat)
 | ptr (id i off g : Nat)
 | arr (id i n g : Nat)
 | fn (f k : Nat) (caps : List MV)
 | mp (id g : Nat)
 | rm (es : List MV)
 | junk
 | yld
 | emp
 | itr (k v : MV)
instance : Inhabited MV := ⟨.junk⟩
def MV.cells : MV → List MV
 | .agg cs => cs
 | v => [v]
def flat (es : List MV) : List MV := es.flatMap MV.cells
def MV.one : MV → Bool
 | .lit v => v.oneCell'
 | .agg _ | .tup _ | .junk | .yld | .itr _ _ => false
 | _ => true
structure MObj where
 g : Nat
 nl : Bool
 sz : Nat
 es : List MV
abbrev MHeap := List MObj
structure Env where
 S : Nat → Prop
 K : Nat → Prop
 ρ : Nat → Nat
 bo : Nat → Nat
 cp : Nat → Nat
 sz : Nat → Nat
 gn : Nat → Nat
 ln : Nat → Nat
 nl : Nat → Bool
 top : Nat
 yl : Nat
def mapV (l : List MapEntry) : Value := .tuple (l.map fun e => Value.tuple #[e.key, e.val]).toArray
def viewO (nl : Bool) (o : Option Obj) (arr : Array Value) (t : TypeId) : Prop :=
 match nl with
 | false => o = some (.cells arr t (0, 0))
 | true => ∃ es ck l, o = some (.map es ck) ∧ l.Perm es.toList ∧ MapKept.Stamped es ck ∧ arr = #[mapV l]
theorem viewO.some {nl : Bool} {o : Option Obj} {arr : Array Value} {t : TypeId} (h : viewO nl o arr t) : ∃ x, o = some x := by
 cases nl
 ·exact ⟨_, h⟩
 ·obtain ⟨es, ck, l, h, _⟩ := h; exact ⟨_, h⟩
theorem viewO.data {nl : Bool} {o : Option Obj} {arr : Array Value} {t : TypeId} (h : viewO nl o arr t) : ∃ x, o = Option.some x ∧ dataO x = true := by
 cases nl
 ·exact ⟨_, h, rfl⟩
 ·obtain ⟨es, ck, l, h, _⟩ := h; exact ⟨_, h, rfl⟩
theorem viewO.ck {nl : Bool} {arr : Array Value} {t : TypeId} {B k : Nat} {w w' : World} (hc : CKd B w w') (h : viewO nl w.heap[k]? arr t) : viewO nl w'.heap[k]? arr t := by
 cases nl
 ·exact hc.data _ _ h rfl
 ·obtain ⟨es, ck, l, h, e⟩ := h; exact ⟨es, ck, l, hc.data _ _ h rfl, e⟩
inductive V (E : Env) (w : World) : MV → Value → Prop
 | junk (v : Value) : V E w .junk v
 | yld : V E w .yld (.func (.yield E.yl) #[] #[])
 | emp (a : Addr) : V E w .emp (.slice (some a) 0 0)
 | lit (v : Value) : V E w (.lit v) v
 | agg (cs : List MV) (vs : List Value) : cs.length = vs.length → (∀ (i : Nat) c v, cs[i]? = some c → vs[i]? = some v → V E w c v) → V E w (.agg cs) (.agg vs.toArray)
 | tup (cs : List MV) (vs : List Value) : cs.length = vs.length → (∀ (i : Nat) c v, cs[i]? = some c → vs[i]? = some v → V E w c v) → V E w (.tup cs) (.tuple vs.toArray)
 | sl (es : List MV) (vs : List Value) (A : Option Addr) (cap sz : Nat) : es.length ≤ cap → (∀ e ∈ es, e.cells.length = sz) → (flat es).length = vs.length → (∀ (i : Nat) c v, (flat es)[i]? = some c → vs[i]? = some v → V E w c v) →
   (0 < es.length → ∃ b off, A = some ⟨b, off, none⟩ ∧ E.S b ∧ ∀ (i : Nat) v, vs[i]? = some v → w.cell? ⟨b, off + i, none⟩ = some v) → V E w (.sl es) (.slice A es.length cap)
 | rp (e : MV) (off : Nat) (vs : List Value) (b o : Nat) : e.cells.length = vs.length → (∀ (i : Nat) c v, e.cells[i]? = some c → vs[i]? = some v → V E w c v) → E.S b → (∀ (i : Nat) v, vs[i]? = some v → w.cell? ⟨b, o + i, none⟩ = some v) →
   V E w (.rp e off) (.pointer (some ⟨b, o + off, none⟩))
 | ptr (id i off g b o : Nat) : E.K id → g ≤ E.gn id → (E.gn id = g → b = E.ρ id ∧ o = (E.bo id + i) * E.sz id + off ∧ i < E.ln id ∧ E.nl id = false) → V E w (.ptr id i off g) (.pointer (some ⟨b, o, none⟩))
 | arr (id i n g : Nat) (A : Option Addr) (cap : Nat) : E.K id → g ≤ E.gn id → (E.gn id = g → i + n ≤ E.ln id ∧ n ≤ cap ∧ (E.nl id = true → A = none ∧ cap = 0 ∧ E.cp id = 0) ∧ (E.nl id = false → A.isSome = true) ∧
   (0 < cap → A = some ⟨E.ρ id, (E.bo id + i) * E.sz id, none⟩ ∧ E.bo id + i + cap ≤ E.cp id)) → V E w (.arr id i n g) (.slice A n cap)
 | mp (id g b : Nat) : E.K id → g ≤ E.gn id → (E.gn id = g → b = E.ρ id ∧ E.nl id = true ∧ 0 < E.cp id) → V E w (.mp id g) (.map (some b))
 | rm (es : List MV) (b : Nat) (ents : Array MapEntry) (ck : Nat) (l : List MapEntry) : es.length = l.length → (∀ (i : Nat) c e, es[i]? = some c → l[i]? = some e → V E w c (.tuple #[e.key, e.val])) → l.Perm ents.toList → MapKept.Stamped ents ck → E.S b → w.heap[b]? = some (.map ents ck) → V E w (.rm es) (.map (some b))
 | itr (k v : MV) (b : Nat) (ents : Array MapEntry) (ck since : Nat) (seen : Array Nat) (en : MapEntry) : V E w k en.key → V E w v en.val → MapKept.Stamped ents ck → en ∈ ents.toList → E.S b → w.heap[b]? = some (.map ents ck) → w.heap[E.yl]? = some (.mapIter (some b) since (seen.push en.born) ck) → V E w (.itr k v) (.pointer (some ⟨E.yl, 0, none⟩))
 | fn (f k : Nat) (cs : List MV) (vs : List Value) : cs.length = vs.length → (∀ (i : Nat) c v, cs[i]? = some c → vs[i]? = some v → V E w c v) → V E w (.fn f k cs) (.func (.func f) (vs.take k).toArray (vs.drop k).toArray)
def Vs (E : Env) (w : World) (cs : List MV) (vs : List Value) : Prop := cs.length = vs.length ∧ ∀ (i : Nat) c v, cs[i]? = some c → vs[i]? = some v → V E w c v
def TABS : List (MV × Value) := [(.sl (([0, 1, 56, 2, 57, 49, 28, 3, 61, 58, 42, 50, 38, 29, 17, 4, 62, 47, 59, 36, 45, 43, 51, 22, 53, 39, 33, 30, 24, 18, 12, 5, 63, 55, 48, 27, 60, 41, 37, 16, 46, 35, 44, 21, 52, 32, 23, 11, 54, 26, 40, 15, 34, 20, 31, 10, 25, 14, 19, 9, 13, 8, 7, 6] : List Nat).map fun k : Nat => .lit (.int .u8 (k : Int))), .slice (some ⟨1, 0, none⟩) 64 64)]
structure HRel (E : Env) (H : MHeap) (w : World) : Prop where
 klt : ∀ id, E.K id → id < H.length
 top : E.top ≤ H.length
 obj : ∀ id, E.K id → ∃ es, H[id]? = some ⟨E.gn id, E.nl id, E.sz id, es⟩ ∧ E.ln id = es.length ∧ (∀ e ∈ es, e.cells.length = E.sz id) ∧ E.bo id + es.length ≤ E.cp id ∧
  (0 < E.cp id → ∃ (arr : Array Value) (t : TypeId), viewO (E.nl id) w.heap[E.ρ id]? arr t ∧ arr.size = E.cp id * E.sz id ∧ ∀ (k : Nat) c, (flat es)[k]? = some c → ∃ v, arr[E.bo id * E.sz id + k]? = some v ∧ V E w c v)
 inj : ∀ id id', E.K id → E.K id' → 0 < E.cp id → 0 < E.cp id' → E.ρ id = E.ρ id' → id = id'
 sep : ∀ id, E.K id → 0 < E.cp id → ¬ E.S (E.ρ id)
 slt : ∀ b, E.S b → b < w.heap.size
 tab : ∀ p ∈ TABS, V E w p.1 p.2
structure Ext (lk : Nat → Bool) (E : Env) (w : World) (E' : Env) (w' : World) : Prop where
 os : w'.os = w.os
 tape : w'.tape = w.tape
 output : w'.output = w.output
 size : w.heap.size ≤ w'.heap.size
 keep : ∀ k, k < w.heap.size → (∀ id, E.K id → lk id = false → 0 < E.cp id → E.ρ id ≠ k) → w'.heap[k]? = w.heap[k]?
 S : ∀ b, E.S b → E'.S b
 K : ∀ id, E.K id → E'.K id
 old : ∀ id, E.K id → E.gn id ≤ E'.gn id ∧ (E'.gn id = E.gn id → E'.ρ id = E.ρ id ∧ E'.bo id = E.bo id ∧ E'.cp id = E.cp id ∧ E'.sz id = E.sz id ∧ E'.ln id = E.ln id ∧ E'.nl id = E.nl id)
 lock : ∀ id, E.K id → lk id = true → E'.gn id = E.gn id
 src : ∀ id, E'.K id → 0 < E'.cp id → (E.K id ∧ 0 < E.cp id ∧ E'.ρ id = E.ρ id) ∨ w.heap.size ≤ E'.ρ id
 top : E'.top = E.top
 srcK : ∀ id, E'.K id → E.K id ∨ E.top ≤ id
 yl : E'.yl = E.yl
 srcS : ∀ b, E'.S b → E.S b ∨ (∃ id, E.K id ∧ 0 < E.cp id ∧ E.ρ id = b) ∨ w.heap.size ≤ b
theorem Ext.refl (lk : Nat → Bool) (E : Env) (w : World) : Ext lk E w E w :=
 ⟨rfl, rfl, rfl, Nat.le_refl _, fun _ _ _ => rfl, fun _ h => h, fun _ h => h, fun _ _ => ⟨Nat.le_refl _, fun _ => ⟨rfl, rfl, rfl, rfl, rfl, rfl⟩⟩, fun _ _ _ => rfl, fun _ hd hc => .inl ⟨hd, hc, rfl⟩, rfl, fun _ h => .inl h, rfl, fun _ h => .inl h⟩
theorem Ext.trans {lk : Nat → Bool} {E E1 E2 : Env} {w w1 w2 : World} (h : Ext lk E w E1 w1) (k : Ext lk E1 w1 E2 w2) : Ext lk E w E2 w2 where
 os := k.os.trans h.os
 tape := k.tape.trans h.tape
 output := k.output.trans h.output
 size := Nat.le_trans h.size k.size
 keep := fun b hb hn => (k.keep b (Nat.lt_of_lt_of_le hb h.size) (fun id hd hl hc e => by
  rcases h.src id hd hc with ⟨hi, hci, ei⟩ | hge
  ·exact hn id hi hl hci (ei.symm.trans e)
  ·omega)).trans (h.keep b hb hn)
 S := fun b hb => k.S b (h.S b hb)
 K := fun b hb => k.K b (h.K b hb)
 old := fun id hk => by
  obtain ⟨a2, a3⟩ := h.old id hk
  obtain ⟨b2, b3⟩ := k.old id (h.K id hk)
  refine ⟨Nat.le_trans a2 b2, fun e => ?_⟩
  have e1 : E1.gn id = E.gn id := by omega
  obtain ⟨c1, c2, c3, c4, c5, c6⟩ := a3 e1
  obtain ⟨d1, d2, d3, d4, d5, d6⟩ := b3 (by omega)
  exact ⟨d1.trans c1, d2.trans c2, d3.trans c3, d4.trans c4, d5.trans c5, d6.trans c6⟩
 lock := fun id hk hl => (k.lock id (h.K id hk) hl).trans (h.lock id hk hl)
 src := fun id hd hc => by
  rcases k.src id hd hc with ⟨hi, hci, ei⟩ | hge
  ·rcases h.src id hi hci with ⟨hj, hcj, ej⟩ | hge
   ·exact .inl ⟨hj, hcj, ei.trans ej⟩
   ·exact .inr (by omega)
  ·exact .inr (Nat.le_trans h.size hge)
 top := k.top.trans h.top
 srcK := fun id hd => (k.srcK id hd).elim (h.srcK id) fun e => .inr (h.top ▸ e)
 yl := k.yl.trans h.yl
 srcS := fun b hb => by
  rcases k.srcS b hb with h1 | ⟨id, h1, h2, rfl⟩ | h1
  ·exact h.srcS b h1
  ·rcases h.src id h1 h2 with ⟨a1, a2, a3⟩ | a
   ·exact .inr (.inl ⟨id, a1, a2, a3.symm⟩)
   ·exact .inr (.inr a)
  ·exact .inr (.inr (Nat.le_trans h.size h1))
theorem Ext.mono {lk lk' : Nat → Bool} {E E' : Env} {w w' : World} (h : Ext lk E w E' w') (hl : ∀ id, E.K id → lk' id = true → lk id = true) : Ext lk' E w E' w' :=
 { h with keep := fun k hk hn => h.keep k hk fun id hd hl' hc => hn id hd (by cases e : lk' id; rfl; rw [hl id hd e] at hl'; cases hl') hc, lock := fun id hk hl' => h.lock id hk (hl id hk hl') }
theorem HRel.sblock {lk : Nat → Bool} {E : Env} {H : MHeap} {w : World} (hr : HRel E H w) {E' : Env} {w' : World} (h : Ext lk E w E' w') {b : Nat} (hb : E.S b) : w'.heap[b]? = w.heap[b]? :=
 h.keep b (hr.slt b hb) fun id hd _ hc e => hr.sep id hd hc (e ▸ hb)
theorem HRel.iterK {lk : Nat → Bool} {E : Env} {H : MHeap} {w : World} (hr : HRel E H w) {E' : Env} {w' : World} (h : Ext lk E w E' w') {r : Nat} {m : Option Nat} {a c : Nat} {s : Array Nat} (hi : w.heap[r]? = some (.mapIter m a s c)) : w'.heap[r]? = w.heap[r]? :=
 h.keep r (Array.getElem?_eq_some_iff.1 hi).1 fun id hd _ hc e => by
  obtain ⟨es, _, _, _, _, hb⟩ := hr.obj id hd
  obtain ⟨arr, t, hv, _⟩ := hb hc
  rw [e, hi] at hv
  cases hn : E.nl id
  ·rw [hn] at hv; cases hv
  ·rw [hn] at hv
   obtain ⟨_, _, _, hv, _⟩ := hv
   cases hv
theorem V.ext {lk : Nat → Bool} {E : Env} {H : MHeap} {w : World} (hr : HRel E H w) {E' : Env} {w' : World} (h : Ext lk E w E' w') {m : MV} {v : Value} (hv : V E w m v) : V E' w' m v := by
 induction hv with
 | junk v => exact .junk v
 | yld => rw [← h.yl]; exact .yld
 | emp a => exact .emp a
 | lit v => exact .lit v
 | agg cs vs hl _ ih => exact .agg cs vs hl ih
 | tup cs vs hl _ ih => exact .tup cs vs hl ih
 | fn f k cs vs hl _ ih => exact .fn f k cs vs hl ih
 | sl es vs A cap sz hc hs hl _ hA ih =>
  refine .sl es vs A cap sz hc hs hl ih fun h0 => ?_
  obtain ⟨b, off, e, hb, hcell⟩ := hA h0
  exact ⟨b, off, e, h.S b hb, fun i v hi => (World.cell?_of_block (w := w) (a := ⟨b, off + i, none⟩) (hr.sblock h hb)).trans (hcell i v hi)⟩
 | rp e off vs b o hl _ hb hcell ih =>
  exact .rp e off vs b o hl ih (h.S b hb) fun i v hi => (World.cell?_of_block (w := w) (a := ⟨b, o + i, none⟩) (hr.sblock h hb)).trans (hcell i v hi)
 | ptr id i off g b o hk hg hd =>
  obtain ⟨a2, a3⟩ := h.old id hk
  refine .ptr id i off g b o (h.K id hk) (Nat.le_trans hg a2) fun hg' => ?_
  obtain ⟨c1, c2, c3, c4, c5, c6⟩ := a3 (by omega)
  rw [c1, c2, c4, c5, c6]
  exact hd (by omega)
 | arr id i n g A cap hk hg hd =>
  obtain ⟨a2, a3⟩ := h.old id hk
  refine .arr id i n g A cap (h.K id hk) (Nat.le_trans hg a2) fun hg' => ?_
  obtain ⟨c1, c2, c3, c4, c5, c6⟩ := a3 (by omega)
  rw [c1, c2, c3, c4, c5, c6]
  exact hd (by omega)
 | mp id g b hk hg hd =>
  obtain ⟨a2, a3⟩ := h.old id hk
  refine .mp id g b (h.K id hk) (Nat.le_trans hg a2) fun hg' => ?_
  obtain ⟨c1, c2, c3, c4, c5, c6⟩ := a3 (by omega)
  rw [c1, c3, c6]
  exact hd (by omega)
 | rm es b ents ck l hl _ hp hs hb hc ih => exact .rm es b ents ck l hl ih hp hs (h.S b hb) ((hr.sblock h hb).trans hc)
 | itr k v b ents ck since seen en _ _ hs hen hb hc hi ihk ihv =>
  have := V.itr (E := E') (w := w') k v b ents ck since seen en ihk ihv hs hen (h.S b hb) ((hr.sblock h hb).trans hc) (by rw [h.yl]; exact (hr.iterK h hi).trans hi)
  rwa [h.yl] at this
theorem Vs.cons {E : Env} {w : World} {m : MV} {v : Value} {ms : List MV} {vs : List Value} (h : V E w m v) (hs : Vs E w ms vs) : Vs E w (m :: ms) (v :: vs) := by
 refine ⟨by simp [hs.1], fun i c x hc hx => ?_⟩
 cases i with
 | zero => simp at hc hx; subst hc hx; exact h
 | succ i => simp at hc hx; exact hs.2 i c x hc hx
theorem Vs.uncons {E : Env} {w : World} {m : MV} {ms : List MV} {vs : List Value} (h : Vs E w (m :: ms) vs) : ∃ v us, vs = v :: us ∧ V E w m v ∧ Vs E w ms us := by
 cases vs with
 | nil => exact absurd h.1 (by simp)
 | cons v us => exact ⟨v, us, rfl, h.2 0 m v rfl rfl, by simpa using h.1, fun i c x hc hx => h.2 (i + 1) c x hc hx⟩
theorem Vs.ext {lk : Nat → Bool} {E : Env} {H : MHeap} {w : World} (hr : HRel E H w) {E' : Env} {w' : World} (h : Ext lk E w E' w') {cs : List MV} {vs : List Value} (hv : Vs E w cs vs) : Vs E' w' cs vs :=
 ⟨hv.1, fun i c v hc hx => (hv.2 i c v hc hx).ext hr h⟩
theorem V.one {E : Env} {w : World} {m : MV} {v : Value} (h : V E w m v) (ho : m.one = true) : v.oneCell' = true := by
 cases h <;> first | exact ho | rfl | cases ho
theorem V.cells {E : Env} {w : World} {m : MV} {v : Value} (h : V E w m v) (hm : ∀ x, m ≠ .lit (.agg x)) (hj : m ≠ .junk) : Vs E w m.cells v.cells.toList := by
 cases h with
 | junk v => exact absurd rfl hj
 | agg cs vs hl hc => exact ⟨by simpa [MV.cells, Value.cells] using hl, by simpa [MV.cells, Value.cells] using hc⟩
 | lit v =>
  have : v.cells = #[v] := by
   cases v <;> first | rfl | exact absurd rfl (hm _)
  rw [this]
  refine ⟨rfl, fun i c x hc hx => ?_⟩
  cases i with
  | zero => simp [MV.cells] at hc hx; subst hc hx; exact .lit _
  | succ i => simp [MV.cells] at hc
 | rm es b ents ck l hl hc hp hs hb hh =>
  refine ⟨rfl, fun i c x hc' hx => ?_⟩
  cases i with
  | zero => simp [MV.cells, Value.cells] at hc' hx; subst hc' hx; exact .rm es b ents ck l hl hc hp hs hb hh
  | succ i => simp [MV.cells] at hc'
 | itr k v b ents ck since seen en h1 h2 hs hen hb hh hi =>
  refine ⟨rfl, fun i c x hc' hx => ?_⟩
  cases i with
  | zero => simp [MV.cells, Value.cells] at hc' hx; subst hc' hx; exact .itr k v b ents ck since seen en h1 h2 hs hen hb hh hi
  | succ i => simp [MV.cells] at hc'
 | _ =>
  refine ⟨rfl, fun i c x hc hx => ?_⟩
  cases i with
  | zero => simp [MV.cells, Value.cells] at hc hx; subst hc hx; constructor <;> assumption
  | succ i => simp [MV.cells] at hc
def EnvLe (E E2 : Env) : Prop := (∀ b, E.S b → E2.S b) ∧ (∀ id, E.K id → E2.K id ∧ E2.gn id = E.gn id ∧ E2.ρ id = E.ρ id ∧ E2.bo id = E.bo id ∧ E2.cp id = E.cp id ∧ E2.sz id = E.sz id ∧ E2.ln id = E.ln id ∧ E2.nl id = E.nl id) ∧ E2.yl = E.yl
theorem V.env {E E2 : Env} {w : World} (he : EnvLe E E2) {m : MV} {v : Value} (hv : V E w m v) : V E2 w m v := by
 induction hv with
 | junk v => exact .junk v
 | yld => rw [← he.2.2]; exact .yld
 | emp a => exact .emp a
 | lit v => exact .lit v
 | agg cs vs hl _ ih => exact .agg cs vs hl ih
 | tup cs vs hl _ ih => exact .tup cs vs hl ih
 | fn f k cs vs hl _ ih => exact .fn f k cs vs hl ih
 | sl es vs A cap sz hc hs hl _ hA ih =>
  refine .sl es vs A cap sz hc hs hl ih fun h0 => ?_
  obtain ⟨b, off, e, hb, hcell⟩ := hA h0
  exact ⟨b, off, e, he.1 b hb, hcell⟩
 | rp e off vs b o hl _ hb hcell ih => exact .rp e off vs b o hl ih (he.1 b hb) hcell
 | ptr id i off g b o hk hg hd =>
  obtain ⟨h1, h2, h3, h4, h5, h6, h7, h8⟩ := he.2.1 id hk
  exact .ptr id i off g b o h1 (by rw [h2]; exact hg) fun e => by rw [h3, h4, h6, h7, h8]; exact hd (by rw [← h2]; exact e)
 | mp id g b hk hg hd =>
  obtain ⟨h1, h2, h3, h4, h5, h6, h7, h8⟩ := he.2.1 id hk
  exact .mp id g b h1 (by rw [h2]; exact hg) fun e => by rw [h3, h5, h8]; exact hd (by rw [← h2]; exact e)
 | rm es b ents ck l hl _ hp hs hb hc ih => exact .rm es b ents ck l hl ih hp hs (he.1 b hb) hc
 | itr k v b ents ck since seen en _ _ hs hen hb hc hi ihk ihv =>
  have := V.itr (E := E2) (w := w) k v b ents ck since seen en ihk ihv hs hen (he.1 b hb) hc (by rw [he.2.2]; exact hi)
  rwa [he.2.2] at this
 | arr id i n g A cap hk hg hd =>
  obtain ⟨h1, h2, h3, h4, h5, h6, h7, h8⟩ := he.2.1 id hk
  exact .arr id i n g A cap h1 (by rw [h2]; exact hg) fun e => by rw [h3, h4, h5, h6, h7, h8]; exact hd (by rw [← h2]; exact e)
end Go.Proofs.YtnmgpbihknjdjaaDoor
namespace Go.Proofs.YtnmgpbihknjdjaaDoor
open Go.RowKit
set_option linter.unusedVariables false
inductive MX where
 | s (n : Nat)
 | c (v : MV)
instance : Inhabited MX := ⟨.s 0⟩
def MX.get (s : List MV) : MX → MV
 | .s n => s.getD n (.lit undef)
 | .c v => v
inductive MO where
 | mv (x : MX)
 | nil0 (sz : Nat)
 | nilck (x : MX)
 | pick (c a b : MX)
 | new (z : MV)
 | box (sz : Nat) (x : MX)
 | build (z : List MV) (parts : List (Nat × Nat × MX))
 | bsl (z : MV) (sz : Nat) (len : Nat) (parts : List (Nat × MX))
 | vsl (z : MV) (sz : Nat) (len : Nat) (parts : List (Nat × MX))
 | ld (agg : Option Nat) (x : MX)
 | st (sz : Nat) (a x : MX)
 | bin (op : BinOp) (x y : MX)
 | beq (neg : Bool) (x y : MX)
 | seq (neg : Bool) (x y : MX)
 | eqa (n : Nat) (neg : Bool) (x y : MX)
 | eqn (neg : Bool) (x : MX)
 | sln (x : MX)
 | s2b (x : MX)
 | bad
 | un (op : UnOp) (x : MX)
 | cv (k : IntKind) (x : MX)
 | mf (f k : Nat) (caps : List MX)
 | ix (agg : Option Nat) (sz len : Nat) (x i : MX)
 | mks (z : MV) (n : MX)
 | slc (sz : Nat) (x : MX) (lo hi : Option MX)
 | fa (off : Nat) (x : MX)
 | fd (off : Nat) (agg : Option Nat) (x : MX)
 | ia (sz : Nat) (x i : MX)
 | iaa (sz len : Nat) (x i : MX)
 | ext (x : MX) (i : Nat)
 | call (f : Nat) (args : List MX)
 | callv (x : MX) (args : List MX)
 | len (x : MX)
 | app (sz : Nat) (s x : MX)
 | mx (x y : MX)
 | mn (x y : MX)
 | ne (x y : MX)
 | mkm
 | ent (x : MX)
 | mup (n : Nat) (m k x : MX)
 | shf (op : BinOp) (x y : MX)
 | sx (x i : MX)
 | cat (x y : MX)
 | ssl (x : MX) (lo hi : Option MX)
 | cpy (d x : MX)
 | srt (f cf : Nat) (x : MX)
 | sla (sz n : Nat) (x : MX)
instance : Inhabited MO := ⟨.nil0 0⟩
abbrev Oracle := Nat → List MV → MHeap → Option (MV × MHeap)
def MV.elems (h : MHeap) : MV → Option (List MV)
 | .sl es => some es
 | .emp => some []
 | .lit (.slice none 0 0) => some []
 | .arr id i n g =>
  match h[id]? with
  | some o => if o.g = g ∧ i + n ≤ o.es.length then some ((o.es.drop i).take n) else none
  | none => none
 | _ => none
def MV.slen : MV → Option Nat
 | .sl es => some es.length
 | .emp => some 0
 | .lit (.slice _ n _) => some n
 | .arr _ _ n _ => some n
 | _ => none
def rdCells (cs : List MV) (off : Nat) : Option Nat → Option MV
 | none => cs[off]?
 | some n => if off + n ≤ cs.length then some (.agg ((cs.drop off).take n)) else none
def splice (cs : List MV) (off : Nat) (vs : List MV) : List MV := cs.take off ++ vs ++ cs.drop (off + vs.length)
def wrElem (e : MV) (off : Nat) (v : MV) : Option MV :=
 if off + v.cells.length ≤ e.cells.length then
  match e with
  | .agg cs => some (.agg (splice cs off v.cells))
  | _ => if v.cells.length = 1 then some v else none
 else none
def MV.sOk (sz : Nat) (v : MV) : Bool := v.cells.length == sz && v.cells.all MV.one
def MV.cOk : MV → Bool
 | .junk => false
 | .lit (.agg _) => false
 | .itr _ _ => false
 | _ => true
def intOf? : MV → Option Int
 | .lit (.int _ n) => some n
 | _ => none
def binI (op : BinOp) (k : IntKind) (a b : Int) : Option Value :=
 match op with
 | .add => some (.int k (k.wrap (a + b)))
 | .sub => some (.int k (k.wrap (a - b)))
 | .mul => some (.int k (k.wrap (a * b)))
 | .quo => if b = 0 then none else some (.int k (k.wrap (a.tdiv b)))
 | .rem => if b = 0 then none else some (.int k (a.tmod b))
 | .eql => some (.bool (a == b))
 | .neq => some (.bool (a != b))
 | .lss => some (.bool (a < b))
 | .leq => some (.bool (a ≤ b))
 | .gtr => some (.bool (a > b))
 | .geq => some (.bool (a ≥ b))
 | .and => some (.int k (k.wrap (BitVec.ofInt k.bits a &&& BitVec.ofInt k.bits b).toNat))
 | .or => some (.int k (k.wrap (BitVec.ofInt k.bits a ||| BitVec.ofInt k.bits b).toNat))
 | .xor => some (.int k (k.wrap (BitVec.ofInt k.bits a ^^^ BitVec.ofInt k.bits b).toNat))
 | .andNot => some (.int k (k.wrap (BitVec.ofInt k.bits a &&& ~~~BitVec.ofInt k.bits b).toNat))
 | _ => none
def shfI (op : BinOp) (k : IntKind) (a b : Int) : Option Value :=
 if b < 0 then none else match op with
 | .shl => some (.int k (k.wrap (a * 2 ^ min b.toNat k.bits)))
 | .shr => some (.int k (a.fdiv (2 ^ min b.toNat k.bits)))
 | _ => none
def sortHints : List (Nat × Nat × Nat) := []
def sortKind (f cf : Nat) : Option Nat := (sortHints.find? fun p => p.1 == f && p.2.1 == cf).map (·.2.2)
def sortLt : Nat → List Int → List Int → Bool
 | 0, a :: _, b :: _ => decide (a < b)
 | 1, [a, b], [c, d] => decide (a * d < c * b)
 | _, _, _ => false
def insS (k : Nat) (x : List Int) : List (List Int) → List (List Int)
 | [] => [x]
 | y :: ys => if sortLt k x y then x :: y :: ys else y :: insS k x ys
def sortS (k : Nat) : List (List Int) → List (List Int)
 | [] => []
 | x :: xs => insS k x (sortS k xs)
def ordS (k : Nat) : List (List Int) → Bool
 | [] => true
 | x :: xs => xs.all (fun y => sortLt k x y || (decide (x = y) && !sortLt k x y)) && ordS k xs
def i64s : List MV → Option (List Int)
 | [] => some []
 | .lit (.int .i64 n) :: ms => (i64s ms).map (n :: ·)
 | _ :: _ => none
def rowOf : MV → Option (List Int)
 | .agg ms => i64s ms
 | _ => none
def rowsOf : List MV → Option (List (List Int))
 | [] => some []
 | m :: ms => match rowOf m, rowsOf ms with
  | some x, some xs => some (x :: xs)
  | _, _ => none
def okRow (k : Nat) (x : List Int) : Bool := x.length == 2 && x.all (fun z => decide (-1000000000 < z) && decide (z < 1000000000)) && (k == 0 || decide (0 < x.getD 1 0))
def pairM (x : List Int) : MV := .agg (x.map fun z => .lit (.int .i64 z))
def srtM (k : Nat) (es : List MV) : Option (List MV) :=
 match rowsOf es with
 | some xs => if xs.all (okRow k) && ordS k (sortS k xs) then some ((sortS k xs).map pairM) else none
 | none => none
def fillM (cells : List MV) : List (Nat × List MV) → Option (List MV)
 | [] => some cells
 | (off, v) :: rest => if off + v.length ≤ cells.length then fillM (splice cells off v) rest else none
def setAtM (es : List MV) (sz : Nat) : List (Nat × MV) → Option (List MV)
 | [] => some es
 | (i, v) :: rest => if i < es.length ∧ v.cells.length = sz ∧ v.cOk then setAtM (es.set i v) sz rest else none
def litEq : List MV → List MV → Option Bool
 | [], [] => some true
 | .lit (.int k a) :: ps, .lit (.int k' b) :: qs => if k = k' then (litEq ps qs).map fun r => a == b && r else none
 | _, _ => none
def litEqK : List Nat → List MV → List MV → Option Bool
 | [], [], [] => some true
 | 0 :: ks, .lit (.int k a) :: ps, .lit (.int k' b) :: qs => if k = k' then (litEqK ks ps qs).map fun r => a == b && r else none
 | 1 :: ks, .lit (.string a) :: ps, .lit (.string b) :: qs => (litEqK ks ps qs).map fun r => a == b && r
 | 2 :: ks, .lit (.bool a) :: ps, .lit (.bool b) :: qs => (litEqK ks ps qs).map fun r => a == b && r
 | _, _, _ => none
def decKd : Nat → Nat → List Nat
 | 0, _ => []
 | f + 1, c => if c ≤ 1 then [] else (c % 4) :: decKd f (c / 4)
def encKd : List Nat → Nat
 | [] => 1
 | k :: ks => encKd ks * 4 + k
def kindsOf (n : Nat) : List Nat := if n < 1000 then List.replicate n 0 else decKd 64 (n - 1000)
def codeK (ks : List Nat) : Nat := if ks.all (· == 0) then ks.length else 1000 + encKd ks
def negIf (neg b : Bool) : Bool := if neg then !b else b
def MV.ents (h : MHeap) : MV → Option (List MV)
 | .rm es => some es
 | .mp id g =>
  match h[id]? with
  | some o => if o.g = g ∧ o.nl = true then (match o.es with
    | [.tup es] => some es
    | _ => none) else none
  | none => none
 | _ => none
def mfind (ps : List MV) : List MV → Nat → Option (Option (Nat × MV))
 | [], _ => some none
 | .tup [.agg qs, v] :: es, i =>
  match litEq ps qs with
  | some true => some (some (i, v))
  | some false => mfind ps es (i + 1)
  | none => none
 | _ :: _, _ => none
def keysOk (ps : List MV) (es : List MV) : Bool := es.all fun
 | .tup [.agg qs, _] => (litEq ps qs).isSome
 | _ => false
def ltKs : List MV → List MV → Bool
 | .lit (.int _ a) :: ps, .lit (.int _ b) :: qs => decide (a < b) || (decide (a = b) && ltKs ps qs)
 | [], _ :: _ => true
 | _, _ => false
def ltE : MV → MV → Bool
 | .tup [.agg ps, _], .tup [.agg qs, _] => ltKs ps qs
 | _, _ => false
def insE (e : MV) : List MV → List MV
 | [] => [e]
 | f :: es => if ltE e f then e :: f :: es else f :: insE e es
def mset (es : List MV) (e : MV) : Option (Nat × MV) → List MV
 | some (i, _) => es.set i e
 | none => insE e es
def MHeap.ok (h : MHeap) (id g sz : Nat) : Bool :=
 match h[id]? with
 | some o => o.g == g && o.sz == sz
 | none => false
def MV.plain : MV → Bool
 | .lit _ => true
 | .agg cs => cs.all fun | .lit _ => true | _ => false
 | _ => false
def MV.id? : MV → Option Nat
 | .ptr id _ _ _ => some id
 | .arr id _ _ _ => some id
 | .mp id _ => some id
 | _ => none
def neB (u v : MV) : Bool :=
 match u.id?, v.id? with
 | some a, some b => !decide (a = b)
 | _, _ => true
def chunkM (sz : Nat) : Nat → List MV → List MV
 | 0, _ => []
 | n + 1, cs => .agg (cs.take sz) :: chunkM sz n (cs.drop sz)
def evO : (Nat → Bool) → Oracle → List MV → MHeap → MO → Option (MV × MHeap)
 | lk, O, s, h, .mv x => some (x.get s, h)
 | lk, O, s, h, .nil0 sz => some (.arr h.length 0 0 0, h ++ [⟨0, true, sz, []⟩])
 | lk, O, s, h, .nilck x => match x.get s with
  | .ptr id i off g => some (.ptr id i off g, h)
  | .rp e off => some (.rp e off, h)
  | .fn f k cs => some (.fn f k cs, h)
  | _ => none
 | lk, O, s, h, .pick c a b => match c.get s with
  | .lit (.bool t) => some (if t then a.get s else b.get s, h)
  | _ => none
 | lk, O, s, h, .new z => some (.ptr h.length 0 0 0, h ++ [⟨0, false, z.cells.length, [z]⟩])
 | lk, O, s, h, .box sz x => if (x.get s).cells.length = sz ∧ (x.get s).cOk then some (.ptr h.length 0 0 0, h ++ [⟨0, false, sz, [x.get s]⟩]) else none
 | lk, O, s, h, .build z parts => match fillM z (parts.map fun p => (p.1, (p.2.2.get s).cells)) with
  | some cs => if parts.all (fun p => (p.2.2.get s).cells.length == p.2.1 && (p.2.2.get s).cOk) then some (.agg cs, h) else none
  | none => none
 | lk, O, s, h, .bsl z sz len parts => match setAtM (List.replicate len z) sz (parts.map fun p => (p.1, p.2.get s)) with
  | some es => some (.arr h.length 0 len 0, h ++ [⟨0, false, sz, es⟩])
  | none => none
 | lk, O, s, h, .vsl z sz len parts => match setAtM (List.replicate len z) sz (parts.map fun p => (p.1, p.2.get s)) with
  | some es => some (if es.isEmpty then .emp else .sl es, h)
  | none => none
 | lk, O, s, h, .ld agg x => match x.get s with
  | .rp e off => (rdCells e.cells off agg).map fun v => (v, h)
  | .ptr id i off g => match h[id]? with
   | some o => if o.g = g then match o.es[i]? with
     | some e => (rdCells e.cells off agg).map fun v => (v, h)
     | none => none
    else none
   | none => none
  | _ => none
 | lk, O, s, h, .st sz a x => if (x.get s).sOk sz then match a.get s with
  | .ptr id i off g => match h[id]? with
   | some o => if o.g = g ∧ lk id = false then match o.es[i]? with
     | some e => match wrElem e off (x.get s) with
      | some e' => some (.lit undef, h.set id { o with es := o.es.set i e' })
      | none => none
     | none => none
    else none
   | none => none
  | _ => none else none
 | lk, O, s, h, .bin op x y => match x.get s, y.get s with
  | .lit (.int k a), .lit (.int k' b) => if k = k' then (binI op k a b).map fun v => (.lit v, h) else none
  | _, _ => none
 | lk, O, s, h, .beq neg x y => match x.get s, y.get s with
  | .lit (.bool a), .lit (.bool b) => some (.lit (.bool (negIf neg (a == b))), h)
  | _, _ => none
 | lk, O, s, h, .seq neg x y => match x.get s, y.get s with
  | .lit (.string a), .lit (.string b) => some (.lit (.bool (negIf neg (a == b))), h)
  | _, _ => none
 | lk, O, s, h, .eqa n neg x y => match x.get s, y.get s with
  | .agg ps, .agg qs => (litEqK (kindsOf n) ps qs).map fun b => (.lit (.bool (negIf neg b)), h)
  | _, _ => none
 | lk, O, s, h, .eqn neg x => match x.get s with
  | .arr id i n g => match h[id]? with
   | some o => if o.g = g ∧ i + n ≤ o.es.length then some (.lit (.bool (negIf neg o.nl)), h) else none
   | none => none
  | .lit (.slice A _ _) => some (.lit (.bool (negIf neg A.isNone)), h)
  | .sl (_ :: _) => some (.lit (.bool neg), h)
  | .emp => some (.lit (.bool neg), h)
  | _ => none
 | lk, O, s, h, .bad => none
 | lk, O, s, h, .un op x => match op, x.get s with
  | .not, .lit (.bool b) => some (.lit (.bool !b), h)
  | .neg, .lit (.int k n) => some (.lit (.int k (k.wrap (0 - n))), h)
  | _, _ => none
 | lk, O, s, h, .cv k x => match x.get s with
  | .lit (.int _ n) => some (.lit (.int k (k.wrap n)), h)
  | _ => none
 | lk, O, s, h, .mf f k caps => some (.fn f k (caps.map (MX.get s)), h)
 | lk, O, s, h, .mks z n => match n.get s with
  | .lit (.int .i64 n) => if 0 ≤ n ∧ n ≤ 1000000 then some (.arr h.length 0 n.toNat 0, h ++ [⟨0, false, z.cells.length, List.replicate n.toNat z⟩]) else none
  | _ => none
 | lk, O, s, h, .slc sz x lo hi => match (x.get s), ((lo.map (MX.get s)).map intOf?).getD (some 0), (hi.map (MX.get s)).map intOf? with
  | .sl es, some l, some (some u) => if 0 ≤ l ∧ l ≤ u ∧ u ≤ es.length ∧ es.all (fun e => e.cells.length == sz) then some (.sl ((es.drop l.toNat).take (u - l).toNat), h) else none
  | .sl es, some l, none => if 0 ≤ l ∧ l ≤ es.length ∧ es.all (fun e => e.cells.length == sz) then some (.sl (es.drop l.toNat), h) else none
  | .arr id i n g, some l, some (some u) => if 0 ≤ l ∧ l ≤ u ∧ u ≤ n ∧ MHeap.ok h id g sz then some (.arr id (i + l.toNat) (u - l).toNat g, h) else none
  | .arr id i n g, some l, none => if 0 ≤ l ∧ l ≤ n ∧ MHeap.ok h id g sz then some (.arr id (i + l.toNat) (n - l.toNat) g, h) else none
  | _, _, _ => none
 | lk, O, s, h, .fa off x => match x.get s with
  | .ptr id i o g => some (.ptr id i (o + off) g, h)
  | .rp e o => some (.rp e (o + off), h)
  | _ => none
 | lk, O, s, h, .fd off agg x => match x.get s with
  | .agg cs => (rdCells cs off agg).map fun v => (v, h)
  | _ => none
 | lk, O, s, h, .ix agg sz len x i => match x.get s, intOf? (i.get s) with
  | .agg cs, some k => if 0 ≤ k ∧ k < len then (rdCells cs (k.toNat * sz) agg).map fun v => (v, h) else none
  | _, _ => none
 | lk, O, s, h, .ia sz x i => match x.get s, intOf? (i.get s) with
  | .sl es, some k => if 0 ≤ k then (es[k.toNat]?).bind fun e => if e.cells.length = sz then some (.rp e 0, h) else none else none
  | .arr id j n g, some k => if 0 ≤ k ∧ k < n ∧ MHeap.ok h id g sz then some (.ptr id (j + k.toNat) 0 g, h) else none
  | _, _ => none
 | lk, O, s, h, .iaa sz len x i => match x.get s, intOf? (i.get s) with
  | .ptr id j o g, some k => if 0 ≤ k ∧ k < len then some (.ptr id j (o + k.toNat * sz) g, h) else none
  | .rp e o, some k => if 0 ≤ k ∧ k < len then some (.rp e (o + k.toNat * sz), h) else none
  | _, _ => none
 | lk, O, s, h, .ext x i => match x.get s with
  | .tup vs => (vs[i]?).map fun v => (v, h)
  | _ => none
 | lk, O, s, h, .call f args => O f (args.map (MX.get s)) h
 | lk, O, s, h, .callv x args => match x.get s with
  | .fn f k caps => O f (caps.take k ++ args.map (MX.get s) ++ caps.drop k) h
  | _ => none
 | lk, O, s, h, .s2b x => match x.get s with
  | .lit (.string b) => some (.sl (b.data.toList.map fun c => .lit (.int .u8 c.toNat)), h)
  | _ => none
 | lk, O, s, h, .sln x => match x.get s with
  | .lit (.string b) => some (.lit (.int .i64 b.size), h)
  | _ => none
 | lk, O, s, h, .len x => match (x.get s).slen with
  | some n => some (.lit (.int .i64 n), h)
  | none => none
 | lk, O, s, h, .app sz d x => match d.get s, (x.get s).elems h with
  | .arr id i n g, some xs => match h[id]? with
   | some o => if o.g = g ∧ i + n = o.es.length ∧ o.sz = sz then
     if xs = [] then some (.arr id i n g, h)
     else if o.es.length + xs.length ≤ 4000000 ∧ xs.all (MV.sOk sz) ∧ lk id = false then some (.arr id 0 (n + xs.length) (g + 1), h.set id ⟨g + 1, false, sz, o.es.drop i ++ xs⟩) else none
    else none
   | none => none
  | .lit (.slice none 0 0), some xs =>
   if xs = [] then some (.lit (.slice none 0 0), h)
   else if xs.length ≤ 4000000 ∧ xs.all (MV.sOk sz) then some (.arr h.length 0 xs.length 0, h ++ [⟨0, false, sz, xs⟩]) else none
  | .emp, some xs =>
   if xs = [] then some (.emp, h)
   else if xs.length ≤ 4000000 ∧ xs.all (MV.sOk sz) then some (.arr h.length 0 xs.length 0, h ++ [⟨0, false, sz, xs⟩]) else none
  | _, _ => none
 | lk, O, s, h, .mx x y => match x.get s, y.get s with
  | .lit (.int k a), .lit (.int _ b) => some (.lit (.int k (if b > a then b else a)), h)
  | _, _ => none
 | lk, O, s, h, .mn x y => match x.get s, y.get s with
  | .lit (.int k a), .lit (.int _ b) => some (.lit (.int k (if b < a then b else a)), h)
  | _, _ => none
 | lk, O, s, h, .ne x y => if neB (x.get s) (y.get s) then some (.lit undef, h) else none
 | lk, O, s, h, .mkm => some (.mp h.length 0, h ++ [⟨0, true, 1, [.tup []]⟩])
 | lk, O, s, h, .ent x => match x.get s with
  | .itr k v => some (.tup [k, v], h)
  | _ => none
 | lk, O, s, h, .mup n m k x => match m.get s, k.get s, (m.get s).ents h with
  | .mp id g, .agg ps, some es => if ps.length = n ∧ lk id = false ∧ keysOk ps es = true ∧ (x.get s).plain = true then match mfind ps es 0 with
    | some r => some (.lit undef, h.set id ⟨g, true, 1, [.tup (mset es (.tup [.agg ps, x.get s]) r)]⟩)
    | none => none
   else none
  | _, _, _ => none
 | lk, O, s, h, .shf op x y => match x.get s, y.get s with
  | .lit (.int k a), .lit (.int _ b) => (shfI op k a b).map fun v => (.lit v, h)
  | _, _ => none
 | lk, O, s, h, .sx x i => match x.get s, intOf? (i.get s) with
  | .lit (.string b), some k => if 0 ≤ k then (b.data.toList[k.toNat]?).map fun c => (.lit (.int .u8 c.toNat), h) else none
  | _, _ => none
 | lk, O, s, h, .cat x y => match x.get s, y.get s with
  | .lit (.string a), .lit (.string b) => if a.size + b.size ≤ 1000000000 then some (.lit (.string (a ++ b)), h) else none
  | _, _ => none
 | lk, O, s, h, .ssl x lo hi => match x.get s, ((lo.map (MX.get s)).map intOf?).getD (some 0), (hi.map (MX.get s)).map intOf? with
  | .lit (.string b), some l, some (some u) => if 0 ≤ l ∧ l ≤ u ∧ u ≤ b.size then some (.lit (.string (b.extract l.toNat u.toNat)), h) else none
  | .lit (.string b), some l, none => if 0 ≤ l ∧ l ≤ b.size then some (.lit (.string (b.extract l.toNat b.size)), h) else none
  | _, _, _ => none
 | lk, O, s, h, .cpy d x => match d.get s, (x.get s).elems h with
  | .arr id i n g, some xs => match h[id]? with
   | some o => if o.g = g ∧ 0 < n ∧ i + n ≤ o.es.length ∧ o.sz = 1 ∧ xs ≠ [] ∧ xs.all (MV.sOk 1) = true ∧ lk id = false then
     some (.lit (.int .i64 (xs.take n).length), h.set id { o with es := o.es.take i ++ xs.take n ++ o.es.drop (i + (xs.take n).length) }) else none
   | none => none
  | _, _ => none
 | lk, O, s, h, .srt f cf x => match x.get s with
  | .arr id i n g => match h[id]? with
   | some o => if o.g = g ∧ i + n ≤ o.es.length ∧ n ≤ 4000000 ∧ lk id = false then match sortKind f cf with
     | some k => match srtM k ((o.es.drop i).take n) with
      | some es => some (.lit (.tuple #[]), h.set id { o with es := o.es.take i ++ es ++ o.es.drop (i + n) })
      | none => none
     | none => none
    else none
   | none => none
  | _ => none
 | lk, O, s, h, .sla sz n x => match x.get s with
  | .ptr id 0 0 g => match h[id]? with
   | some o => match o.es with
    | [e] => if o.g = g ∧ lk id = false ∧ 0 < n ∧ 1 < sz ∧ e.cells.length = n * sz then some (.arr id 0 n (g + 1), h.set id ⟨g + 1, false, sz, chunkM sz n e.cells⟩) else none
    | _ => none
   | none => none
  | _ => none
end Go.Proofs.YtnmgpbihknjdjaaDoor
namespace Go.Proofs.YtnmgpbihknjdjaaDoor
open Go.RowKit
set_option linter.unusedVariables false
def ofV : Value → MV
 | .agg vs => .agg (vs.toList.map .lit)
 | v => .lit v
def cX : Operand → Option MX
 | .tmp t => some (.s t)
 | .const v => some (.c (ofV v))
 | .func f => some (.c (.fn f 0 []))
 | .global _ => none
def oX : Option Operand → Option (Option MX)
 | none => some none
 | some x => (cX x).map some
def cXs (l : List Operand) : Option (List MX) := l.mapM cX
def tsz (P : Program) (t : TypeId) : Option Nat := (P.info? t).map (·.size)
def tzero (P : Program) (t : TypeId) : Option MV := ((P.info? t).bind (·.zero)).map ofV
def tagg (P : Program) (t : TypeId) : Option (Option Nat) :=
 match P.underlying t with
 | some (.struct _) | some (.array _ _) => (tsz P t).map some
 | some _ => some none
 | none => none
def telem (P : Program) (t : TypeId) : Option TypeId :=
 match P.underlying t with
 | some (.slice e) => some e
 | _ => none
def placesOf (P : Program) (t : TypeId) : Option (Nat → Option (Nat × Nat)) :=
 match P.underlying t with
 | some (.struct fs) => (fs.toList.mapM (fun f => (P.info? f.type).map fun i => (f.offset, i.size))).map fun places i => places.toArray[i]?
 | some (.array _ e) => (P.info? e).map fun ie i => some (i * ie.size, ie.size)
 | _ => none
def sameX : Operand → Operand → Bool
 | .tmp a, .tmp b => a == b
 | .const (.int .i64 a), .const (.int .i64 b) => a == b
 | _, _ => false
def isNilSlice : Operand → Bool
 | .const (.slice none 0 0) => true
 | _ => false
def hasBody (P : Program) (f : Nat) : Bool :=
 match P.funcs[f]? with
 | some fn => fn.body.isSome && fn.name != "runtime.NumGoroutine"
 | none => false
def intFields (P : Program) : Nat → List Field → Bool
 | _, [] => true
 | i, f :: fs => f.offset == i && f.name != "_" && (match P.underlying f.type with | some (.int _) => true | _ => false) && intFields P (i + 1) fs
def keyN (P : Program) (kt : TypeId) : Option Nat :=
 match P.underlying kt with
 | some (.struct fs) => if intFields P 0 fs.toList ∧ P.stoodInHeld kt = false then some fs.size else none
 | some (.array n e) => match P.underlying e with
  | some (.int _) => if tsz P e = some 1 then some n else none
  | _ => none
 | _ => none
def szOk (P : Program) (t : TypeId) (n : Nat) : Bool :=
 n != 0 && match P.underlying t with
 | some (.struct _) => (match P.info? t with | some i => i.size == n | none => false)
 | _ => n == 1
def kindsF (P : Program) (kt : TypeId → Option (List Nat)) : Nat → List Field → Option (List Nat)
 | _, [] => some []
 | i, f :: fs => if f.offset = i ∧ f.name ≠ "_" then match kt f.type with
   | some a => if szOk P f.type a.length then (kindsF P kt (i + a.length) fs).map fun b => a ++ b else none
   | none => none
  else none
def kindsT (P : Program) : Nat → TypeId → Option (List Nat)
 | 0, _ => none
 | m + 1, t => match P.underlying t with
  | some (.int _) => some [0]
  | some .string => some [1]
  | some .bool => some [2]
  | some (.struct fs) => if P.stoodInHeld t = false then kindsF P (kindsT P m) 0 fs.toList else none
  | _ => none
def eqaO (P : Program) (t : TypeId) : Option Nat :=
 match kindsT P 4 t with
 | some ks => if kindsOf (codeK ks) = ks ∧ P.eqGuardType P.depth t = false then some (codeK ks) else none
 | none => none
def srtCall (f : Nat) : List Operand → Option (Nat × Operand)
 | [x, .func cf] => match sortKind f cf with
  | some _ => some (cf, x)
  | none => none
 | _ => none
def compO (P : Program) (o : Oper) : Option MO :=
 match o.op with
 | .move x => (cX x).map .mv
 | .assign x => if isNilSlice x then (telem P o.type).bind fun e => (tsz P e).map .nil0 else (cX x).map .mv
 | .pick c a b => do some (.pick (← cX c) (← cX a) (← cX b))
 | .alloc t => do
  let z ← tzero P t
  if z.cOk then some (.new z) else none
 | .box t x => do some (.box (← tsz P t) (← cX x))
 | .build t parts => do
  let pl ← placesOf P t
  match ← tzero P t with
  | .agg z => some (.build z (← parts.toList.mapM fun p => do let (off, n) ← pl p.1; some (off, n, ← cX p.2)))
  | _ => none
 | .buildSlice t len parts => do
  let e ← telem P t
  let n ← tsz P e
  let z ← tzero P e
  if len * n ≤ 1000000 ∧ 0 < n ∧ z.cells.length = n ∧ z.cOk then some (.bsl z n len (← parts.toList.mapM fun p => do some (p.1, ← cX p.2))) else none
 | .load t x => do some (.ld (← tagg P t) (← cX x))
 | .store t a x => do some (.st (← tsz P t) (← cX a) (← cX x))
 | .nilCheck x => (cX x).map .nilck
 | .binOp op t x y _ => match op, P.underlying t with
  | .eql, some (.int _) | .neq, some (.int _) | .add, some (.int _) | .sub, some (.int _) | .mul, some (.int _) | .quo, some (.int _) | .rem, some (.int _) | .lss, some (.int _) | .leq, some (.int _) | .gtr, some (.int _) | .geq, some (.int _) | .and, some (.int _) | .or, some (.int _) | .xor, some (.int _) | .andNot, some (.int _) => do some (.bin op (← cX x) (← cX y))
  | .shl, some (.int _) | .shr, some (.int _) => do some (.shf op (← cX x) (← cX y))
  | .add, some .string => do some (.cat (← cX x) (← cX y))
  | .eql, some .bool => do some (.beq false (← cX x) (← cX y))
  | .neq, some .bool => do some (.beq true (← cX x) (← cX y))
  | .eql, some .string => do some (.seq false (← cX x) (← cX y))
  | .neq, some .string => do some (.seq true (← cX x) (← cX y))
  | .eql, some (.struct fs) => do some (.eqa (← eqaO P t) false (← cX x) (← cX y))
  | .neq, some (.struct fs) => do some (.eqa (← eqaO P t) true (← cX x) (← cX y))
  | .eql, some (.slice _) => if isNilSlice y then (cX x).map (.eqn false) else none
  | .neq, some (.slice _) => if isNilSlice y then (cX x).map (.eqn true) else none
  | _, _ => none
 | .unOp op _ x => do some (.un op (← cX x))
 | .convert src t x => match P.underlying src, P.underlying t with
  | some _, some (.int k) => (cX x).map (.cv k)
  | some .string, some (.slice e) => match P.underlying e with
   | some (.int .u8) => (cX x).map .s2b
   | _ => none
  | _, _ => none
 | .makeFunc (.func f) first caps => do some (.mf f first.size (← cXs (first.toList ++ caps.toList)))
 | .makeSlice t l c => do
  let e ← telem P t
  let i ← P.info? e
  let z ← tzero P e
  if sameX l c ∧ i.bytes ≤ 100000 ∧ 0 < i.size ∧ z.cells.length = i.size ∧ z.cOk then some (.mks z (← cX l)) else none
 | .slice t x lo hi none => match P.underlying t with
  | some .string => do some (.ssl (← cX x) (← oX lo) (← oX hi))
  | some (.array n e) => match lo, hi with
   | none, none => do some (.sla (← tsz P e) n (← cX x))
   | _, _ => none
  | _ => do
   let e ← telem P t
   some (.slc (← tsz P e) (← cX x) (← oX lo) (← oX hi))
 | .fieldAddr t x f => match P.underlying t with
  | some (.struct fs) => do
   let fd ← fs[f]?
   let n ← tsz P fd.type
   if 0 < n then some (.fa fd.offset (← cX x)) else none
  | _ => none
 | .field t x f => match P.underlying t with
  | some (.struct fs) => do
   let fd ← fs[f]?
   some (.fd fd.offset (← tagg P fd.type) (← cX x))
  | _ => none
 | .index t x i => match P.underlying t with
  | some (.array n e) => do some (.ix (← tagg P e) (← tsz P e) n (← cX x) (← cX i))
  | some .string => do some (.sx (← cX x) (← cX i))
  | _ => none
 | .makeMap t none => match P.underlying t with
  | some (.map _ _) => some .mkm
  | _ => none
 | .entry x => (cX x).map .ent
 | .mapUpdate t m k x | .insert t m k x => match P.underlying t with
  | some (.map kt _) => match keyN P kt with
   | some n => do some (.mup n (← cX m) (← cX k) (← cX x))
   | none => none
  | _ => none
 | .indexAddr t x i => match P.underlying t with
  | some (.slice e) => do some (.ia (← tsz P e) (← cX x) (← cX i))
  | some (.array n e) => do some (.iaa (← tsz P e) n (← cX x) (← cX i))
  | _ => none
 | .extract x i => (cX x).map (.ext · i)
 | .call c => match c.callee with
  | .value (.func f) => match srtCall f c.args.toList with
   | some (cf, x) => if hasBody P f then (cX x).map (.srt f cf) else none
   | none => if hasBody P f then do some (.call f (← cXs c.args.toList)) else none
  | .value x => do some (.callv (← cX x) (← cXs c.args.toList))
  | .builtin b => match b, c.args.toList, c.argTypes.toList with
   | .len, [x], [t] => match P.underlying t with
    | some (.slice _) => (cX x).map .len
    | some .string => (cX x).map .sln
    | _ => none
   | .append, [a, x], [t, u] => match P.underlying t, P.underlying u with
    | some (.slice e), some (.slice _) => do
     let i ← P.info? e
     let z ← tzero P e
     if i.bytes ≤ 100000 ∧ 0 < i.size ∧ z.cells.length = i.size ∧ z.cOk then some (.app i.size (← cX a) (← cX x)) else none
    | _, _ => none
   | .copy, [d, x], [t, _] => match P.underlying t with
    | some (.slice e) => if tsz P e = some 1 then do some (.cpy (← cX d) (← cX x)) else none
    | _ => none
   | .max, [x, y], _ => do some (.mx (← cX x) (← cX y))
   | .min, [x, y], _ => do some (.mn (← cX x) (← cX y))
   | _, _, _ => none
  | _ => none
 | _ => none
structure GO where
 guard : Option (Nat × Bool)
 dst : Option Nat
 op : MO
def gM (ops : Array Oper) (o : Oper) : Option (Option (Nat × Bool)) :=
 match o.guard with
 | none => some none
 | some (j, b) => (ops[j]?).bind fun oj => oj.dst.map fun d => some (d, b)
def compG (P : Program) (ops : Array Oper) (o : Oper) : Option GO := (gM ops o).map fun g => ⟨g, o.dst, (compO P o).getD .bad⟩
structure MSt where
 s : List MV
 h : MHeap
inductive MX2 where
 | normal
 | exit (id : Nat)
 | ret
 deriving DecidableEq
def putM (s : List MV) (d : Option Nat) (v : MV) : List MV :=
 match d with
 | some d => s.set d v
 | none => s
def wantM (s : List MV) : Option (Nat × Bool) → Option Bool
 | none => some true
 | some (t, b) => match s.getD t (.lit undef) with
  | .lit (.bool x) => some (x == b)
  | .lit (.tuple _) => some false
  | _ => none
def evG (lk : Nat → Bool) (O : Oracle) (o : GO) (st : MSt) : Option MSt :=
 match wantM st.s o.guard with
 | none => none
 | some t => if t then
   match evO lk O st.s st.h o.op with
   | some (v, h) => some ⟨putM st.s o.dst v, h⟩
   | none => none
  else some ⟨putM st.s o.dst (.lit undef), st.h⟩
def evR (lk : Nat → Bool) (O : Oracle) : List GO → MSt → Option MSt
 | [], st => some st
 | o :: os, st => (evG lk O o st).bind (evR lk O os)
def rounds (f : MSt → Option (MX2 × MSt)) : Nat → MSt → Option (MX2 × MSt)
 | 0, _ => none
 | n + 1, st => match f st with
  | some (.normal, st') => rounds f n st'
  | r => r
def overH (f : List MV → MHeap → Option (MX2 × MHeap)) : List (List MV) → MHeap → Option (MX2 × MHeap)
 | [], h => some (.normal, h)
 | x :: xs, h => match f x h with
  | some (.normal, h') => overH f xs h'
  | r => r
def putAll (s : List MV) : List Nat → List MV → List MV
 | p :: ps, v :: vs => putAll (s.set p v) ps vs
 | _, _ => s
abbrev Iter := Nat → Nat → List MV → MHeap → Option (List (List MV))
mutual
def MV.lt (n : Nat) : MV → Bool
 | .lit _ | .junk => true
 | .yld | .emp | .itr _ _ => false
 | .agg cs => ltL n cs
 | .tup vs => ltL n vs
 | .sl es => ltL n es
 | .rp e _ => e.lt n
 | .rm es => ltL n es
 | .mp id _ => decide (id < n)
 | .ptr id _ _ _ => decide (id < n)
 | .arr id _ _ _ => decide (id < n)
 | .fn _ _ cs => ltL n cs
def ltL (n : Nat) : List MV → Bool
 | [] => true
 | v :: vs => v.lt n && ltL n vs
end
def keepS (keep : List Nat) : Nat → List MV → List MV
 | _, [] => []
 | i, v :: vs => (if keep.contains i then v else .junk) :: keepS keep (i + 1) vs
def hltL (n : Nat) (h : MHeap) : Bool := h.all fun o => ltL n o.es
def headM (keep : List Nat) (n : Nat) (st : MSt) : MSt :=
 let s := keepS keep 0 st.s
 if st.h.length ≤ n then ⟨s, st.h⟩ else if ltL n s && hltL n (st.h.take n) then ⟨s, st.h.take n⟩ else ⟨s, st.h⟩
def MV.ids (h : MHeap) : Nat → MV → List Nat
 | 0, _ => []
 | f + 1, v => match v with
  | .lit _ | .junk | .yld | .emp | .itr _ _ => []
  | .agg cs => cs.flatMap (MV.ids h f)
  | .tup cs => cs.flatMap (MV.ids h f)
  | .sl cs => cs.flatMap (MV.ids h f)
  | .rm cs => cs.flatMap (MV.ids h f)
  | .mp id _ => id :: (match h[id]? with | some o => o.es.flatMap (MV.ids h f) | none => [])
  | .fn _ _ cs => cs.flatMap (MV.ids h f)
  | .rp e _ => MV.ids h f e
  | .ptr id _ _ _ => id :: (match h[id]? with | some o => o.es.flatMap (MV.ids h f) | none => [])
  | .arr id _ _ _ => id :: (match h[id]? with | some o => o.es.flatMap (MV.ids h f) | none => [])
def frz (n : Nat) (imp : List Nat) (h : MHeap) : Nat → MV → Option MV
 | 0, _ => none
 | f + 1, m => if m.lt n then some m else match m with
  | .agg cs => (cs.mapM (frz n imp h f)).map .agg
  | .tup cs => (cs.mapM (frz n imp h f)).map .tup
  | .fn g k cs => (cs.mapM (frz n imp h f)).map (.fn g k)
  | .rp e off => (frz n imp h f e).map fun e' => .rp e' off
  | .sl es => (es.mapM (frz n imp h f)).map .sl
  | .mp id g => if imp.contains id then none else match h[id]? with
   | some o => if o.g = g ∧ o.nl = true then match o.es with
     | [.tup es] => if ltL n es then some (.rm es) else none
     | _ => none
    else none
   | none => none
  | .ptr id i off g => if imp.contains id then none else match h[id]? with
   | some o => if o.g = g then match o.es[i]? with
     | some e => if e.lt n then some (.rp e off) else (frz n imp h f e).map fun e' => .rp e' off
     | none => none
    else none
   | none => none
  | .arr id i k g => if imp.contains id then none else match h[id]? with
   | some o => if o.g = g ∧ i + k ≤ o.es.length then if ltL n o.es then some (.sl ((o.es.drop i).take k)) else (((o.es.drop i).take k).mapM (frz n imp h f)).map .sl
    else none
   | none => none
  | .emp => some (.sl [])
  | _ => none
def sealH (lk : Nat → Bool) (h : MHeap) : MV → Option MHeap
 | .ptr id _ _ _ => match h[id]? with
  | some o => match o.es.mapM (frz 0 (id :: (List.range h.length).filter fun i => !(o.es.flatMap (MV.ids h 6)).contains i) h 8) with
   | some es' => if (o.es.flatMap (MV.ids h 6)).all (fun i => !lk i && i != id) && !lk id then
     some ((h.mapIdx fun i p => if (o.es.flatMap (MV.ids h 6)).contains i then ⟨p.g + 1, p.nl, p.sz, []⟩ else p).set id ⟨o.g, o.nl, o.sz, es'⟩) else none
   | none => none
  | none => none
 | _ => none
def giveV (lk : Nat → Bool) (h : MHeap) (v : MV) : Option (MV × MHeap) :=
 match frz 0 ((List.range h.length).filter fun i => !(v.ids h 6).contains i) h 8 v with
 | some v' => if (v.ids h 6).all (fun i => !lk i) then some (v', h.mapIdx fun i p => if (v.ids h 6).contains i then ⟨p.g + 1, p.nl, p.sz, []⟩ else p) else none
 | none => none
inductive MC where
 | skip
 | reg (ops : List GO)
 | seq (a b : MC)
 | cond (c : MX) (a b : MC)
 | block (id : Nat) (b : MC)
 | loop (keep : List Nat) (b : MC)
 | rf (keep : List Nat) (f : MX) (ps : List Nat) (a b : MC)
 | give (t : Nat) (b : MC)
 | mr (keep ke : List Nat) (id : Nat) (m : MX) (r d e : Nat) (b : MC)
 | mrk (gl : List GO) (keep ke : List Nat) (id : Nat) (m : MX) (r d e : Nat) (b : MC) (k2 : List Nat) (c : MC)
 | exit (id : Nat)
 | ret
 | bad
instance : Inhabited MC := ⟨.skip⟩
def overS (f : MV → MSt → Option (MX2 × MSt)) : List MV → MSt → Option (MX2 × MSt)
 | [], st => some (.normal, st)
 | c :: cs, st => match f c st with
  | some (.normal, st') => overS f cs st'
  | r => r
open Classical in
noncomputable def mrP (es : List MV) (F : List MV → Option (MX2 × MSt)) : Option (MX2 × MSt) :=
 if h : ∃ r, ∀ es', es'.Perm es → F es' = some r then some h.choose else none
theorem mrP_some {es : List MV} {F : List MV → Option (MX2 × MSt)} {r : MX2 × MSt} (h : mrP es F = some r) : ∀ es', es'.Perm es → F es' = some r := by
 unfold mrP at h
 split at h
 ·rename_i hx
  cases h
  exact hx.choose_spec
 ·cases h
theorem mrP_of {es : List MV} {F : List MV → Option (MX2 × MSt)} {r : MX2 × MSt} (h : ∀ es', es'.Perm es → F es' = some r) : mrP es F = some r := by
 have hx : ∃ r, ∀ es', es'.Perm es → F es' = some r := ⟨r, h⟩
 unfold mrP
 rw [dif_pos hx, ← hx.choose_spec es (.refl _), h es (.refl _)]
def entP : MV → Bool
 | .tup [k, v] => k.plain && v.plain
 | _ => false
def clean (st : MSt) : Bool := ltL st.h.length st.s && hltL st.h.length st.h
def isItr : MV → Bool
 | .itr _ _ => true
 | _ => false
def okLen (r d e : Nat) (s : List MV) : Bool := decide (r < s.length) && (decide (d < s.length) && decide (e < s.length))
def roundS (f : MSt → Option (MX2 × MSt)) (keep : List Nat) (L r d e : Nat) (c : MV) (st : MSt) : Option (MX2 × MSt) :=
 if clean (headM keep L st) && okLen r d e st.s then match c with
  | .tup [k, v] => match f ⟨(((headM keep L st).s.set r (.itr k v)).set d .junk).set e .junk, (headM keep L st).h⟩ with
   | some (.normal, st') => if isItr (st'.s.getD r (.lit undef)) then some (.normal, st') else none
   | x => x
  | _ => none
 else none
def finS (ke : List Nat) (id L r d e : Nat) (p : MX2 × MSt) : Option (MX2 × MSt) :=
 if clean ⟨(((headM ke L p.2).s.set r .junk).set d .junk).set e .junk, (headM ke L p.2).h⟩ && okLen r d e p.2.s then
  some (if p.1 = .exit id then .normal else p.1, ⟨(((headM ke L p.2).s.set r .junk).set d .junk).set e .junk, (headM ke L p.2).h⟩) else none
noncomputable def evC : Oracle → Iter → Nat → MC → (Nat → Bool) → MSt → Option (MX2 × MSt)
 | O, I, N, .skip, _, st => some (.normal, st)
 | O, I, N, .reg ops, lk, st => (evR lk O ops st).map fun st => (.normal, st)
 | O, I, N, .seq a b, lk, st => match evC O I N a lk st with
  | some (.normal, st') => evC O I N b lk st'
  | r => r
 | O, I, N, .cond c a b, lk, st => match c.get st.s with
  | .lit (.bool t) => if t then evC O I N a lk st else evC O I N b lk st
  | _ => none
 | O, I, N, .block id b, lk, st => match evC O I N b lk st with
  | some (.exit k, st') => if k = id then some (.normal, st') else some (.exit k, st')
  | r => r
 | O, I, N, .loop keep b, lk, st => rounds (fun st' => evC O I N b lk (headM keep st.h.length st')) N st
 | O, I, N, .rf keep f ps a b, lk, st => match f.get st.s with
  | .fn g k caps => match I g k caps st.h with
   | some xs => if xs.all (fun x => x.length == ps.length) then
    let ids := caps.flatMap (MV.ids st.h 6)
    let lk' := fun id => lk id || ids.contains id
    (overH (fun x h => match evC O I N a lk' ⟨putAll (headM keep st.h.length ⟨st.s, h⟩).s ps x, (headM keep st.h.length ⟨st.s, h⟩).h⟩ with
     | some (.normal, st2) => match evC O I N b lk' st2 with
      | some (y, st3) => some (y, st3.h)
      | none => none
     | _ => none) xs st.h).map fun r => (r.1, ⟨st.s, r.2⟩)
    else none
   | none => none
  | _ => none
 | O, I, N, .give t b, lk, st => match st.s.getD t (.lit undef) with
  | .ptr id i o g => match sealH lk st.h (.ptr id i o g) with
   | some h => evC O I N b lk ⟨st.s, h⟩
   | none => none
  | v => match giveV lk st.h v with
   | some r => evC O I N b lk ⟨st.s.set t r.1, r.2⟩
   | none => none
 | O, I, N, .mr keep ke id m r d e b, lk, st => match m.get st.s with
  | .rm es => if r < st.s.length ∧ es.all entP = true then
    mrP es fun es' => (overS (roundS (evC O I N b lk) keep st.h.length r d e) es' ⟨st.s.set r .junk, st.h⟩).bind (finS ke id st.h.length r d e)
   else none
  | _ => none
 | O, I, N, .mrk gl keep ke id m r d e b k2 c, lk, st => match evR lk O gl st with
  | some st => match m.get st.s with
   | .rm es => if r < st.s.length ∧ es.all entP = true then
     mrP es fun es' => (((overS (roundS (evC O I N b lk) keep st.h.length r d e) es' ⟨st.s.set r .junk, st.h⟩).bind (finS ke id st.h.length r d e)).bind fun p => match p with
      | (.normal, st') => evC O I N c lk st'
      | p => some p).map fun p => (p.1, headM k2 st.h.length p.2)
    else none
   | _ => none
  | none => none
 | O, I, N, .exit id, _, st => some (.exit id, st)
 | O, I, N, .ret, _, st => some (.ret, st)
 | O, I, N, .bad, _, _ => none
def MO.xs : MO → List MX
 | .mv x | .nilck x | .box _ x | .ld _ x | .un _ x | .cv _ x | .mks _ x | .fa _ x | .fd _ _ x | .ext x _ | .len x | .eqn _ x | .sln x | .s2b x | .ent x => [x]
 | .nil0 _ | .new _ | .bad | .mkm => []
 | .mup _ m k x => [m, k, x]
 | .pick c a b => [c, a, b]
 | .build _ ps => ps.map (·.2.2)
 | .bsl _ _ _ ps | .vsl _ _ _ ps => ps.map (·.2)
 | .st _ a x | .bin _ a x | .beq _ a x | .seq _ a x | .eqa _ _ a x | .ia _ a x | .iaa _ _ a x | .ix _ _ _ a x | .app _ a x | .mx a x | .mn a x | .ne a x => [a, x]
 | .mf _ _ cs => cs
 | .slc _ x lo hi | .ssl x lo hi => x :: (lo.toList ++ hi.toList)
 | .shf _ a x | .sx a x | .cat a x | .cpy a x => [a, x]
 | .srt _ _ x | .sla _ _ x => [x]
 | .call _ as_ => as_
 | .callv x as_ => x :: as_
def xslots (l : List MX) : List Nat := l.filterMap fun | .s t => some t | .c _ => none
def GO.looks (g : GO) : List Nat := xslots g.op.xs ++ (match g.guard with | some (d, _) => [d] | none => [])
end Go.Proofs.YtnmgpbihknjdjaaDoor
namespace Go.Proofs.YtnmgpbihknjdjaaDoor
open Go.RowKit
def Env.put (E : Env) (id b bo cp sz g ln : Nat) (nl : Bool) : Env where
 S := E.S
 K := fun k => E.K k ∨ k = id
 ρ := fun k => if k = id then b else E.ρ k
 bo := fun k => if k = id then bo else E.bo k
 cp := fun k => if k = id then cp else E.cp k
 sz := fun k => if k = id then sz else E.sz k
 gn := fun k => if k = id then g else E.gn k
 ln := fun k => if k = id then ln else E.ln k
 nl := fun k => if k = id then nl else E.nl k
 top := E.top
 yl := E.yl
structure OnlyObj (lk : Nat → Bool) (E : Env) (w w' : World) (id : Nat) : Prop where
 os : w'.os = w.os
 tape : w'.tape = w.tape
 output : w'.output = w.output
 size : w.heap.size ≤ w'.heap.size
 keep : ∀ k, k < w.heap.size → (E.K id → lk id = false → 0 < E.cp id → E.ρ id ≠ k) → w'.heap[k]? = w.heap[k]?
theorem OnlyObj.of_below {lk : Nat → Bool} {E : Env} {w w' : World} {id : Nat} (h : Below w.heap.size w w') : OnlyObj lk E w w' id := ⟨h.os, h.tape, h.output, h.size, fun k hk _ => h.block k hk⟩
theorem Ext.put {lk : Nat → Bool} {E : Env} {w w' : World} {id b bo cp sz g ln : Nat} {nl : Bool} (ho : OnlyObj lk E w w' id) (hk : E.K id → E.gn id < g ∧ lk id = false)
  (hb : 0 < cp → w.heap.size ≤ b ∨ (E.K id ∧ 0 < E.cp id ∧ b = E.ρ id)) (ht : E.K id ∨ E.top ≤ id) : Ext lk E w (E.put id b bo cp sz g ln nl) w' where
 os := ho.os
 tape := ho.tape
 output := ho.output
 size := ho.size
 keep := fun k hk' hn => ho.keep k hk' (hn id)
 S := fun _ h => h
 K := fun _ h => .inl h
 old := fun j hj => by
  by_cases e : j = id
  ·subst e
   have := (hk hj).1
   have e1 : (E.put j b bo cp sz g ln nl).gn j = g := by simp [Env.put]
   rw [e1]
   exact ⟨by omega, fun e => by omega⟩
  ·simp [Env.put, e]
 lock := fun j hj hl => by
  by_cases e : j = id
  ·subst e
   rw [(hk hj).2] at hl; cases hl
  ·simp [Env.put, e]
 src := fun j hj hc => by
  by_cases e : j = id
  ·subst e
   simp only [Env.put, if_true] at hc ⊢
   rcases hb hc with h | ⟨h1, h2, h3⟩
   ·exact .inr h
   ·exact .inl ⟨h1, h2, h3⟩
  ·simp only [Env.put, e, or_false, if_false] at hj hc ⊢
   exact .inl ⟨hj, hc, trivial⟩
 top := rfl
 srcK := fun j hj => by
  rcases hj with hj | rfl
  ·exact .inl hj
  ·exact ht
 yl := rfl
 srcS := fun b hb => .inl hb
theorem HRel.lt {E : Env} {h : MHeap} {w : World} (hr : HRel E h w) {id : Nat} (hk : E.K id) (hc : 0 < E.cp id) : E.ρ id < w.heap.size := by
 obtain ⟨es, _, _, _, _, hb⟩ := hr.obj id hk
 obtain ⟨arr, t, hv, _⟩ := hb hc
 obtain ⟨x, hh⟩ := hv.some
 exact (Array.getElem?_eq_some_iff.1 hh).1
def LiesAt (E : Env) (w : World) (nl : Bool) (b bo cp sz : Nat) (es : List MV) : Prop :=
 ∃ (arr : Array Value) (t : TypeId), viewO nl w.heap[b]? arr t ∧ arr.size = cp * sz ∧ ∀ (k : Nat) c, (flat es)[k]? = some c → ∃ v, arr[bo * sz + k]? = some v ∧ V E w c v
theorem HRel.put {lk : Nat → Bool} {E : Env} {h h' : MHeap} {w w' : World} (hr : HRel E h w) {id b bo cp sz g : Nat} {nl : Bool} {es : List MV} (ho : OnlyObj lk E w w' id) (hk : E.K id → E.gn id < g ∧ lk id = false)
  (hb : 0 < cp → w.heap.size ≤ b ∨ (E.K id ∧ 0 < E.cp id ∧ b = E.ρ id)) (hh : ∀ j, j ≠ id → E.K j → h'[j]? = h[j]?) (hid : h'[id]? = some ⟨g, nl, sz, es⟩)
  (hes : ∀ e ∈ es, e.cells.length = sz) (hle : bo + es.length ≤ cp) (hl : 0 < cp → LiesAt (E.put id b bo cp sz g es.length nl) w' nl b bo cp sz es) (hlen : h.length ≤ h'.length) (ht : E.K id ∨ E.top ≤ id) :
  HRel (E.put id b bo cp sz g es.length nl) h' w' ∧ Ext lk E w (E.put id b bo cp sz g es.length nl) w' := by
 have hx : Ext lk E w (E.put id b bo cp sz g es.length nl) w' := Ext.put ho hk hb ht
 refine ⟨⟨fun j hj => ?_, Nat.le_trans hr.top hlen, fun j hj => ?_, fun i j hi hj hci hcj e => ?_, fun j hj hc hS => ?_, fun b' hS => Nat.lt_of_lt_of_le (hr.slt b' hS) ho.size, fun p hp => (hr.tab p hp).ext hr hx⟩, hx⟩
 ·rcases hj with hj | rfl
  ·exact Nat.lt_of_lt_of_le (hr.klt j hj) hlen
  ·exact (List.getElem?_eq_some_iff.1 hid).1
 ·by_cases e : j = id
  ·subst e
   refine ⟨es, by simp [Env.put, hid], by simp [Env.put], by simpa [Env.put] using hes, by simpa [Env.put] using hle, fun hc => ?_⟩
   simp only [Env.put, if_true] at hc
   have := hl hc
   unfold LiesAt at this
   simpa [Env.put] using this
  ·have hj' : E.K j := by rcases hj with hj | rfl; exact hj; exact absurd rfl e
   obtain ⟨es', h1, h2, h3, h4, h5⟩ := hr.obj j hj'
   refine ⟨es', by simp only [Env.put, e, if_false]; rw [hh j e hj', h1], by simp [Env.put, e, h2], by simpa [Env.put, e] using h3, by simpa [Env.put, e] using h4, fun hc => ?_⟩
   simp only [Env.put, e, if_false] at hc
   obtain ⟨arr, t, a1, a2, a3⟩ := h5 hc
   have hlt := hr.lt hj' hc
   refine ⟨arr, t, ?_, by simpa [Env.put, e] using a2, fun k c hk' => ?_⟩
   ·simp only [Env.put, e, if_false]
    rw [ho.keep _ hlt (fun hkid _ hcid e' => e (hr.inj j id hj' hkid hc hcid e'.symm))]
    exact a1
   ·obtain ⟨v, b1, b2⟩ := a3 k c hk'
    exact ⟨v, by simpa [Env.put, e] using b1, b2.ext hr hx⟩
 ·have nb : ∀ j, E.K j → j ≠ id → 0 < E.cp j → 0 < cp → E.ρ j ≠ b := fun j hj hne hcj hcp e => by
   rcases hb hcp with h1 | ⟨h1, h2, h3⟩
   ·have := hr.lt hj hcj; omega
   ·exact hne (hr.inj j id hj h1 hcj h2 (e.trans h3))
  by_cases e1 : i = id <;> by_cases e2 : j = id
  ·rw [e1, e2]
  ·subst e1
   simp only [Env.put, e2, if_true, if_false, or_false] at hj hci hcj e
   exact absurd e.symm (nb j hj e2 hcj hci)
  ·subst e2
   simp only [Env.put, e1, if_true, if_false, or_false] at hi hci hcj e
   exact absurd e (nb i hi e1 hci hcj)
  ·simp only [Env.put, e1, e2, if_false, or_false] at hi hj hci hcj e
   exact hr.inj i j hi hj hci hcj e
 ·by_cases e : j = id
  ·subst e
   simp only [Env.put, if_true] at hc hS
   rcases hb hc with h1 | ⟨h1, h2, h3⟩
   ·have := hr.slt b hS; omega
   ·exact hr.sep j h1 h2 (h3 ▸ hS)
  ·simp only [Env.put, e, if_false, or_false] at hj hc hS
   exact hr.sep j hj hc hS
theorem HRel.add {lk : Nat → Bool} {E : Env} {h : MHeap} {w w' : World} (hr : HRel E h w) (hb : Below w.heap.size w w') {b cp sz : Nat} {nl : Bool} {es : List MV} (hes : ∀ e ∈ es, e.cells.length = sz) (hle : es.length ≤ cp)
  (hl : 0 < cp → w.heap.size ≤ b ∧ ∃ (arr : Array Value) (t : TypeId), viewO nl w'.heap[b]? arr t ∧ arr.size = cp * sz ∧ ∀ (k : Nat) c, (flat es)[k]? = some c → ∃ v, arr[k]? = some v ∧ V E w c v) :
  HRel (E.put h.length b 0 cp sz 0 es.length nl) (h ++ [⟨0, nl, sz, es⟩]) w' ∧ Ext lk E w (E.put h.length b 0 cp sz 0 es.length nl) w' := by
 have hk : E.K h.length → E.gn h.length < 0 ∧ lk h.length = false := fun hk => absurd (hr.klt _ hk) (by omega)
 have hx : Ext lk E w (E.put h.length b 0 cp sz 0 es.length nl) w' := Ext.put (OnlyObj.of_below hb) hk (fun hc => .inl (hl hc).1) (.inr hr.top)
 refine hr.put (OnlyObj.of_below hb) hk (fun hc => .inl (hl hc).1) (fun j hj hkj => ?_) (by simp) hes (by omega) (fun hc => ?_) (by simp) (.inr hr.top)
 ·exact List.getElem?_append_left (hr.klt j hkj)
 ·obtain ⟨_, arr, t, h1, h2, h3⟩ := hl hc
  refine ⟨arr, t, h1, h2, fun k c hkc => ?_⟩
  obtain ⟨v, a1, a2⟩ := h3 k c hkc
  exact ⟨v, by simpa using a1, a2.ext hr hx⟩
end Go.Proofs.YtnmgpbihknjdjaaDoor

/- What the small language computes is what the program computes: operations that leave memory alone. -/
namespace Go.Proofs.YtnmgpbihknjdjaaDoor
open Go.RowKit
theorem Vs.append {E : Env} {w : World} {a b : List MV} {c d : List Value} (h : Vs E w a c) (k : Vs E w b d) : Vs E w (a ++ b) (c ++ d) :=
 ⟨by simp [h.1, k.1], fun i m v hm hv => by
  by_cases hi : i < a.length
  ·rw [List.getElem?_append_left hi] at hm
   rw [List.getElem?_append_left (h.1 ▸ hi)] at hv
   exact h.2 i m v hm hv
  ·rw [List.getElem?_append_right (by omega)] at hm
   rw [List.getElem?_append_right (by rw [← h.1]; omega), ← h.1] at hv
   exact k.2 _ m v hm hv⟩
theorem Vs.take {E : Env} {w : World} {a : List MV} {c : List Value} (h : Vs E w a c) (n : Nat) : Vs E w (a.take n) (c.take n) :=
 ⟨by simp [h.1], fun i m v hm hv => by
  rw [List.getElem?_take] at hm hv
  split at hm
  ·rename_i hlt; rw [if_pos hlt] at hv; exact h.2 i m v hm hv
  ·cases hm⟩
theorem Vs.drop {E : Env} {w : World} {a : List MV} {c : List Value} (h : Vs E w a c) (n : Nat) : Vs E w (a.drop n) (c.drop n) :=
 ⟨by simp [h.1], fun i m v hm hv => by
  rw [List.getElem?_drop] at hm hv
  exact h.2 _ m v hm hv⟩
def Slots (E : Env) (w : World) (s : List MV) (a : Act) : Prop := s.length = a.tmps.size ∧ ∀ (i : Nat) m v, s[i]? = some m → a.tmps[i]? = some v → V E w m v
theorem Slots.ext {lk : Nat → Bool} {E : Env} {h : MHeap} {w : World} (hr : HRel E h w) {E' : Env} {w' : World} (hx : Ext lk E w E' w') {s : List MV} {a : Act} (hs : Slots E w s a) : Slots E' w' s a :=
 ⟨hs.1, fun i m v hm hv => (hs.2 i m v hm hv).ext hr hx⟩
theorem Slots.put {E : Env} {w : World} {s : List MV} {a : Act} (hs : Slots E w s a) {m : MV} {v : Value} (hv : V E w m v) (d : Option Nat) : Slots E w (putM s d m) (a.put d v) := by
 cases d with
 | none => exact hs
 | some d =>
  refine ⟨by simp [putM, Act.put, hs.1], fun i m' v' hm hv' => ?_⟩
  simp only [putM, Act.put] at hm hv'
  by_cases e : d = i
  ·subst e
   rw [List.getElem?_set] at hm
   rw [Array.getElem?_setIfInBounds] at hv'
   split at hm
   ·split at hm
    ·split at hv'
     ·split at hv'
      ·cases hm; cases hv'; exact hv
      ·cases hv'
     ·rename_i hne; exact absurd rfl hne
    ·cases hm
   ·rename_i hne; exact absurd rfl hne
  ·rw [List.getElem?_set_ne e] at hm
   rw [Array.getElem?_setIfInBounds_ne e] at hv'
   exact hs.2 i m' v' hm hv'
theorem Slots.defers {E : Env} {w : World} {s : List MV} {t : Array Value} {ds es : List Deferred} (hs : Slots E w s ⟨t, ds⟩) : Slots E w s ⟨t, es⟩ := hs
theorem V.ofV {E : Env} {w : World} (v : Value) : V E w (ofV v) v := by
 unfold YtnmgpbihknjdjaaDoor.ofV
 split
 ·rename_i vs
  have := V.agg (E := E) (w := w) (vs.toList.map .lit) vs.toList (by simp) (fun i c v hc hv => by
   rw [List.getElem?_map] at hc
   rw [hv] at hc
   cases hc
   exact .lit v)
  simpa using this
 ·exact .lit _
theorem Slots.tmp {E : Env} {w : World} {s : List MV} {a : Act} (hs : Slots E w s a) (t : Nat) : V E w (s.getD t (.lit undef)) (a.tmps.getD t undef) := by
 by_cases h : t < s.length
 ·have h' : t < a.tmps.size := hs.1 ▸ h
  have := hs.2 t s[t] a.tmps[t] (by simp [h]) (by simp [h'])
  simpa [List.getD, h, h'] using this
 ·have h' : ¬ t < a.tmps.size := hs.1 ▸ h
  simp [List.getD, h, h']
  exact .lit _
theorem Slots.x {E : Env} {w : World} {s : List MV} {a : Act} (hs : Slots E w s a) {x : Operand} {x' : MX} (hx : cX x = some x') : V E w (x'.get s) (a.eval x) := by
 cases x with
 | tmp t => simp [cX] at hx; subst hx; exact hs.tmp t
 | const v => simp [cX] at hx; subst hx; exact V.ofV v
 | func f =>
  simp [cX] at hx; subst hx
  exact V.fn f 0 [] [] rfl (fun i c v hc => by simp at hc)
 | global g => simp [cX] at hx
theorem mapM_some {α β : Type} {f : α → Option β} : ∀ {l : List α} {l' : List β}, l.mapM f = some l' → l.length = l'.length ∧ ∀ (i : Nat) x y, l[i]? = some x → l'[i]? = some y → f x = some y
 | [], l', h => by simp at h; subst h; simp
 | x :: l, l', h => by
  simp only [List.mapM_cons, Option.pure_def, Option.bind_eq_bind, Option.bind_eq_some_iff] at h
  obtain ⟨y, hy, l'', hl, e⟩ := h
  cases e
  obtain ⟨h1, h2⟩ := mapM_some hl
  refine ⟨by simp [h1], fun i x' y' hx hy' => ?_⟩
  cases i with
  | zero => simp at hx hy'; subst hx hy'; exact hy
  | succ i => simp at hx hy'; exact h2 i x' y' hx hy'
theorem Slots.xs {E : Env} {w : World} {s : List MV} {a : Act} (hs : Slots E w s a) {xs : List Operand} {xs' : List MX} (hx : cXs xs = some xs') : Vs E w (xs'.map (MX.get s)) (xs.map a.eval) := by
 obtain ⟨h1, h2⟩ := mapM_some hx
 refine ⟨by simp [h1], fun i c v hc hv => ?_⟩
 rw [List.getElem?_map, Option.map_eq_some_iff] at hc hv
 obtain ⟨x', h3, rfl⟩ := hc
 obtain ⟨x, h4, rfl⟩ := hv
 exact hs.x (h2 i x x' h4 h3)
section
variable {P : Program} {o : Oper} {a : Act} {w w' : World} {r : Option Nat} {n : Nat} {K : Act → World → Prop} {Q : Exit → Act → World → Prop}
theorem wpIn_val {v : Value} (hnd : ∀ c, o.op ≠ .defer c) (h : (execOp a.eval o).run P w = .ok (.value v) w') (hk : K (a.put o.dst v) w') : o.wpIn (Fw r) n P a w K Q :=
 ⟨about_wide o a w, by rw [Oper.semAt_eq _ _ _ hnd, h]; exact hk⟩
theorem wpIn_skp (hnd : ∀ c, o.op ≠ .defer c) (h : (execOp a.eval o).run P w = .ok .skip w') (hk : K (a.put o.dst undef) w') : o.wpIn (Fw r) n P a w K Q :=
 ⟨about_wide o a w, by rw [Oper.semAt_eq _ _ _ hnd, h]; exact hk⟩
theorem wpIn_ent {f : FuncId} {args : Array Value} (hnd : ∀ c, o.op ≠ .defer c) (h : (execOp a.eval o).run P w = .ok (.enter f args) w')
  (hk : Calls P f args w' fun e w'' => ∃ v, e = .returned v ∧ K (a.put o.dst v) w'') : o.wpIn (Fw r) n P a w K Q :=
 ⟨about_wide o a w, by
  rw [Oper.semAt_eq _ _ _ hnd, h]
  exact ⟨fun h => by simp [Fence.wide] at h, (calls_in r _ hk).mono fun e w'' ⟨v, he, hk⟩ => by subst he; exact hk⟩⟩
end
theorem V.bool {E : Env} {w : World} {t : Bool} {v : Value} (h : V E w (.lit (.bool t)) v) : v = .bool t := by cases h; rfl
theorem V.lit_eq {E : Env} {w : World} {u v : Value} (h : V E w (.lit u) v) : v = u := by cases h; rfl
def Pure (P : Program) (o : Oper) (a : Act) (w : World) (E : Env) (m : MV) : Prop := ∃ v, (execOp a.eval o).run P w = .ok (.value v) w ∧ V E w m v
section
variable {P : Program} {o : Oper} {a : Act} {w : World} {E : Env} {s : List MV} {h : MHeap}
theorem pure_mv {x : Operand} {x' : MX} (ho : o.op = .move x ∨ o.op = .assign x) (hx : cX x = some x') (hs : Slots E w s a) : Pure P o a w E (x'.get s) := by
 refine ⟨a.eval x, ?_, hs.x hx⟩
 rcases ho with ho | ho <;> simp [execOp, ho]
theorem pure_pick {c x y : Operand} {c' x' y' : MX} {t : Bool} (ho : o.op = .pick c x y) (hc : cX c = some c') (hx : cX x = some x') (hy : cX y = some y') (hs : Slots E w s a) (ht : c'.get s = .lit (.bool t)) :
  Pure P o a w E (if t then x'.get s else y'.get s) := by
 have h1 := hs.x hc
 rw [ht] at h1
 have h2 := h1.bool
 refine ⟨if t then a.eval x else a.eval y, ?_, ?_⟩
 ·simp [execOp, ho, h2, asBool]
 ·cases t
  ·exact hs.x hy
  ·exact hs.x hx
theorem pure_nilck {x : Operand} {x' : MX} {m : MV} (ho : o.op = .nilCheck x) (hx : cX x = some x') (hs : Slots E w s a) (he : x'.get s = m) (hm : (∃ id i off g, m = .ptr id i off g) ∨ (∃ e off, m = .rp e off) ∨ ∃ f k cs, m = .fn f k cs) :
  Pure P o a w E m := by
 have h1 := hs.x hx
 rw [he] at h1
 refine ⟨a.eval x, ?_, h1⟩
 rcases hm with ⟨id, i, off, g, rfl⟩ | ⟨e, off, rfl⟩ | ⟨f, k, cs, rfl⟩ <;>
  (generalize hv : a.eval x = v at h1; cases h1; simp [execOp, ho, hv])
theorem pure_un {op : UnOp} {t : TypeId} {x : Operand} {x' : MX} {v : MV} {h' : MHeap} {lk : Nat → Bool} {O : Oracle} (ho : o.op = .unOp op t x) (hx : cX x = some x') (hs : Slots E w s a) (he : evO lk O s h (.un op x') = some (v, h')) :
  h' = h ∧ Pure P o a w E v := by
 have h1 := hs.x hx
 simp only [evO] at he
 split at he
 ·rename_i b hb
  simp only [Option.some.injEq, Prod.mk.injEq] at he
  obtain ⟨rfl, rfl⟩ := he
  rw [hb] at h1
  have h2 := h1.lit_eq
  exact ⟨rfl, _, by simp [execOp, ho, h2, Op.unary], .lit _⟩
 ·rename_i k n hb
  simp only [Option.some.injEq, Prod.mk.injEq] at he
  obtain ⟨rfl, rfl⟩ := he
  rw [hb] at h1
  have h2 := h1.lit_eq
  exact ⟨rfl, _, by simp [execOp, ho, h2, Op.unary, Op.intArith], .lit _⟩
 ·cases he
theorem pure_cv {src t : TypeId} {k : IntKind} {x : Operand} {x' : MX} {v : MV} {h' : MHeap} {lk : Nat → Bool} {O : Oracle} (ho : o.op = .convert src t x) (hsrc : P.underlying src ≠ none) (ht : P.underlying t = some (.int k)) (hx : cX x = some x') (hs : Slots E w s a)
  (he : evO lk O s h (.cv k x') = some (v, h')) : h' = h ∧ Pure P o a w E v := by
 have h1 := hs.x hx
 simp only [evO] at he
 split at he
 ·rename_i k' n hb
  simp only [Option.some.injEq, Prod.mk.injEq] at he
  obtain ⟨rfl, rfl⟩ := he
  rw [hb] at h1
  have h2 := h1.lit_eq
  obtain ⟨d, hd⟩ := Option.ne_none_iff_exists'.1 hsrc
  refine ⟨rfl, _, ?_, .lit (.int k (k.wrap n))⟩
  simp [execOp, ho, h2, convert, run_underlying ht, run_underlying hd, Conv.intToInt]
 ·cases he
theorem pure_mf {f : Nat} {first caps : Array Operand} {caps' : List MX} (ho : o.op = .makeFunc (.func f) first caps) (hc : cXs (first.toList ++ caps.toList) = some caps') (hs : Slots E w s a) : Pure P o a w E (.fn f first.size (caps'.map (MX.get s))) := by
 have h1 := hs.xs hc
 refine ⟨.func (.func f) (first.map a.eval) (caps.map a.eval), by simp [execOp, ho, Instr.makeFunc], ?_⟩
 have := V.fn f first.size _ _ h1.1 h1.2
 have e1 : (List.take first.size (List.map a.eval (first.toList ++ caps.toList))).toArray = first.map a.eval := by
  apply Array.ext'
  rw [List.map_append, List.take_left' (by simp)]
  simp
 have e2 : (List.drop first.size (List.map a.eval (first.toList ++ caps.toList))).toArray = caps.map a.eval := by
  apply Array.ext'
  rw [List.map_append, List.drop_left' (by simp)]
  simp
 rwa [e1, e2] at this
theorem pure_ext {x : Operand} {x' : MX} {i : Nat} {v : MV} {h' : MHeap} {lk : Nat → Bool} {O : Oracle} (ho : o.op = .extract x i) (hx : cX x = some x') (hs : Slots E w s a) (he : evO lk O s h (.ext x' i) = some (v, h')) : h' = h ∧ Pure P o a w E v := by
 have h1 := hs.x hx
 simp only [evO] at he
 split at he
 ·rename_i vs hb
  rw [Option.map_eq_some_iff] at he
  obtain ⟨u, hu, he⟩ := he
  simp only [Prod.mk.injEq] at he
  obtain ⟨rfl, rfl⟩ := he
  rw [hb] at h1
  generalize hv : a.eval x = y at h1
  cases h1 with
  | tup _ us hl hc =>
   have hi := (List.getElem?_eq_some_iff.1 hu).1
   have hus : us[i]? = some (us[i]'(hl ▸ hi)) := by simp
   exact ⟨rfl, _, by simp [execOp, ho, hv, Instr.extract, hus], hc i _ _ hu hus⟩
 ·cases he
theorem pure_mx {x y : Operand} {x' y' : MX} {c : Call} {v : MV} {h' : MHeap} {lk : Nat → Bool} {O : Oracle} (ho : o.op = .call c) (hc : c.callee = .builtin .max) (ha : c.args = #[x, y]) (hx : cX x = some x') (hy : cX y = some y') (hs : Slots E w s a) (he : evO lk O s h (.mx x' y') = some (v, h')) : h' = h ∧ Pure P o a w E v := by
 have h1 := hs.x hx
 have h2 := hs.x hy
 simp only [evO] at he
 split at he
 ·rename_i k n k' n' hb hb'
  simp only [Option.some.injEq, Prod.mk.injEq] at he
  obtain ⟨rfl, rfl⟩ := he
  rw [hb] at h1; rw [hb'] at h2
  have h3 := h1.lit_eq
  have h4 := h2.lit_eq
  refine ⟨rfl, _, ?_, .lit _⟩
  simp [execOp, ho, resolve, hc, ha, invoke, builtin, h3, h4, Builtin.max_, Builtin.max2]
 ·cases he
theorem pure_mn {x y : Operand} {x' y' : MX} {c : Call} {v : MV} {h' : MHeap} {lk : Nat → Bool} {O : Oracle} (ho : o.op = .call c) (hc : c.callee = .builtin .min) (ha : c.args = #[x, y]) (hx : cX x = some x') (hy : cX y = some y') (hs : Slots E w s a) (he : evO lk O s h (.mn x' y') = some (v, h')) : h' = h ∧ Pure P o a w E v := by
 have h1 := hs.x hx
 have h2 := hs.x hy
 simp only [evO] at he
 split at he
 ·rename_i k n k' n' hb hb'
  simp only [Option.some.injEq, Prod.mk.injEq] at he
  obtain ⟨rfl, rfl⟩ := he
  rw [hb] at h1; rw [hb'] at h2
  have h3 := h1.lit_eq
  have h4 := h2.lit_eq
  refine ⟨rfl, _, ?_, .lit _⟩
  simp [execOp, ho, resolve, hc, ha, invoke, builtin, h3, h4, Builtin.min_, Builtin.min2]
 ·cases he
theorem pure_sln {x : Operand} {x' : MX} {c : Call} {t : TypeId} {v : MV} {h' : MHeap} {lk : Nat → Bool} {O : Oracle} (ho : o.op = .call c) (hc : c.callee = .builtin .len) (ha : c.args = #[x]) (hat : c.argTypes = #[t]) (ht : P.underlying t = some .string) (hx : cX x = some x') (hs : Slots E w s a)
  (he : evO lk O s h (.sln x') = some (v, h')) : h' = h ∧ Pure P o a w E v := by
 have h1 := hs.x hx
 simp only [evO] at he
 split at he
 ·rename_i b hb
  simp only [Option.some.injEq, Prod.mk.injEq] at he
  obtain ⟨rfl, rfl⟩ := he
  rw [hb] at h1
  refine ⟨rfl, goInt b.size, ?_, .lit _⟩
  simp [execOp, ho, resolve, hc, ha, hat, invoke, builtin, h1.lit_eq, Builtin.len_, run_underlying ht]
 ·cases he
theorem pure_len {x : Operand} {x' : MX} {c : Call} {t e : TypeId} {v : MV} {h' : MHeap} {lk : Nat → Bool} {O : Oracle} (ho : o.op = .call c) (hc : c.callee = .builtin .len) (ha : c.args = #[x]) (hat : c.argTypes = #[t]) (ht : P.underlying t = some (.slice e)) (hx : cX x = some x') (hs : Slots E w s a)
  (he : evO lk O s h (.len x') = some (v, h')) : h' = h ∧ Pure P o a w E v := by
 have h1 := hs.x hx
 simp only [evO] at he
 split at he
 ·rename_i n hb
  simp only [Option.some.injEq, Prod.mk.injEq] at he
  obtain ⟨rfl, rfl⟩ := he
  refine ⟨rfl, goInt n, ?_, .lit _⟩
  have : ∃ A c, a.eval x = .slice A n c := by
   generalize a.eval x = y at h1
   generalize x'.get s = m at h1 hb
   cases h1 with
   | lit =>
    cases y <;> simp [MV.slen] at hb
    subst hb; exact ⟨_, _, rfl⟩
   | sl es vs A cap sz => simp [MV.slen] at hb; subst hb; exact ⟨_, _, rfl⟩
   | arr id i n g A cap => simp [MV.slen] at hb; subst hb; exact ⟨_, _, rfl⟩
   | emp ad => simp [MV.slen] at hb; subst hb; exact ⟨_, _, rfl⟩
   | _ => simp [MV.slen] at hb
  obtain ⟨A, cc, hy⟩ := this
  simp [execOp, ho, resolve, hc, ha, hat, invoke, builtin, hy, Builtin.len_, run_underlying ht]
 ·cases he
end
end Go.Proofs.YtnmgpbihknjdjaaDoor
namespace Go.Proofs.YtnmgpbihknjdjaaDoor
open Go.RowKit
theorem flat_cons (e : MV) (es : List MV) : flat (e :: es) = e.cells ++ flat es := rfl
theorem flat_len {sz : Nat} : ∀ {es : List MV}, (∀ e ∈ es, e.cells.length = sz) → (flat es).length = es.length * sz
 | [], _ => by simp [flat]
 | e :: es, h => by
  rw [flat_cons, List.length_append, h e (by simp), flat_len (fun x hx => h x (by simp [hx])), List.length_cons, Nat.add_mul]
  omega
theorem flat_at {sz : Nat} : ∀ {es : List MV}, (∀ e ∈ es, e.cells.length = sz) → ∀ {i : Nat} {e : MV} {j : Nat}, es[i]? = some e → j < sz → (flat es)[i * sz + j]? = e.cells[j]?
 | e :: es, h, 0, e', j, hi, hj => by
  simp at hi; subst hi
  rw [flat_cons, Nat.zero_mul, Nat.zero_add, List.getElem?_append_left (by rw [h e (by simp)]; exact hj)]
 | e :: es, h, i + 1, e', j, hi, hj => by
  simp at hi
  have := flat_at (fun x hx => h x (by simp [hx])) hi hj
  rw [flat_cons, List.getElem?_append_right (by rw [h e (by simp)]; rw [Nat.add_mul]; omega), h e (by simp), ← this]
  congr 1
  rw [Nat.add_mul]; omega
theorem flat_iff {sz : Nat} {es : List MV} (h : ∀ e ∈ es, e.cells.length = sz) {k : Nat} {c : MV} : (flat es)[k]? = some c ↔ ∃ i j e, k = i * sz + j ∧ j < sz ∧ es[i]? = some e ∧ e.cells[j]? = some c := by
 constructor
 ·intro hk
  have hlt := (List.getElem?_eq_some_iff.1 hk).1
  rw [flat_len h] at hlt
  have hsz : 0 < sz := by
   rcases Nat.eq_zero_or_pos sz with h0 | h0
   ·rw [h0, Nat.mul_zero] at hlt; omega
   ·exact h0
  have hi : k / sz < es.length := Nat.div_lt_of_lt_mul (by rw [Nat.mul_comm]; exact hlt)
  have hkk : k = k / sz * sz + k % sz := by rw [Nat.mul_comm]; exact (Nat.div_add_mod k sz).symm
  refine ⟨k / sz, k % sz, es[k / sz], hkk, Nat.mod_lt _ hsz, by simp [hi], ?_⟩
  rw [← flat_at h (List.getElem?_eq_getElem hi) (Nat.mod_lt _ hsz), ← hkk]
  exact hk
 ·rintro ⟨i, j, e, rfl, hj, he, hc⟩
  rw [flat_at h he hj]; exact hc
section
variable {P : Program} {w : World} {E : Env}
def isAggD : TypeDesc → Bool
 | .struct _ | .array _ _ => true
 | _ => false
theorem tagg_none {t : TypeId} (h : tagg P t = some none) : ∃ d, P.underlying t = some d ∧ isAggD d = false := by
 unfold tagg at h
 cases hd : P.underlying t with
 | none => rw [hd] at h; cases h
 | some d =>
  rw [hd] at h
  refine ⟨d, rfl, ?_⟩
  cases d <;> first | rfl | (simp at h)
theorem tagg_some {t : TypeId} {n : Nat} (h : tagg P t = some (some n)) : (∃ d, P.underlying t = some d ∧ isAggD d = true) ∧ ∃ i, P.info? t = some i ∧ i.size = n := by
 unfold tagg at h
 cases hd : P.underlying t with
 | none => rw [hd] at h; cases h
 | some d =>
  rw [hd] at h
  cases d <;> simp [tsz] at h <;> (obtain ⟨i, h1, h2⟩ := h; exact ⟨⟨_, rfl, rfl⟩, i, h1, h2⟩)
theorem run_isAgg {t : TypeId} {d : TypeDesc} {b : Bool} (h : P.underlying t = some d) (hd : isAggD d = b) (w : World) : (isAgg t).run P w = .ok b w := by
 unfold isAgg
 simp only [Sem.run_bind, run_underlying h, Result.andThen_ok]
 subst hd
 cases d <;> rfl
theorem Addr.add_none (b o i : Nat) : (⟨b, o, none⟩ : Addr).add i = ⟨b, o + i, none⟩ := by unfold Addr.add; split <;> simp_all
theorem run_loadVar_m {t : TypeId} {ag : Option Nat} (ht : tagg P t = some ag) {ms : List MV} {vs : List Value} (hv : Vs E w ms vs) {b o : Nat} (hc : ∀ (i : Nat) v, vs[i]? = some v → w.cell? ⟨b, o + i, none⟩ = some v)
  {off : Nat} {m : MV} (hm : rdCells ms off ag = some m) : ∃ v, (loadVar t ⟨b, o + off, none⟩).run P w = .ok v w ∧ V E w m v := by
 cases ag with
 | none =>
  obtain ⟨d, h1, h2⟩ := tagg_none ht
  simp only [rdCells] at hm
  have hlt := (List.getElem?_eq_some_iff.1 hm).1
  rw [hv.1] at hlt
  have hx : vs[off]? = some vs[off] := by simp
  refine ⟨vs[off], ?_, hv.2 off m _ hm hx⟩
  simp [loadVar, run_isAgg h1 h2, hc off _ hx]
 | some n =>
  obtain ⟨⟨d, h1, h2⟩, i, hi, hn⟩ := tagg_some ht
  simp only [rdCells] at hm
  split at hm
  ·rename_i hle
   cases hm
   have hle' : off + n ≤ vs.length := hv.1 ▸ hle
   have hcs : ((vs.drop off).take n).length = n := by simp; omega
   have hrun := run_loadCells_list (P := P) w ⟨b, o + off, none⟩ ((vs.drop off).take n) (fun j v hj => by
    rw [Addr.add_none, Nat.add_assoc]
    refine hc (off + j) v ?_
    rw [List.getElem?_take] at hj
    split at hj
    ·rwa [List.getElem?_drop] at hj
    ·cases hj)
   rw [hcs] at hrun
   refine ⟨.agg ((vs.drop off).take n).toArray, ?_, .agg _ _ (by simp; omega) fun j c v hj hv' => ?_⟩
   ·simp [loadVar, run_isAgg h1 h2, sizeOf, typeInfo, hi, hn, hrun]
   ·rw [List.getElem?_take] at hj hv'
    split at hj
    ·rename_i hlt
     rw [if_pos hlt] at hv'
     rw [List.getElem?_drop] at hj hv'
     exact hv.2 _ c v hj hv'
    ·cases hj
  ·cases hm
theorem HRel.gnOf {h : MHeap} (hr : HRel E h w) {id g : Nat} {ob : MObj} (hk : E.K id) (hob : h[id]? = some ob) (hg : ob.g = g) : E.gn id = g ∧ E.nl id = ob.nl := by
 obtain ⟨es, h1, _⟩ := hr.obj id hk
 rw [hob] at h1
 simp only [Option.some.injEq] at h1
 subst h1
 exact ⟨hg, rfl⟩
theorem HRel.elem {h : MHeap} (hr : HRel E h w) {id i g : Nat} {ob : MObj} {e : MV} (hk : E.K id) (hnl : E.nl id = false) (hob : h[id]? = some ob) (hg : ob.g = g) (he : ob.es[i]? = some e) :
  E.gn id = g ∧ E.sz id = ob.sz ∧ e.cells.length = ob.sz ∧ E.ln id = ob.es.length ∧ 0 < E.cp id ∧ ∃ vs, Vs E w e.cells vs ∧ ∀ (j : Nat) v, vs[j]? = some v → w.cell? ⟨E.ρ id, (E.bo id + i) * E.sz id + j, none⟩ = some v := by
 obtain ⟨es, h1, h2, h3, h4, h5⟩ := hr.obj id hk
 rw [hob] at h1
 simp only [Option.some.injEq] at h1
 subst h1
 dsimp only at hg he ⊢
 have hi := (List.getElem?_eq_some_iff.1 he).1
 have hcp : 0 < E.cp id := by omega
 have hel := h3 e (List.mem_of_getElem? he)
 obtain ⟨arr, t, a1, a2, a3⟩ := h5 hcp
 rw [hnl] at a1
 replace a1 : w.heap[E.ρ id]? = some (.cells arr t (0, 0)) := a1
 refine ⟨hg, rfl, hel, h2, hcp, ?_⟩
 have hbase : (E.bo id + i) * E.sz id + E.sz id ≤ arr.size := by
  rw [a2, ← Nat.succ_mul]
  exact Nat.mul_le_mul_right _ (by omega)
 refine ⟨(arr.toList.drop ((E.bo id + i) * E.sz id)).take (E.sz id), ⟨by simp [hel]; omega, fun j c v hj hv => ?_⟩, fun j v hj => ?_⟩
 ·have hjl : j < E.sz id := by have := (List.getElem?_eq_some_iff.1 hj).1; omega
  have := (flat_iff h3).2 ⟨i, j, e, rfl, hjl, he, hj⟩
  obtain ⟨v', b1, b2⟩ := a3 _ c this
  rw [List.getElem?_take, if_pos hjl, List.getElem?_drop] at hv
  have e1 : (E.bo id + i) * E.sz id + j = E.bo id * E.sz id + (i * E.sz id + j) := by rw [Nat.add_mul]; omega
  rw [e1, Array.getElem?_toList, b1] at hv
  cases hv
  exact b2
 ·rw [List.getElem?_take] at hj
  split at hj
  ·rw [List.getElem?_drop, Array.getElem?_toList] at hj
   simp [World.cell?, a1, hj]
  ·cases hj
variable {o : Oper} {a : Act} {s : List MV} {h : MHeap}
theorem pure_ld {t : TypeId} {ag : Option Nat} {x : Operand} {x' : MX} {v : MV} {h' : MHeap} {lk : Nat → Bool} {O : Oracle} (ho : o.op = .load t x) (ht : tagg P t = some ag) (hx : cX x = some x') (hs : Slots E w s a) (hr : HRel E h w)
  (he : evO lk O s h (.ld ag x') = some (v, h')) : h' = h ∧ Pure P o a w E v := by
 have h1 := hs.x hx
 simp only [evO] at he
 have key : ∀ {b o' : Nat} {ms : List MV} {vs : List Value} {off : Nat}, a.eval x = .pointer (some ⟨b, o' + off, none⟩) → Vs E w ms vs → (∀ (i : Nat) v, vs[i]? = some v → w.cell? ⟨b, o' + i, none⟩ = some v) → (rdCells ms off ag).map (fun v => (v, h)) = some (v, h') → h' = h ∧ Pure P o a w E v := by
  intro b o' ms vs off hp hv hc hm
  rw [Option.map_eq_some_iff] at hm
  obtain ⟨m, hm, e⟩ := hm
  simp only [Prod.mk.injEq] at e
  obtain ⟨rfl, rfl⟩ := e
  obtain ⟨u, hu, hV⟩ := run_loadVar_m ht hv hc hm
  exact ⟨rfl, u, by simp [execOp, ho, hp, Instr.loadAt, Instr.sureAddr, hu], hV⟩
 split at he
 ·rename_i e off hb
  rw [hb] at h1
  generalize hy : a.eval x = y at h1
  cases h1 with
  | rp _ _ vs b o' hl hc hS hcell => exact key hy ⟨hl, hc⟩ hcell he
 ·rename_i id i off g hb
  rw [hb] at h1
  generalize hy : a.eval x = y at h1
  cases h1 with
  | ptr _ _ _ _ b o' hk hg hd =>
   split at he
   ·rename_i ob hob
    split at he
    ·rename_i hog
     split at he
     ·rename_i e hel
      obtain ⟨rfl, rfl, _, hnl⟩ := hd (hr.gnOf hk hob hog).1
      obtain ⟨c1, c2, c3, c4, c5, vs, c6, c7⟩ := hr.elem hk hnl hob hog hel
      exact key hy c6 c7 he
     ·cases he
    ·cases he
   ·cases he
 ·cases he
theorem splice_at {cs vs : List MV} {off : Nat} (hl : off + vs.length ≤ cs.length) (k : Nat) : (splice cs off vs)[k]? = if off ≤ k ∧ k < off + vs.length then vs[k - off]? else cs[k]? := by
 unfold splice
 by_cases h1 : k < off
 ·rw [List.append_assoc, List.getElem?_append_left (by simp; omega), List.getElem?_take, if_pos h1, if_neg (by omega)]
 ·by_cases h2 : k < off + vs.length
  ·rw [if_pos (by omega), List.append_assoc, List.getElem?_append_right (by simp; omega), List.getElem?_append_left (by simp; omega)]
   congr 1; simp; omega
  ·rw [if_neg (by omega), List.getElem?_append_right (by simp; omega), List.getElem?_drop]
   congr 1; simp; omega
theorem splice_len {cs vs : List MV} {off : Nat} (hl : off + vs.length ≤ cs.length) : (splice cs off vs).length = cs.length := by unfold splice; simp; omega
theorem wrElem_cells {e e' v : MV} {off : Nat} (h : wrElem e off v = some e') : off + v.cells.length ≤ e.cells.length ∧ e'.cells.length = e.cells.length ∧ ∀ k : Nat, e'.cells[k]? = if off ≤ k ∧ k < off + v.cells.length then v.cells[k - off]? else e.cells[k]? := by
 unfold wrElem at h
 split at h
 ·rename_i hl
  refine ⟨hl, ?_⟩
  split at h
  ·cases h
   exact ⟨splice_len hl, splice_at hl⟩
  ·rename_i hne
   split at h
   ·rename_i h1
    cases h
    have hc : e.cells = [e] := by cases e <;> first | rfl | exact absurd rfl (hne _)
    rw [hc] at hl ⊢
    simp only [List.length_cons, List.length_nil, Nat.zero_add] at hl ⊢
    have : off = 0 := by omega
    subst this
    refine ⟨h1, fun k => ?_⟩
    by_cases hk : k < 1
    ·rw [if_pos (by omega)]; rfl
    ·rw [if_neg (by omega), List.getElem?_eq_none (by omega), List.getElem?_eq_none (by simp; omega)]
   ·cases h
 ·cases h
end
end Go.Proofs.YtnmgpbihknjdjaaDoor
namespace Go.Proofs.YtnmgpbihknjdjaaDoor
open Go.RowKit
def Eff (lk : Nat → Bool) (P : Program) (o : Oper) (a : Act) (w : World) (E : Env) (m : MV) (h' : MHeap) : Prop :=
 ∃ v w' E', ((execOp a.eval o).run P w = .ok (.value v) w' ∨ ((execOp a.eval o).run P w = .ok .skip w' ∧ v = undef)) ∧ V E' w' m v ∧ HRel E' h' w' ∧ Ext lk E w E' w'
section
variable {lk : Nat → Bool} {P : Program} {w : World} {E : Env} {o : Oper} {a : Act} {s : List MV} {h : MHeap}
theorem Pure.eff {m : MV} (hp : Pure P o a w E m) (hr : HRel E h w) : Eff lk P o a w E m h := by
 obtain ⟨v, h1, h2⟩ := hp
 exact ⟨v, w, E, .inl h1, h2, hr, Ext.refl _ _ _⟩
theorem HRel.write (hr : HRel E h w) {id : Nat} (hlk : lk id = false) {ob : MObj} {es' : List MV} {w' : World} {arr' : Array Value} {t : TypeId} (hk : E.K id) (hc : 0 < E.cp id) (hob : h[id]? = some ob) (hlen : es'.length = ob.es.length)
  (hsz : ∀ e ∈ es', e.cells.length = E.sz id) (h1 : w'.os = w.os ∧ w'.tape = w.tape ∧ w'.output = w.output ∧ w'.heap.size = w.heap.size) (hkeep : ∀ k, k ≠ E.ρ id → w'.heap[k]? = w.heap[k]?)
  (hh : viewO (E.nl id) w'.heap[E.ρ id]? arr' t) (hs : arr'.size = E.cp id * E.sz id) (hcells : ∀ (k : Nat) c, (flat es')[k]? = some c → ∃ v, arr'[E.bo id * E.sz id + k]? = some v ∧ V E w c v) :
  HRel E (h.set id { ob with es := es' }) w' ∧ Ext lk E w E w' := by
 have hx : Ext lk E w E w' := ⟨h1.1, h1.2.1, h1.2.2.1, Nat.le_of_eq h1.2.2.2.symm, fun k hk' hn => hkeep k (fun e => hn id hk hlk hc e.symm), fun _ h => h, fun _ h => h, fun _ _ => ⟨Nat.le_refl _, fun _ => ⟨rfl, rfl, rfl, rfl, rfl, rfl⟩⟩, fun _ _ _ => rfl, fun _ hj hcj => .inl ⟨hj, hcj, rfl⟩, rfl, fun _ h => .inl h, rfl, fun _ h => .inl h⟩
 have hidl := hr.klt id hk
 refine ⟨⟨fun j hj => by simpa using hr.klt j hj, by simpa using hr.top, fun j hj => ?_, hr.inj, hr.sep, fun b hb => by rw [h1.2.2.2]; exact hr.slt b hb, fun p hp => (hr.tab p hp).ext hr hx⟩, hx⟩
 by_cases e : j = id
 ·subst e
  obtain ⟨es, a1, a2, a3, a4, a5⟩ := hr.obj j hj
  rw [hob] at a1
  simp only [Option.some.injEq] at a1
  subst a1
  dsimp only at hlen ⊢
  refine ⟨es', by simp [hidl], by rw [a2, hlen], hsz, by rw [hlen]; exact a4, fun _ => ⟨arr', t, hh, hs, fun k c hkc => ?_⟩⟩
  obtain ⟨v, b1, b2⟩ := hcells k c hkc
  exact ⟨v, b1, b2.ext hr hx⟩
 ·obtain ⟨es, a1, a2, a3, a4, a5⟩ := hr.obj j hj
  refine ⟨es, by rw [List.getElem?_set_ne (fun e' => e e'.symm)]; exact a1, a2, a3, a4, fun hcj => ?_⟩
  obtain ⟨arr, t', b1, b2, b3⟩ := a5 hcj
  refine ⟨arr, t', ?_, b2, fun k c hkc => ?_⟩
  ·rw [hkeep _ (fun e' => e (hr.inj j id hj hk hcj hc e'))]; exact b1
  ·obtain ⟨v, c1, c2⟩ := b3 k c hkc
   exact ⟨v, c1, c2.ext hr hx⟩
theorem sOk_cells {m : MV} {v : Value} {sz : Nat} (hv : V E w m v) (hm : m.sOk sz = true) : Vs E w m.cells v.cells.toList ∧ m.cells.length = sz ∧ ∀ u ∈ v.cells.toList, u.oneCell' = true := by
 unfold MV.sOk at hm
 simp only [Bool.and_eq_true, beq_iff_eq] at hm
 obtain ⟨h1, h2⟩ := hm
 have hvs : Vs E w m.cells v.cells.toList := hv.cells (fun x e => by subst e; simp [MV.cells, MV.one, Value.oneCell'] at h2) (fun e => by subst e; simp [MV.cells, MV.one] at h2)
 refine ⟨hvs, h1, fun u hu => ?_⟩
 obtain ⟨i, hi⟩ := List.getElem?_of_mem hu
 have hil := (List.getElem?_eq_some_iff.1 hi).1
 have hc : m.cells[i]? = some (m.cells[i]'(hvs.1 ▸ hil)) := by simp
 exact (hvs.2 i _ u hc hi).one (List.all_eq_true.1 h2 _ (List.getElem_mem _))
theorem eff_st {t : TypeId} {x y : Operand} {x' y' : MX} {sz : Nat} {v : MV} {h' : MHeap} {O : Oracle} (ho : o.op = .store t x y) (ht : tsz P t = some sz) (hx : cX x = some x') (hy : cX y = some y') (hs : Slots E w s a) (hr : HRel E h w)
  (he : evO lk O s h (.st sz x' y') = some (v, h')) : Eff lk P o a w E v h' := by
 have h1 := hs.x hx
 have h2 := hs.x hy
 simp only [evO] at he
 split at he
 case isFalse => cases he
 rename_i hok
 split at he
 case h_2 => cases he
 rename_i id i off g hb
 rw [hb] at h1
 generalize hyv : a.eval x = yv at h1
 cases h1 with
 | ptr _ _ _ _ b o' hk hg hd =>
  split at he
  case h_2 => cases he
  rename_i ob hob
  split at he
  case isFalse => cases he
  rename_i hogl
  obtain ⟨hog, hlk⟩ := hogl
  split at he
  case h_2 => cases he
  rename_i e hel
  split at he
  case h_2 => cases he
  rename_i e' hwr
  simp only [Option.some.injEq, Prod.mk.injEq] at he
  obtain ⟨rfl, rfl⟩ := he
  obtain ⟨rfl, rfl, _, hnl⟩ := hd (hr.gnOf hk hob hog).1
  obtain ⟨c1, c2, c3, c4, c5, -⟩ := hr.elem hk hnl hob hog hel
  obtain ⟨es, a1, a2, a3, a4, a5⟩ := hr.obj id hk
  rw [hob] at a1
  simp only [Option.some.injEq] at a1
  subst a1
  dsimp only at hog hel c2 c3 c4 ⊢
  obtain ⟨arr, te, b1, b2, b3⟩ := a5 c5
  rw [hnl] at b1
  replace b1 : w.heap[E.ρ id]? = some (.cells arr te (0, 0)) := b1
  obtain ⟨hvs, hlen, hone⟩ := sOk_cells h2 hok
  obtain ⟨w1, w2, w3⟩ := wrElem_cells hwr
  have hi := (List.getElem?_eq_some_iff.1 hel).1
  have hvl : (a.eval y).cells.toList.length = sz := by rw [← hvs.1]; exact hlen
  have hbase : (E.bo id + i) * E.sz id + E.sz id ≤ arr.size := by
   rw [b2, ← Nat.succ_mul]; exact Nat.mul_le_mul_right _ (by omega)
  have hfit : (E.bo id + i) * E.sz id + off + (a.eval y).cells.toList.length ≤ arr.size := by rw [← hvs.1]; omega
  have hrun := run_storeCells_at (P := P) (E.ρ id) ((E.bo id + i) * E.sz id + off) te (a.eval y).cells.toList 0 arr w b1 (by simpa using hfit) hone
  simp only [Nat.add_zero] at hrun
  obtain ⟨inf, hinf, hsize⟩ : ∃ inf, P.info? t = some inf ∧ inf.size = sz := by unfold tsz at ht; rwa [Option.map_eq_some_iff] at ht
  generalize harr : (arr.toList.take ((E.bo id + i) * E.sz id + off) ++ (a.eval y).cells.toList ++ arr.toList.drop ((E.bo id + i) * E.sz id + off + (a.eval y).cells.toList.length)).toArray = arr' at hrun
  have hsz' : arr'.size = arr.size := by
   rw [← harr]
   simp only [List.size_toArray, List.length_append, List.length_take, List.length_drop, Array.length_toList] at hfit ⊢
   omega
  have hat : ∀ k : Nat, arr'[k]? = if (E.bo id + i) * E.sz id + off ≤ k ∧ k < (E.bo id + i) * E.sz id + off + (a.eval y).cells.toList.length then (a.eval y).cells.toList[k - ((E.bo id + i) * E.sz id + off)]? else arr[k]? := by
   intro k
   rw [← harr, List.getElem?_toArray]
   by_cases k1 : k < (E.bo id + i) * E.sz id + off
   ·rw [List.append_assoc, List.getElem?_append_left (by simp; omega), List.getElem?_take, if_pos k1, if_neg (by omega), Array.getElem?_toList]
   ·by_cases k2 : k < (E.bo id + i) * E.sz id + off + (a.eval y).cells.toList.length
    ·rw [if_pos (by omega), List.append_assoc, List.getElem?_append_right (by simp; omega), List.getElem?_append_left (by simp at k2 hfit ⊢; omega)]
     congr 1; simp at hfit ⊢; omega
    ·rw [if_neg (by omega), List.getElem?_append_right (by simp at k2 hfit ⊢; omega), List.getElem?_drop, Array.getElem?_toList]
     congr 1; simp at k2 hfit ⊢; omega
  have hes : ∀ x ∈ es.set i e', x.cells.length = E.sz id := fun x hx => by
   rcases List.mem_or_eq_of_mem_set hx with h | h
   ·exact a3 x h
   ·rw [h, w2, c3]
  have hw := hr.write hlk (w' := w.setRow (E.ρ id) arr') hk c5 hob (es' := es.set i e') (by simp) hes ⟨rfl, rfl, rfl, by simp [World.setRow]⟩ (fun k hne => setRow_other w _ k _ hne) (by rw [hnl]; exact setRow_heap w _ arr arr' te _ b1) (by rw [hsz', b2]) (fun k c hkc => by
   obtain ⟨i2, j, e2, rfl, hj, he2, hc⟩ := (flat_iff hes).1 hkc
   rw [hat]
   by_cases hi2 : i2 = i
   ·subst hi2
    rw [List.getElem?_set, if_pos rfl, if_pos hi] at he2
    cases he2
    rw [w3 j] at hc
    have eadd : (E.bo id + i2) * E.sz id + j = E.bo id * E.sz id + (i2 * E.sz id + j) := by rw [Nat.add_mul]; omega
    by_cases hin : off ≤ j ∧ j < off + (y'.get s).cells.length
    ·rw [if_pos hin] at hc
     rw [if_pos (by rw [← hvs.1]; omega)]
     have hil : j - off < (a.eval y).cells.toList.length := by rw [← hvs.1]; omega
     refine ⟨(a.eval y).cells.toList[j - off], ?_, hvs.2 _ _ _ hc (by simp)⟩
     have : E.bo id * E.sz id + (i2 * E.sz id + j) - ((E.bo id + i2) * E.sz id + off) = j - off := by omega
     rw [this]; simp
    ·rw [if_neg hin] at hc
     rw [if_neg (by rw [← hvs.1]; omega)]
     exact b3 _ _ ((flat_iff a3).2 ⟨i2, j, e, rfl, hj, hel, hc⟩)
   ·rw [List.getElem?_set_ne (fun e => hi2 e.symm)] at he2
    rw [if_neg (by
     rintro ⟨k1, k2⟩
     rw [← hvs.1] at k2
     have m1 : (E.bo id + i) * E.sz id = E.bo id * E.sz id + i * E.sz id := Nat.add_mul _ _ _
     rcases Nat.lt_or_gt_of_ne hi2 with hlt | hgt
     ·have : (i2 + 1) * E.sz id ≤ i * E.sz id := Nat.mul_le_mul_right _ hlt
      rw [Nat.succ_mul] at this
      omega
     ·have : (i + 1) * E.sz id ≤ i2 * E.sz id := Nat.mul_le_mul_right _ hgt
      rw [Nat.succ_mul] at this
      omega)]
    exact b3 _ _ ((flat_iff a3).2 ⟨i2, j, e2, rfl, hj, he2, hc⟩))
  refine ⟨undef, w.setRow (E.ρ id) arr', E, .inr ⟨?_, rfl⟩, .lit _, hw.1, hw.2⟩
  have hcs : (a.eval y).cells.size = inf.size := by rw [hsize, ← hvl]; simp
  simp [execOp, ho, hyv, Instr.storeAt, Instr.sureAddr, storeVar, sizeOf, typeInfo, hinf, hcs, hrun]
end
end Go.Proofs.YtnmgpbihknjdjaaDoor
namespace Go.Proofs.YtnmgpbihknjdjaaDoor
open Go.RowKit
section
variable {lk : Nat → Bool} {P : Program} {w : World} {E : Env} {o : Oper} {a : Act} {s : List MV} {h : MHeap}
theorem flat_one (m : MV) : flat [m] = m.cells := by simp [flat]
theorem HRel.addBlock (hr : HRel E h w) {w0 : World} (hb : Below w.heap.size w w0) {es : List MV} {sz : Nat} (nl : Bool) (c : Array Value) (t : TypeId) (hes : ∀ e ∈ es, e.cells.length = sz) (hc : Vs E w (flat es) c.toList) (hn : nl = false := by rfl) :
  HRel (E.put h.length w0.heap.size 0 es.length sz 0 es.length nl) (h ++ [⟨0, nl, sz, es⟩]) (w0.alloc (.cells c t)) ∧ Ext lk E w (E.put h.length w0.heap.size 0 es.length sz 0 es.length nl) (w0.alloc (.cells c t)) := by
 subst hn
 refine hr.add (hb.alloc hb.size _) hes (Nat.le_refl _) fun _ => ⟨hb.size, c, t, World.alloc_heap_new w0 _, ?_, fun k m hk => ?_⟩
 ·have := hc.1
  rw [flat_len hes] at this
  simpa using this.symm
 ·have hl := (List.getElem?_eq_some_iff.1 hk).1
  have hl' : k < c.toList.length := hc.1 ▸ hl
  refine ⟨c.toList[k], by simp at hl' ⊢, hc.2 k m _ hk (by simp)⟩
theorem ptr_put {b cp sz ln : Nat} {w' : World} {id : Nat} (hl : 0 < ln) : V (E.put id b 0 cp sz 0 ln false) w' (.ptr id 0 0 0) (.pointer (some ⟨b, 0, none⟩)) :=
 .ptr _ _ _ _ _ _ (.inr rfl) (by simp [Env.put]) fun _ => by simp [Env.put, hl]
theorem arr_put {b cp sz n : Nat} {w' : World} {id : Nat} (hn : n ≤ cp) : V (E.put id b 0 cp sz 0 n false) w' (.arr id 0 n 0) (.slice (some ⟨b, 0, none⟩) n cp) :=
 .arr _ _ _ _ _ _ (.inr rfl) (by simp [Env.put]) fun _ => by simp [Env.put, hn]
theorem eff_nil0 {x : Operand} {sz : Nat} (ho : o.op = .assign x) (hx : isNilSlice x = true) (hr : HRel E h w) : Eff lk P o a w E (.arr h.length 0 0 0) (h ++ [⟨0, true, sz, []⟩]) := by
 have hx' : x = .const (.slice none 0 0) := by
  unfold isNilSlice at hx
  split at hx
  ·rfl
  ·cases hx
 obtain ⟨h1, h2⟩ := hr.add (Below.refl _ w) (b := 0) (cp := 0) (sz := sz) (nl := true) (es := []) (by simp) (by simp) (by simp)
 refine ⟨.slice none 0 0, w, _, .inl (by simp [execOp, ho, hx', Act.eval]), ?_, h1, h2⟩
 exact .arr _ _ _ _ _ _ (.inr rfl) (by simp [Env.put]) fun _ => by simp [Env.put]
theorem ofV_ok {v : Value} : (ofV v).cOk = true → Vs E w (ofV v).cells v.cells.toList := fun hok => by
 refine (V.ofV v).cells (fun x e => ?_) (fun e => ?_)
 ·rw [e] at hok; simp [MV.cOk] at hok
 ·rw [e] at hok; simp [MV.cOk] at hok
theorem eff_new {t : TypeId} {z : MV} (ho : o.op = .alloc t) (hz : tzero P t = some z) (hok : z.cOk = true) (hr : HRel E h w) : Eff lk P o a w E (.ptr h.length 0 0 0) (h ++ [⟨0, false, z.cells.length, [z]⟩]) := by
 unfold tzero at hz
 rw [Option.map_eq_some_iff] at hz
 obtain ⟨v, hv, rfl⟩ := hz
 obtain ⟨i, hi, hzero⟩ := Option.bind_eq_some_iff.1 hv
 obtain ⟨h1, h2⟩ := hr.addBlock (Below.refl _ w) (es := [ofV v]) (sz := (ofV v).cells.length) false v.cells t (by simp) (by rw [flat_one]; exact ofV_ok hok)
 refine ⟨.pointer (some ⟨w.heap.size, 0, none⟩), _, _, .inl ?_, ptr_put (by simp), h1, h2⟩
 simp [execOp, ho, Instr.alloc, zeroValue, typeInfo, hi, hzero, newVar, newRow]
theorem eff_box {t : TypeId} {x : Operand} {x' : MX} {sz : Nat} {v : MV} {h' : MHeap} {O : Oracle} (ho : o.op = .box t x) (hx : cX x = some x') (hs : Slots E w s a) (hr : HRel E h w) (he : evO lk O s h (.box sz x') = some (v, h')) :
  Eff lk P o a w E v h' := by
 simp only [evO] at he
 split at he
 ·rename_i hok
  simp only [Option.some.injEq, Prod.mk.injEq] at he
  obtain ⟨rfl, rfl⟩ := he
  have h1 := hs.x hx
  have h2 := h1.cells (fun u e => by rw [e] at hok; simp [MV.cOk] at hok) (fun e => by rw [e] at hok; simp [MV.cOk] at hok)
  obtain ⟨r1, r2⟩ := hr.addBlock (Below.refl _ w) (es := [x'.get s]) (sz := sz) false (a.eval x).cells t (by simpa using hok.1) (by rw [flat_one]; exact h2)
  exact ⟨.pointer (some ⟨w.heap.size, 0, none⟩), _, _, .inl (by simp [execOp, ho, Instr.box, newVar, newRow]), ptr_put (by simp), r1, r2⟩
 ·cases he
theorem fold_part {off : Nat} {ms : List MV} {cs : Array Value} {v : Value} {vm : List MV} (hms : Vs E w ms cs.toList) (hv : Vs E w vm v.cells.toList) (hl : off + vm.length ≤ ms.length) :
  Vs E w (splice ms off vm) (v.cells.zipIdx.foldl (fun cs (x : Value × Nat) => cs.setIfInBounds (off + x.2) x.1) cs).toList := by
 obtain ⟨g1, g2⟩ := Go.Great.foldl_set off v.cells.toList 0 cs
 have e : v.cells.zipIdx.foldl (fun cs (x : Value × Nat) => cs.setIfInBounds (off + x.2) x.1) cs = (v.cells.toList.zipIdx 0).foldl (fun cs (x : Value × Nat) => cs.setIfInBounds (off + x.2) x.1) cs := by
  rw [← Array.foldl_toList, Array.toList_zipIdx]
 rw [e]
 refine ⟨by rw [splice_len hl, hms.1]; simp [g1], fun k c u hk hu => ?_⟩
 rw [splice_at hl] at hk
 rw [Array.getElem?_toList, g2] at hu
 have hml := hms.1
 have hvl := hv.1
 simp only [Nat.add_zero] at hu
 by_cases hin : off ≤ k ∧ k < off + vm.length
 ·rw [if_pos hin] at hk
  rw [if_pos (by simp at hml hvl ⊢; omega)] at hu
  exact hv.2 _ c u hk hu
 ·rw [if_neg hin] at hk
  rw [if_neg (by simp at hml hvl ⊢; omega)] at hu
  exact hms.2 k c u hk (by rw [Array.getElem?_toList]; exact hu)
theorem fill_m {place : Nat → Option (Nat × Nat)} : ∀ {parts : List (Nat × Value)} {mparts : List (Nat × List MV)} {ms ms' : List MV} {cs : Array Value}, Vs E w ms cs.toList → parts.length = mparts.length →
  (∀ (i : Nat) p m, parts[i]? = some p → mparts[i]? = some m → place p.1 = some (m.1, m.2.length) ∧ Vs E w m.2 p.2.cells.toList) → fillM ms mparts = some ms' → ∃ cs', Instr.fill place cs parts = some cs' ∧ Vs E w ms' cs'.toList
 | [], [], ms, ms', cs, hms, _, _, hf => by simp [fillM] at hf; subst hf; exact ⟨cs, rfl, hms⟩
 | p :: parts, m :: mparts, ms, ms', cs, hms, hl, hp, hf => by
  obtain ⟨i, v⟩ := p
  obtain ⟨off, vm⟩ := m
  obtain ⟨h1, h2⟩ := hp 0 _ _ rfl rfl
  dsimp only at h1 h2
  simp only [fillM] at hf
  split at hf
  ·rename_i hle
   have hsz : v.cells.size = vm.length := by have := h2.1; simpa using this.symm
   have hcs : cs.size = ms.length := by have := hms.1; simpa using this.symm
   obtain ⟨cs', f1, f2⟩ := fill_m (fold_part hms h2 hle) (by simpa using hl) (fun i p m hp' hm' => hp (i + 1) p m (by simpa using hp') (by simpa using hm')) hf
   refine ⟨cs', ?_, f2⟩
   unfold Instr.fill
   simp only [h1]
   rw [if_neg (by simp [hsz, hcs]; omega)]
   exact f1
  ·cases hf
theorem mapM_all {α β : Type} {f : α → Option β} {l : List α} {l' : List β} (h : l.mapM f = some l') {i : Nat} {x : α} (hx : l[i]? = some x) : ∃ y, l'[i]? = some y ∧ f x = some y := by
 obtain ⟨h1, h2⟩ := mapM_some h
 have hi : i < l'.length := h1 ▸ (List.getElem?_eq_some_iff.1 hx).1
 exact ⟨l'[i], by simp, h2 i x _ hx (by simp)⟩
theorem cOk_cells {m : MV} {v : Value} (hv : V E w m v) (hm : m.cOk = true) : Vs E w m.cells v.cells.toList :=
 hv.cells (fun u e => by rw [e] at hm; simp [MV.cOk] at hm) (fun e => by rw [e] at hm; simp [MV.cOk] at hm)
theorem eff_build {t : TypeId} {parts : Array (Nat × Operand)} {parts' : List (Nat × Nat × MX)} {z : List MV} {pl : Nat → Option (Nat × Nat)} {v : MV} {h' : MHeap} {O : Oracle} (ho : o.op = .build t parts) (hpl : placesOf P t = some pl)
  (hz : tzero P t = some (.agg z)) (hp : parts.toList.mapM (fun p => (pl p.1).bind fun x => (cX p.2).bind fun y => some (x.1, x.2, y)) = some parts') (hs : Slots E w s a)
  (he : evO lk O s h (.build z parts') = some (v, h')) : h' = h ∧ Pure P o a w E v := by
 simp only [evO] at he
 split at he
 case h_2 => cases he
 rename_i cs hf
 split at he
 case isFalse => cases he
 rename_i hall
 simp only [Option.some.injEq, Prod.mk.injEq] at he
 obtain ⟨rfl, rfl⟩ := he
 refine ⟨rfl, ?_⟩
 unfold tzero at hz
 rw [Option.map_eq_some_iff] at hz
 obtain ⟨zv, hzv, hz⟩ := hz
 obtain ⟨inf, hinf, hzero⟩ := Option.bind_eq_some_iff.1 hzv
 have hzz : ∃ zs, zv = .agg zs ∧ z = zs.toList.map .lit := by
  cases zv <;> simp [ofV] at hz
  exact ⟨_, rfl, hz.symm⟩
 obtain ⟨zs, rfl, rfl⟩ := hzz
 have hms : Vs E w (zs.toList.map .lit) zs.toList := ⟨by simp, fun i c v hc hv => by rw [List.getElem?_map, hv] at hc; cases hc; exact .lit v⟩
 obtain ⟨hl, -⟩ := mapM_some hp
 obtain ⟨cs', k1, k2⟩ := fill_m (place := pl) (parts := (parts.map fun p => (p.1, a.eval p.2)).toList) hms (by simpa using hl) (fun i p m hp' hm => by
  rw [Array.toList_map, List.getElem?_map, Option.map_eq_some_iff] at hp'
  obtain ⟨q, hq, rfl⟩ := hp'
  rw [List.getElem?_map, Option.map_eq_some_iff] at hm
  obtain ⟨q', hq', rfl⟩ := hm
  obtain ⟨y, hy, hfy⟩ := mapM_all hp hq
  rw [hq'] at hy
  cases hy
  simp only [Option.bind_eq_some_iff, Option.some.injEq] at hfy
  obtain ⟨⟨off, n⟩, h1, x', h2, rfl⟩ := hfy
  have h3 := List.all_eq_true.1 hall _ (List.mem_of_getElem? hq')
  simp only [Bool.and_eq_true, beq_iff_eq] at h3
  dsimp only
  rw [h3.1]
  exact ⟨h1, cOk_cells (hs.x h2) h3.2⟩) hf
 have hb : P.built t (parts.map fun p => (p.1, a.eval p.2)).toList = some cs' := by
  unfold placesOf at hpl
  unfold Program.built
  rw [hinf]
  split at hpl
  ·rename_i fs hu
   rw [Option.map_eq_some_iff] at hpl
   obtain ⟨places, hpls, rfl⟩ := hpl
   simp only [hu, hzero, hpls, Value.cells]
   exact k1
  ·rename_i n e hu
   rw [Option.map_eq_some_iff] at hpl
   obtain ⟨ie, hie, rfl⟩ := hpl
   simp only [hu, hzero, hie, Value.cells]
   exact k1
  ·cases hpl
 refine ⟨.agg cs', ?_, ?_⟩
 ·have := run_build (P := P) w t (parts.map fun p => (p.1, a.eval p.2)) cs' hb
  simp [execOp, ho, this]
 ·have := V.agg (E := E) (w := w) cs cs'.toList k2.1 k2.2
  simpa using this
theorem fill_e {sz : Nat} : ∀ {parts : List (Nat × Value)} {mparts : List (Nat × MV)} {es es' : List MV} {cs : Array Value}, (∀ e ∈ es, e.cells.length = sz) → Vs E w (flat es) cs.toList → parts.length = mparts.length →
  (∀ (i : Nat) p m, parts[i]? = some p → mparts[i]? = some m → p.1 = m.1 ∧ V E w m.2 p.2) → setAtM es sz mparts = some es' →
  ∃ cs', Instr.fill (fun i => some (i * sz, sz)) cs parts = some cs' ∧ Vs E w (flat es') cs'.toList ∧ (∀ e ∈ es', e.cells.length = sz) ∧ es'.length = es.length
 | [], [], es, es', cs, hes, hms, _, _, hf => by simp [setAtM] at hf; subst hf; exact ⟨cs, rfl, hms, hes, rfl⟩
 | p :: parts, m :: mparts, es, es', cs, hes, hms, hl, hp, hf => by
  obtain ⟨i, v⟩ := p
  obtain ⟨j, vm⟩ := m
  obtain ⟨h1, h2⟩ := hp 0 _ _ rfl rfl
  dsimp only at h1 h2
  subst h1
  simp only [setAtM] at hf
  split at hf
  ·rename_i hle
   obtain ⟨hi, hvl, hok⟩ := hle
   have hv := cOk_cells h2 hok
   have hsz : v.cells.size = sz := by have := hv.1; rw [hvl] at this; simpa using this.symm
   have hcs : cs.size = es.length * sz := by have := hms.1; rw [flat_len hes] at this; simpa using this.symm
   have hle : i * sz + sz ≤ es.length * sz := by rw [← Nat.succ_mul]; exact Nat.mul_le_mul_right _ hi
   have hset : ∀ e ∈ es.set i vm, e.cells.length = sz := fun e he => by
    rcases List.mem_or_eq_of_mem_set he with h | h
    ·exact hes e h
    ·rw [h]; exact hvl
   have hsp : splice (flat es) (i * sz) vm.cells = flat (es.set i vm) := by
    apply List.ext_getElem?
    intro k
    rw [splice_at (by rw [flat_len hes, hvl]; exact hle)]
    rcases hkc : (flat (es.set i vm))[k]? with _ | c
    ·have : (flat (es.set i vm)).length ≤ k := List.getElem?_eq_none_iff.1 hkc
     rw [flat_len hset, List.length_set] at this
     rw [if_neg (by rw [hvl]; omega), List.getElem?_eq_none (by rw [flat_len hes]; exact this)]
    ·obtain ⟨i2, j2, e2, rfl, hj2, he2, hc2⟩ := (flat_iff hset).1 hkc
     by_cases e : i2 = i
     ·subst e
      rw [List.getElem?_set, if_pos rfl, if_pos hi] at he2
      cases he2
      rw [if_pos (by rw [hvl]; omega), show i2 * sz + j2 - i2 * sz = j2 by omega]
      exact hc2
     ·rw [List.getElem?_set_ne (fun e' => e e'.symm)] at he2
      rw [if_neg (by
       rw [hvl]
       rcases Nat.lt_or_gt_of_ne e with hlt | hgt
       ·have : (i2 + 1) * sz ≤ i * sz := Nat.mul_le_mul_right _ hlt
        rw [Nat.succ_mul] at this
        omega
       ·have : (i + 1) * sz ≤ i2 * sz := Nat.mul_le_mul_right _ hgt
        rw [Nat.succ_mul] at this
        omega)]
      exact (flat_iff hes).2 ⟨i2, j2, e2, rfl, hj2, he2, hc2⟩
   have hms' := fold_part (off := i * sz) hms hv (by rw [flat_len hes, hvl]; exact hle)
   rw [hsp] at hms'
   obtain ⟨cs', f1, f2, f3, f4⟩ := fill_e hset hms' (by simpa using hl) (fun i p m hp' hm' => hp (i + 1) p m (by simpa using hp') (by simpa using hm')) hf
   refine ⟨cs', ?_, f2, f3, by rw [f4, List.length_set]⟩
   unfold Instr.fill
   simp only
   rw [if_neg (by simp [hsz, hcs]; omega)]
   exact f1
  ·cases hf
theorem made_rep {z : MV} {zv : Value} {sz n : Nat} (hz : Vs E w z.cells zv.cells.toList) (hl : z.cells.length = sz) : Vs E w (flat (List.replicate n z)) (madeCells zv.cells (n * sz)).toList := by
 have hes : ∀ e ∈ List.replicate n z, e.cells.length = sz := fun e he => by rw [(List.mem_replicate.1 he).2]; exact hl
 have hzs : zv.cells.size = sz := by have := hz.1; rw [hl] at this; simpa using this.symm
 refine ⟨by rw [flat_len hes]; simp [madeCells], fun k c v hc hv => ?_⟩
 obtain ⟨i, j, e, rfl, hj, he, hcj⟩ := (flat_iff hes).1 hc
 obtain rfl : e = z := by
  have := List.mem_of_getElem? he
  exact (List.mem_replicate.1 this).2
 have hi : i < n := by have := (List.getElem?_eq_some_iff.1 he).1; simpa using this
 have hlt : i * sz + j < n * sz := by
  have : (i + 1) * sz ≤ n * sz := Nat.mul_le_mul_right _ hi
  rw [Nat.succ_mul] at this; omega
 have hmod : (i * sz + j) % sz = j := by rw [Nat.mul_comm, Nat.mul_add_mod, Nat.mod_eq_of_lt hj]
 simp only [madeCells, Array.toList_map, Array.toList_range, List.getElem?_map, List.getElem?_range hlt, Option.map_some, Option.some.injEq] at hv
 rw [hzs, hmod] at hv
 have hjl : j < zv.cells.size := hzs ▸ hj
 refine hz.2 j c v hcj ?_
 rw [← hv, Array.getElem?_toList]
 simp [hjl]
theorem eff_bsl {t e : TypeId} {len sz : Nat} {parts : Array (Nat × Operand)} {parts' : List (Nat × MX)} {z v : MV} {h' : MHeap} {O : Oracle} (ho : o.op = .buildSlice t len parts) (ht : telem P t = some e) (hsz : tsz P e = some sz) (hz : tzero P e = some z)
  (hsmall : len * sz ≤ 1000000) (hpos : 0 < sz) (hzl : z.cells.length = sz) (hok : z.cOk = true) (hp : parts.toList.mapM (fun p => (cX p.2).bind fun y => some (p.1, y)) = some parts') (hs : Slots E w s a) (hr : HRel E h w)
  (he : evO lk O s h (.bsl z sz len parts') = some (v, h')) : Eff lk P o a w E v h' := by
 simp only [evO] at he
 split at he
 case h_2 => cases he
 rename_i es hf
 simp only [Option.some.injEq, Prod.mk.injEq] at he
 obtain ⟨rfl, rfl⟩ := he
 unfold telem at ht
 split at ht
 case h_2 => cases ht
 rename_i e' hu
 cases ht
 unfold tsz at hsz
 rw [Option.map_eq_some_iff] at hsz
 obtain ⟨ie, hie, rfl⟩ := hsz
 unfold tzero at hz
 rw [Option.map_eq_some_iff] at hz
 obtain ⟨zv, hzv, rfl⟩ := hz
 obtain ⟨ie', hie', hzero⟩ := Option.bind_eq_some_iff.1 hzv
 rw [hie] at hie'
 cases hie'
 obtain ⟨hl, -⟩ := mapM_some hp
 have hrep : ∀ x ∈ List.replicate len (ofV zv), x.cells.length = ie.size := fun x hx => by rw [(List.mem_replicate.1 hx).2]; exact hzl
 obtain ⟨cs', k1, k2, k3, k4⟩ := fill_e (E := E) (w := w) (parts := (parts.map fun p => (p.1, a.eval p.2)).toList) hrep (made_rep (n := len) (ofV_ok hok) hzl) (by simpa using hl) (fun i p m hp' hm => by
  rw [Array.toList_map, List.getElem?_map, Option.map_eq_some_iff] at hp'
  obtain ⟨q, hq, rfl⟩ := hp'
  rw [List.getElem?_map, Option.map_eq_some_iff] at hm
  obtain ⟨q', hq', rfl⟩ := hm
  obtain ⟨y, hy, hfy⟩ := mapM_all hp hq
  rw [hq'] at hy
  cases hy
  simp only [Option.bind_eq_some_iff, Option.some.injEq] at hfy
  obtain ⟨x', h2, rfl⟩ := hfy
  exact ⟨rfl, hs.x h2⟩) hf
 rw [List.length_replicate] at k4
 obtain ⟨r1, r2⟩ := hr.addBlock (Below.refl _ w) (es := es) (sz := ie.size) false cs' e k3 k2
 rw [k4] at r1 r2
 refine ⟨.slice (some ⟨w.heap.size, 0, none⟩) len len, _, _, .inl ?_, arr_put (Nat.le_refl _), r1, r2⟩
 by_cases h0 : len * ie.size = 0
 ·obtain rfl : len = 0 := by
   rcases Nat.mul_eq_zero.1 h0 with h | h
   ·exact h
   ·omega
  have hr0 : Array.range 0 = #[] := rfl
  simp [madeCells, hr0] at k1
  simp [execOp, ho, Instr.buildSlice, run_underlying hu, sizeOf, typeInfo, hie, newRow, hr0, k1]
 ·have := run_buildSlice (P := P) w t e len (parts.map fun (p : Nat × Operand) => (p.1, a.eval p.2)) cs' ie zv hu hie hzero (by omega) h0 (by unfold madeCells at k1; exact k1)
  simp [execOp, ho, this]
theorem eff_mks {t e : TypeId} {ie : TypeInfo} {l c : Operand} {l' : MX} {z v : MV} {h' : MHeap} {O : Oracle} (ho : o.op = .makeSlice t l c) (ht : telem P t = some e) (hie : P.info? e = some ie) (hlc : sameX l c = true) (hz : tzero P e = some z)
  (hby : ie.bytes ≤ 100000) (_hpos : 0 < ie.size) (hzl : z.cells.length = ie.size) (hok : z.cOk = true) (hl : cX l = some l') (hs : Slots E w s a) (hr : HRel E h w)
  (he : evO lk O s h (.mks z l') = some (v, h')) : Eff lk P o a w E v h' := by
 have h1 := hs.x hl
 simp only [evO] at he
 split at he
 case h_2 => cases he
 rename_i n hn
 split at he
 case isFalse => cases he
 rename_i hb
 simp only [Option.some.injEq, Prod.mk.injEq] at he
 obtain ⟨rfl, rfl⟩ := he
 rw [hn] at h1
 have hv := h1.lit_eq
 have hc : a.eval c = a.eval l := by
  unfold sameX at hlc
  split at hlc
  ·simp at hlc; subst hlc; rfl
  ·simp at hlc; subst hlc; rfl
  ·cases hlc
 unfold telem at ht
 split at ht
 case h_2 => cases ht
 rename_i e' hu
 cases ht
 unfold tzero at hz
 rw [Option.map_eq_some_iff] at hz
 obtain ⟨zv, hzv, rfl⟩ := hz
 obtain ⟨ie', hie', hzero⟩ := Option.bind_eq_some_iff.1 hzv
 rw [hie] at hie'
 cases hie'
 have hbytes : (ie.bytes : Int) * n ≤ 281474976710656 := by
  have : (ie.bytes : Int) * n ≤ 100000 * 1000000 := Int.mul_le_mul (by omega) hb.2 hb.1 (by omega)
  omega
 have hrun := run_make (P := P) w t e ie zv hu hie hzero .i64 .i64 n n hb.1 (Int.le_refl _) hbytes (by omega)
 have hrep : ∀ x ∈ List.replicate n.toNat (ofV zv), x.cells.length = ie.size := fun x hx => by rw [(List.mem_replicate.1 hx).2]; exact hzl
 obtain ⟨r1, r2⟩ := hr.addBlock (Below.refl _ w) (es := List.replicate n.toNat (ofV zv)) (sz := ie.size) false (madeCells zv.cells (n.toNat * ie.size)) e hrep (made_rep (ofV_ok hok) hzl)
 rw [List.length_replicate] at r1 r2
 rw [hzl]
 refine ⟨.slice (some ⟨w.heap.size, 0, none⟩) n.toNat n.toNat, _, _, .inl ?_, arr_put (Nat.le_refl _), r1, r2⟩
 simp [execOp, ho, hv, hc, hrun]
end
end Go.Proofs.YtnmgpbihknjdjaaDoor

/- Strings as bytes: what the conversion lays. -/
namespace Go.Proofs.YtnmgpbihknjdjaaDoor
open Go.RowKit
def byteV (b : UInt8) : Value := Value.int .u8 b.toNat
theorem shape_new (w : World) (cs : Array Value) (e : TypeId) : (w.alloc (.cells cs e)).shape? w.heap.size = some (e, cs.size) := by
 unfold World.shape?
 rw [World.alloc_heap_new]
theorem run_s2b (P : Program) (w : World) (e : TypeId) (s : ByteArray) : ∃ cap w', (Conv.stringToBytes e s).run P w = .ok (.slice (some ⟨w.heap.size, 0, none⟩) s.size cap) w' ∧ s.size ≤ cap ∧ Below w.heap.size w w' ∧
  ∃ fz, w'.heap[w.heap.size]? = some (.cells (s.data.map byteV ++ Array.replicate (cap - s.size) (Value.int .u8 0)) e fz) := by
 obtain ⟨cap, hc⟩ : ∃ cap, cap = (Question.appendCap s.size 0 e).cut (w.tape w.drawn (.appendCap s.size 0 e)) := ⟨_, rfl⟩
 have hle : s.size ≤ cap := by rw [hc]; simp only [Question.cut]; omega
 obtain ⟨cs, hcs⟩ : ∃ cs, cs = s.data.map byteV ++ Array.replicate (cap - s.size) (Value.int .u8 0) := ⟨_, rfl⟩
 have hsh : (w.drew.alloc (.cells cs e)).shape? w.heap.size = some (e, cs.size) := shape_new w.drew cs e
 have hrun : (Conv.stringToBytes e s).run P w = .ok (.slice (some ⟨w.heap.size, 0, none⟩) s.size cap) ((w.drew.alloc (.cells cs e)).freeze ⟨w.heap.size, cs.size, none⟩ 1) := by
  unfold Conv.stringToBytes
  simp only [Sem.run_bind, run_choose_drew, Question.forced, Bool.false_eq_true, if_false, Result.andThen_ok, ← hc]
  have e1 : (s.data.map fun b => Value.int .u8 (b.toNat : Int)) ++ Array.replicate (cap - s.size) (Value.int .u8 0) = cs := hcs.symm
  simp only [e1]
  simp [newRow, markStringish, hsh]
 refine ⟨cap, _, hrun, hle, ?_, ?_⟩
 ·exact Go.Lib.below_freeze (((Below.refl _ w).drew).alloc (Nat.le_refl _) _) (Nat.le_refl _) _
 ·have hnew : (w.drew.alloc (.cells cs e)).heap[w.heap.size]? = some (.cells cs e) := World.alloc_heap_new w.drew _
  rw [← hcs]
  unfold World.freeze
  simp only [Nat.one_ne_zero, if_false, Array.getElem?_modify, if_true, hnew, Option.map_some]
  exact ⟨_, rfl⟩
theorem HRel.addS {lk : Nat → Bool} {E : Env} {h : MHeap} {w w' : World} (hr : HRel E h w) (hb : Below w.heap.size w w') (hlt : w.heap.size < w'.heap.size) :
  HRel { E with S := fun b => E.S b ∨ b = w.heap.size } h w' ∧ Ext lk E w { E with S := fun b => E.S b ∨ b = w.heap.size } w' := by
 have hx : Ext lk E w { E with S := fun b => E.S b ∨ b = w.heap.size } w' :=
  { os := hb.os, tape := hb.tape, output := hb.output, size := hb.size, keep := fun k hk _ => hb.block k hk, S := fun b h => .inl h, K := fun id h => h, old := fun id _ => ⟨Nat.le_refl _, fun _ => ⟨rfl, rfl, rfl, rfl, rfl, rfl⟩⟩, lock := fun _ _ _ => rfl, src := fun id hk hc => .inl ⟨hk, hc, rfl⟩, top := rfl, srcK := fun id h => .inl h, yl := rfl, srcS := fun b h => h.imp_right fun e => .inr (Nat.le_of_eq e.symm) }
 refine ⟨⟨hr.klt, hr.top, fun id hk => ?_, hr.inj, fun id hk hc hS => ?_, fun b hS => ?_, fun p hp => (hr.tab p hp).ext hr hx⟩, hx⟩
 ·obtain ⟨es, a1, a2, a3, a4, a5⟩ := hr.obj id hk
  refine ⟨es, a1, a2, a3, a4, fun hc => ?_⟩
  obtain ⟨arr, t, b1, b2, b3⟩ := a5 hc
  refine ⟨arr, t, ?_, b2, fun k c hkc => ?_⟩
  ·rw [hb.block _ (hr.lt hk hc)]; exact b1
  ·obtain ⟨v, c1, c2⟩ := b3 k c hkc
   exact ⟨v, c1, c2.ext hr hx⟩
 ·rcases hS with hS | hS
  ·exact hr.sep id hk hc hS
  ·have h1 := hr.lt (id := id) hk hc
   have h2 : E.ρ id = w.heap.size := hS
   omega
 ·rcases hS with hS | hS
  ·exact Nat.lt_of_lt_of_le (hr.slt b hS) hb.size
  ·rw [hS]; exact hlt
section
variable {lk : Nat → Bool} {P : Program} {w : World} {E : Env} {o : Oper} {a : Act} {s : List MV} {h : MHeap}
theorem eff_s2b {src t e : TypeId} {x : Operand} {x' : MX} {v : MV} {h' : MHeap} {O : Oracle} (ho : o.op = .convert src t x) (hsrc : P.underlying src = some .string) (ht : P.underlying t = some (.slice e)) (he8 : P.underlying e = some (.int .u8)) (hx : cX x = some x') (hs : Slots E w s a) (hr : HRel E h w)
  (he : evO lk O s h (.s2b x') = some (v, h')) : Eff lk P o a w E v h' := by
 have h1 := hs.x hx
 simp only [evO] at he
 split at he
 case h_2 => cases he
 rename_i b hb
 simp only [Option.some.injEq, Prod.mk.injEq] at he
 obtain ⟨rfl, rfl⟩ := he
 rw [hb] at h1
 have h2 := h1.lit_eq
 obtain ⟨cap, w', hrun, hle, hbel, fz, hnew⟩ := run_s2b P w e b
 have hlt : w.heap.size < w'.heap.size := (Array.getElem?_eq_some_iff.1 hnew).1
 obtain ⟨r1, r2⟩ := hr.addS (lk := lk) hbel hlt
 refine ⟨.slice (some ⟨w.heap.size, 0, none⟩) b.size cap, w', _, .inl (by simp [execOp, ho, h2, convert, run_underlying hsrc, run_underlying ht, run_underlying he8, hrun]), ?_, r1, r2⟩
 have hf : flat (b.data.toList.map fun c => MV.lit (.int .u8 c.toNat)) = b.data.toList.map fun c => MV.lit (.int .u8 c.toNat) := by
  unfold flat
  induction b.data.toList with
  | nil => rfl
  | cons c l ih => simp only [List.map_cons, List.flatMap_cons, ih]; rfl
 have hlen : (b.data.toList.map fun c => MV.lit (.int .u8 c.toNat)).length = b.size := by rw [List.length_map, Array.length_toList]; rfl
 have := V.sl (E := { E with S := fun b => E.S b ∨ b = w.heap.size }) (w := w') (b.data.toList.map fun c => MV.lit (.int .u8 c.toNat)) (b.data.toList.map byteV) (some ⟨w.heap.size, 0, none⟩) cap 1 (by rw [hlen]; exact hle) (fun m hm => by
   obtain ⟨c, _, rfl⟩ := List.mem_map.1 hm; rfl) (by rw [hf]; simp) (fun i c u hc hu => by
   rw [hf, List.getElem?_map, Option.map_eq_some_iff] at hc
   obtain ⟨d, hd, rfl⟩ := hc
   rw [List.getElem?_map, hd] at hu
   simp only [Option.map_some, Option.some.injEq] at hu
   subst hu
   exact .lit _) fun _ => ⟨w.heap.size, 0, rfl, .inr rfl, fun i u hu => by
    rw [Nat.zero_add]
    have hi := (List.getElem?_eq_some_iff.1 hu).1
    simp only [List.length_map, Array.length_toList] at hi
    rw [List.getElem?_map, Option.map_eq_some_iff] at hu
    obtain ⟨c, hc, rfl⟩ := hu
    have hc' : b.data[i]? = some c := by rw [← Array.getElem?_toList]; exact hc
    rw [cell_of_row w' w.heap.size i _ e fz hnew, Array.getElem?_append_left (by rw [Array.size_map]; exact hi), Array.getElem?_map, hc']
    rfl⟩
 rw [hlen] at this
 exact this
end
end Go.Proofs.YtnmgpbihknjdjaaDoor
