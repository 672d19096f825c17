/- Ranges over a function: the laws in the form in which this seat uses them. -/
import Derived.Test.YtgjpdjihjphbdaaCalmIn
namespace Go.Proofs.Ytgjpdjihjphbdaa
open Go.RowKit

/-- W' is W: the streams, all blocks below B, and all blocks of cells. -/
structure CK (B : Nat) (W W' : World) : Prop where
  os : W'.os = W.os
  tape : W'.tape = W.tape
  output : W'.output = W.output
  size : W.heap.size ≤ W'.heap.size
  low : ∀ k, k < B → k < W.heap.size → W'.heap[k]? = W.heap[k]?
  cells : ∀ (k : Nat) (o : Obj), W.heap[k]? = some o → o.isCells = true → W'.heap[k]? = some o

theorem CK.refl (B : Nat) (W : World) : CK B W W := ⟨rfl, rfl, rfl, Nat.le_refl _, fun _ _ _ => rfl, fun _ _ h _ => h⟩
theorem CK.trans {B : Nat} {U V Z : World} (h : CK B U V) (k : CK B V Z) : CK B U Z :=
  ⟨k.os.trans h.os, k.tape.trans h.tape, k.output.trans h.output, Nat.le_trans h.size k.size, fun i hi hs => (k.low i hi (Nat.lt_of_lt_of_le hs h.size)).trans (h.low i hi hs), fun i o hi ho => k.cells i o (h.cells i o hi ho) ho⟩
theorem CK.mono {B B' : Nat} {U V : World} (h : CK B U V) (hB : B' ≤ B) : CK B' U V := ⟨h.os, h.tape, h.output, h.size, fun k hk => h.low k (Nat.lt_of_lt_of_le hk hB), h.cells⟩
theorem CK.below {B : Nat} {U V : World} (h : CK B U V) (hB : B ≤ U.heap.size) : Below B U V := ⟨h.os, h.tape, h.output, h.size, fun k hk => h.low k hk (Nat.lt_of_lt_of_le hk hB)⟩
theorem CK.of_below {B : Nat} {U V : World} (h : Below U.heap.size U V) : CK B U V :=
  ⟨h.os, h.tape, h.output, h.size, fun k _ hs => h.block k hs, fun k _ hk _ => (h.block k (Array.getElem?_eq_some_iff.1 hk).1).trans hk⟩
theorem CK.putObj {B : Nat} (W : World) (l : Nat) (o o' : Obj) (hl : W.heap[l]? = some o) (ho : o.isCells = false) (hB : B ≤ l) : CK B W (W.putObj l o') := by
  have hg := grownBy_putObj' W l o'
  refine ⟨hg.os, hg.tape, hg.output, hg.size, fun k hk hs => hg.block k hs (fun e => by cases e; omega), fun k x hk hx => ?_⟩
  have hs := (Array.getElem?_eq_some_iff.1 hk).1
  refine (hg.block k hs (fun e => ?_)).trans hk
  cases e
  rw [hl] at hk
  cases hk
  rw [ho] at hx
  cases hx

theorem block_isCells {W : World} {p : Addr} {v : Value} (h : W.cell? p = some v) : ∃ o, W.heap[p.block]? = some o ∧ o.isCells = true := by
  unfold World.cell? at h
  cases hb : W.heap[p.block]? with
  | none => rw [hb] at h; simp at h
  | some o =>
    refine ⟨o, rfl, ?_⟩
    rw [hb] at h
    cases o <;> first | rfl | simp at h
theorem CK.cell {B : Nat} {W W' : World} (h : CK B W W') {p : Addr} {v : Value} (hc : W.cell? p = some v) : W'.cell? p = some v := by
  obtain ⟨o, ho, hx⟩ := block_isCells hc
  exact (World.cell?_of_block (w := W) ((h.cells _ o ho hx).trans ho.symm)).trans hc
theorem CK.frozen {B : Nat} {W W' : World} (h : CK B W W') {p : Addr} {v : Value} (hc : W.cell? p = some v) : W'.frozen? p = W.frozen? p := by
  obtain ⟨o, ho, hx⟩ := block_isCells hc
  exact World.frozen?_of_block (w := W) ((h.cells _ o ho hx).trans ho.symm)

/-- The blocks of S are as they were. -/
structure SameS (S : Nat → Prop) (W W' : World) : Prop where
  os : W'.os = W.os
  tape : W'.tape = W.tape
  output : W'.output = W.output
  size : W.heap.size ≤ W'.heap.size
  block : ∀ k, S k → W'.heap[k]? = W.heap[k]?
theorem SameS.refl (S : Nat → Prop) (W : World) : SameS S W W := ⟨rfl, rfl, rfl, Nat.le_refl _, fun _ _ => rfl⟩
theorem SameS.trans {S : Nat → Prop} {U V Z : World} (h : SameS S U V) (k : SameS S V Z) : SameS S U Z :=
  ⟨k.os.trans h.os, k.tape.trans h.tape, k.output.trans h.output, Nat.le_trans h.size k.size, fun i hi => (k.block i hi).trans (h.block i hi)⟩
theorem SameS.cell {S : Nat → Prop} {W W' : World} (h : SameS S W W') {p : Addr} (hp : S p.block) : W'.cell? p = W.cell? p := World.cell?_of_block (w := W) (h.block _ hp)
theorem SameS.of_below {S : Nat → Prop} {W W' : World} (h : Below W.heap.size W W') (hn : ∀ k, S k → k < W.heap.size) : SameS S W W' := ⟨h.os, h.tape, h.output, h.size, fun k hk => h.block k (hn k hk)⟩
theorem SameS.putObj {S : Nat → Prop} {B : Nat} (hn : ∀ k, S k → k < B) (W : World) (l : Nat) (o o' : Obj) (hl : B ≤ l) (_ : W.heap[l]? = some o) (_ : o.isCells = false) (_ : o.isWalk = false) : SameS S W (W.putObj l o') := by
  have hg := grownBy_putObj' W l o'
  refine ⟨hg.os, hg.tape, hg.output, hg.size, fun k hk => ?_⟩
  exact World.putObj_heap_other (fun e => by have := hn k hk; omega)

/-- What a loop's invariant may speak of. -/
def Stable (B : Nat) (R : World → Prop) : Prop := ∀ W W', R W → CK B W W' → R W'
theorem Stable.ownFrom {α : Type} {B : Nat} {I : List α → World → Prop} (h : ∀ pre, Stable B (I pre)) : OwnFrom B I := fun pre W W' row hs hg hr =>
  h pre W W' hs ⟨hg.os, hg.tape, hg.output, hg.size, fun k hk hs' => hg.block k hs' (fun e => by have := (hr k e.symm).1; omega), fun k o hk ho => by
    refine (hg.block k (Array.getElem?_eq_some_iff.1 hk).1 (fun e => ?_)).trans hk
    obtain ⟨_, o', ho', hx⟩ := hr k e.symm
    rw [hk] at ho'; cases ho'; rw [ho] at hx; cases hx⟩
theorem Stable.and {B : Nat} {R S : World → Prop} (h : Stable B R) (k : Stable B S) : Stable B (fun W => R W ∧ S W) := fun W W' hs hc => ⟨h W W' hs.1 hc, k W W' hs.2 hc⟩
theorem Stable.ex {β : Type} {B : Nat} {R : β → World → Prop} (h : ∀ b, Stable B (R b)) : Stable B (fun W => ∃ b, R b W) := fun W W' ⟨b, hs⟩ hc => ⟨b, h b W W' hs hc⟩
theorem Stable.pure {B : Nat} (p : Prop) : Stable B (fun _ => p) := fun _ _ h _ => h
theorem Stable.cell {B : Nat} (p : Addr) (v : Value) : Stable B (fun W => W.cell? p = some v) := fun _ _ h hc => hc.cell h
theorem Stable.below {B B' : Nat} {w : World} (hB : B' ≤ B) (hw : B' ≤ w.heap.size) : Stable B (fun W => Below B' w W) := fun _ _ h hc => h.trans ((hc.mono hB).below (Nat.le_trans hw h.size))
theorem Stable.le {B n : Nat} : Stable B (fun W => n ≤ W.heap.size) := fun _ _ h hc => Nat.le_trans h hc.size
theorem Stable.lt {B n : Nat} : Stable B (fun W => n < W.heap.size) := fun _ _ h hc => Nat.lt_of_lt_of_le h hc.size
theorem Stable.rowIs {B b t n : Nat} {f : Nat → Value} : Stable B (fun W => W.rowIs b t n f) := fun _ _ ⟨c, hb, hn, hc⟩ hk => ⟨c, hk.cells _ _ hb rfl, hn, hc⟩
theorem Stable.owns {B base e size n : Nat} {v : Value} {xs : List Value} : Stable B (fun W => W.ownsRow base e size v n xs) := fun _ _ h hk => by
  refine ⟨h.1, ?_⟩
  rcases h.2 with h2 | ⟨g, cap, cur, hv, hg, hh, r⟩
  · exact .inl h2
  · exact .inr ⟨g, cap, cur, hv, hg, hk.cells _ _ hh rfl, r⟩
theorem Stable.rd {B size n : Nat} {A : Option Addr} {xs : List Value} : Stable B (fun W => Rd W size A n xs) := fun _ _ h hk =>
  ⟨h.1, fun hn => by
    obtain ⟨b, off, e, hlt, hc⟩ := h.2 hn
    exact ⟨b, off, e, Nat.lt_of_lt_of_le hlt hk.size, fun j u hu => hk.cell (hc j u hu)⟩⟩
/-- A block of one cell, known whole. -/
def OneC (W : World) (b : Nat) (t : TypeId) (v : Value) : Prop := W.heap[b]? = some (.cells #[v] t (0, 0))
theorem OneC.cell {W : World} {b : Nat} {t : TypeId} {v : Value} (h : OneC W b t v) : W.cell? ⟨b, 0, none⟩ = some v := by
  rw [cell_of_row W b 0 _ t (0, 0) h]; rfl
theorem OneC.frozen {W : World} {b : Nat} {t : TypeId} {v : Value} (h : OneC W b t v) : W.frozen? ⟨b, 0, none⟩ = false := frozen_of_row W b 0 _ t h
theorem OneC.lt {W : World} {b : Nat} {t : TypeId} {v : Value} (h : OneC W b t v) : b < W.heap.size := (Array.getElem?_eq_some_iff.1 h).1
theorem OneC.below {W W' : World} {b : Nat} {t : TypeId} {v : Value} (h : OneC W b t v) (hb : Below W.heap.size W W') : OneC W' b t v := (hb.block b h.lt).trans h
theorem OneC.alloc {W : World} {b : Nat} {t : TypeId} {v : Value} (h : OneC W b t v) (o : Obj) : OneC (W.alloc o) b t v := (Below.heap_alloc W o b h.lt).trans h
theorem OneC.new (W : World) (t : TypeId) (v : Value) : OneC (W.alloc (.cells #[v] t)) W.heap.size t v := by unfold OneC; exact World.alloc_heap_new W _
theorem OneC.set {W : World} {b : Nat} {t : TypeId} {v : Value} (h : OneC W b t v) (u : Value) : OneC (W.setCell ⟨b, 0, none⟩ u) b t u := by
  unfold OneC at *
  simp [World.setCell, Array.getElem?_modify, h]
theorem OneC.other {W : World} {b : Nat} {t : TypeId} {v : Value} (h : OneC W b t v) {p : Addr} (hp : p.block ≠ b) (u : Value) : OneC (W.setCell p u) b t v := (Below.heap_setCell W p u b (fun e => hp e.symm)).trans h
theorem Stable.one {B b : Nat} {t : TypeId} {v : Value} : Stable B (fun W => OneC W b t v) := fun _ _ h hk => hk.cells _ _ h rfl

/-- The marks that loops have left: nothing is deferred behind them. -/
def Marks (B : Nat) : List Deferred → World → Prop
  | [], _ => True
  | d :: ds, W => (∃ D, d = { target := .collected D, args := #[] } ∧ B ≤ D ∧ W.heap[D]? = some (.deferred (some [])) ∧ ∀ d' ∈ ds, d' ≠ d) ∧ Marks B ds W
theorem Marks.keep {B : Nat} : ∀ {ds : List Deferred} {W W' : World}, Marks B ds W → (∀ D, ({ target := .collected D, args := #[] } : Deferred) ∈ ds → W.heap[D]? = some (.deferred (some [])) → W'.heap[D]? = some (.deferred (some []))) → Marks B ds W'
  | [], _, _, _, _ => trivial
  | d :: ds, W, W', ⟨⟨D, hd, hB, hD, hne⟩, hm⟩, hk => ⟨⟨D, hd, hB, hk D (by rw [hd]; exact List.mem_cons_self) hD, hne⟩, Marks.keep hm fun D' hD' h => hk D' (List.mem_cons_of_mem _ hD') h⟩
theorem Marks.at_ {B : Nat} : ∀ {ds : List Deferred} {W : World}, Marks B ds W → ∀ D, ({ target := .collected D, args := #[] } : Deferred) ∈ ds → W.heap[D]? = some (.deferred (some [])) ∧ B ≤ D
  | d :: ds, W, ⟨⟨D, hd, hB, hD, _⟩, hm⟩, D', h => by
    rcases List.mem_cons.1 h with e | h
    · rw [hd] at e; cases e; exact ⟨hD, hB⟩
    · exact Marks.at_ hm D' h

theorem leaves_marks {n : Nat} {P : Program} {fn : Func} {tmps : Array Value} {R : Ending → World → Prop} {v : Value} {B : Nat} : ∀ (ds : List Deferred) (W : World), Marks B ds W →
    (∀ W', CK B W W' → (results fn tmps).run P W' = .ok v W' ∧ R (.returned v) W') → LeavesInM Fence.wide n P fn tmps R ds .returning W
  | [], W, _, h => by
    obtain ⟨h1, h2⟩ := h W (CK.refl _ _)
    exact ⟨v, h1, h2⟩
  | d :: ds, W, ⟨⟨D, hd, hB, hD, hne⟩, hm⟩, h => by
    refine ⟨by simp, .inl ⟨D, W.putObj D (.deferred none), by rw [hd], run_takeDeferred hD, ?_⟩⟩
    have hck : CK B W (W.putObj D (.deferred none)) := CK.putObj W D _ _ hD rfl hB
    refine leaves_marks ds _ (hm.keep fun D' hD' hh => ?_) fun W' hk => h W' (hck.trans hk)
    refine (World.putObj_heap_other (fun e => ?_)).trans hh
    exact hne _ hD' (by rw [hd, e])

/-- A return behind loops. -/
theorem ret_marks {n : Nat} {P : Program} {fn : Func} {a : Act} {W : World} {R : Ending → World → Prop} {v : Value} {B : Nat} (hm : Marks B a.defers W)
    (h : ∀ W', CK B W W' → (results fn a.tmps).run P W' = .ok v W' ∧ R (.returned v) W') : bodyPostM Fence.wide n P fn R .ret a W := leaves_marks _ _ hm h

/-- What a round must leave: the blocks of S are as they were, and so are all blocks from B on that are no cells. -/
structure Kept (S : Nat → Prop) (B : Nat) (W W' : World) : Prop where
  keeps : KeepsFrom B W W'
  same : SameS S W W'
theorem Kept.refl (S : Nat → Prop) (B : Nat) (W : World) : Kept S B W W := ⟨KeepsFrom.refl _ _, SameS.refl _ _⟩
theorem Kept.trans {S : Nat → Prop} {B : Nat} {U V Z : World} (h : Kept S B U V) (k : Kept S B V Z) : Kept S B U Z := ⟨h.keeps.trans k.keeps, h.same.trans k.same⟩
theorem Kept.of_below {S : Nat → Prop} {B : Nat} {W W' : World} (h : Below W.heap.size W W') (hn : ∀ k, S k → k < W.heap.size) : Kept S B W W' :=
  ⟨⟨h.size, fun k _ _ hk _ => (h.block k (Array.getElem?_eq_some_iff.1 hk).1).trans hk⟩, h.os, h.tape, h.output, h.size, fun k hk => h.block k (hn k hk)⟩
theorem Kept.alloc {S : Nat → Prop} {B : Nat} (W : World) (hn : ∀ k, S k → k < W.heap.size) (o : Obj) : Kept S B W (W.alloc o) := Kept.of_below ((Below.refl _ W).alloc (Nat.le_refl _) o) hn
theorem Kept.setCell {S : Nat → Prop} {B : Nat} (W : World) {p : Addr} (hp : ¬ S p.block) (u : Value) : Kept S B W (W.setCell p u) :=
  ⟨(KeepsOthers.setCell W p u).from B, rfl, rfl, rfl, by simp [World.setCell], fun k hk => Below.heap_setCell W p u k (fun e => hp (e ▸ hk))⟩

/-- The exits of a round's body. -/
def roundPost {α : Type} (S : Nat → Prop) (B : Nat) (I : List α → World → Prop) (Ix : Code → List α → World → Prop) (xs : List α) (W : World) : Exit → Act → World → Prop
  | .normal, _, W' => Kept S B W W' ∧ I xs W'
  | .ret, _, W' => KeepsFrom B W W' ∧ Ix .ret xs W'
  | .exit id, _, W' => KeepsFrom B W W' ∧ Ix (.exit id) xs W'
  | .goto t, _, W' => KeepsFrom B W W' ∧ Ix (.goto t) xs W'
  | .panic _, _, _ => False
  | .outgrown, _, _ => False

theorem roundPost_own {α : Type} {S : Nat → Prop} {B M : Nat} {I : List α → World → Prop} {Ix : Code → List α → World → Prop} {xs : List α} {W : World} (hM : M ≤ W.heap.size) (e : Exit) (a : Act) (w : World) (h : roundPost S B I Ix xs W e a w) : ownPostG B (SameS S) (fun pre W => I pre W ∧ M ≤ W.heap.size) Ix xs W e a w := by
  cases e with
  | normal => exact ⟨h.1.keeps, h.1.same, h.2, Nat.le_trans hM h.1.same.size⟩
  | ret => exact h
  | exit id => exact h
  | goto t => exact h
  | panic c => exact h
  | outgrown => exact h

/-- Slots set, one after the other. -/
def setAll (t : Array Value) (l : List (Nat × Value)) : Array Value := l.foldl (fun t p => t.setIfInBounds p.1 p.2) t

theorem wpIn_gen {F : Fence} {n : Nat} {P : Program} {c : Code} {Q : Exit → Act → World → Prop} {a : Act} {w : World} (h : ∀ a0, a0 = a → c.wpIn F n P Q a0 w) : c.wpIn F n P Q a w := h a rfl

/-- A range over a function outside all rounds. -/
theorem range_out {α : Type} {P : Program} {m : Nat} {g : Operand} {ps : Array Tmp} {assign body : Code} {Q : Exit → Act → World → Prop} {a : Act} {w : World} {gf : Nat} {lb : Array Value} (hg : a.eval g = .func (.func gf) #[] lb)
    (eg : ∀ args w, (callFunc gf args).run P w = .ok (.enter gf args) w) {encs : α → Array Value} {S : Nat → Prop} {Sa Sp : List α → Prop} {N : Nat} {w0 : World}
    (hseq : ∀ n, 1 ≤ n → SeqStopsK Fence.wide n P gf lb encs (SameS S) Sa Sp N w0) (hb0 : Below w0.heap.size w0 w) (hn0 : ∀ k, S k → k < w.heap.size) (hps : ∀ x, (encs x).size = ps.size)
    (I : List α → World → Prop) (Ix : Code → List α → World → Prop) (hI : ∀ pre, Stable w.heap.size (I pre)) (hIx : ∀ c pre, Stable w.heap.size (Ix c pre)) (h0 : I [] w)
    {β : Type} (RA : α → β → World → Prop) (fx : α → β → List (Nat × Value)) (hRA : ∀ x b, Stable w.heap.size (RA x b))
    (hassign : ∀ (l : Nat) (pre : List α) (x : α) (W : World) (K : Act → World → Prop), I pre W → w.heap.size ≤ W.heap.size → (∀ b W', Kept S w.heap.size W W' → I pre W' → RA x b W' → K { tmps := setAll a.tmps (fx x b), defers := [] } W') →
      assign.wpIn (Fw (some l)) (m + 7) P (Exit.then K (fun _ _ _ => False)) { tmps := (ps.zip (encs x)).foldl (fun t (p, v) => t.setIfInBounds p v) a.tmps, defers := [] } W)
    (hbody : ∀ (l : Nat) (pre : List α) (x : α) (b : β) (W : World), w.heap.size ≤ l → (∃ r, W.heap[l]? = some (.loop r)) → I pre W → w.heap.size ≤ W.heap.size → RA x b W → pre.length < N → body.wpIn (Fw (some l)) (m + 7) P (roundPost S w.heap.size I Ix (pre ++ [x]) W) { tmps := setAll a.tmps (fx x b), defers := [] } W)
    (hdone : ∀ (D : Nat) (xs : List α) (W : World), w.heap.size ≤ D → Sa xs → I xs W → W.heap[D]? = some (.deferred (some [])) → Q .normal { a with defers := { target := .collected D, args := #[] } :: a.defers } W)
    (hstop : ∀ (D : Nat) (c : Code) (pre : List α) (W : World), w.heap.size ≤ D → Sp pre → Ix c pre W → W.heap[D]? = some (.deferred (some [])) → c.wpIn Fence.wide (m + 9) P Q { a with defers := { target := .collected D, args := #[] } :: a.defers } W) :
    (Code.rangeFunc g ps assign body).wpIn Fence.wide (m + 9) P Q a w :=
  wpIn_rangeFunc_ownH rfl (by omega) hg trivial eg (hseq _ (by omega)) (fun h k => h.trans k) (SameS.putObj hn0) hb0 hps (fun pre W => I pre W ∧ w.heap.size ≤ W.heap.size) Ix (Stable.ownFrom fun pre => (hI pre).and Stable.le) (fun c => Stable.ownFrom (hIx c)) ⟨h0, Nat.le_refl _⟩ (fun x a' W => ∃ b, RA x b W ∧ a' = { tmps := setAll a.tmps (fx x b), defers := [] })
    (fun x a' => fun _ W W' row hs hg hr => Stable.ownFrom (α := Unit) (I := fun _ W => ∃ b, RA x b W ∧ a' = { tmps := setAll a.tmps (fx x b), defers := [] }) (fun _ => Stable.ex fun b => (hRA x b).and (Stable.pure _)) [] W W' row hs hg hr)
    (fun l pre x W K hi hK => hassign l pre x W K hi.1 hi.2 fun b W' hk hi' hra => hK _ W' hk.keeps hk.same ⟨hi', Nat.le_trans hi.2 hk.same.size⟩ ⟨b, hra, rfl⟩)
    (fun l pre x a' W hl hr hi ⟨b, ha, ea⟩ hN => by subst ea; exact wpIn_mono (hbody l pre x b W hl hr hi.1 hi.2 ha hN) (fun e a w h => roundPost_own hi.2 e a w h))
    (fun D xs W hD hS hi hk => hdone D xs W hD hS hi.1 hk) hstop

/-- A range over a function within a round of loop l₀. -/
theorem range_in {α : Type} {P : Program} {m : Nat} {g : Operand} {ps : Array Tmp} {assign body : Code} {Q : Exit → Act → World → Prop} {a : Act} {w : World} {l₀ : Nat} (hl₀ : ∃ r, w.heap[l₀]? = some (.loop r)) {gf : Nat} {lb : Array Value} (hg : a.eval g = .func (.func gf) #[] lb)
    (eg : ∀ args w, (callFunc gf args).run P w = .ok (.enter gf args) w) {encs : α → Array Value} {S : Nat → Prop} {Sa Sp : List α → Prop} {N : Nat} {w0 : World}
    (hseq : ∀ n, 1 ≤ n → SeqStopsK Fence.wide n P gf lb encs (SameS S) Sa Sp N w0) (hb0 : Below w0.heap.size w0 w) (hn0 : ∀ k, S k → k < w.heap.size) (hps : ∀ x, (encs x).size = ps.size)
    (I : List α → World → Prop) (Ix : Code → List α → World → Prop) (hI : ∀ pre, Stable w.heap.size (I pre)) (hIx : ∀ c pre, Stable w.heap.size (Ix c pre)) (h0 : I [] w)
    {β : Type} (RA : α → β → World → Prop) (fx : α → β → List (Nat × Value)) (hRA : ∀ x b, Stable w.heap.size (RA x b))
    (hassign : ∀ (l : Nat) (pre : List α) (x : α) (W : World) (K : Act → World → Prop), I pre W → w.heap.size ≤ W.heap.size → (∀ b W', Kept S w.heap.size W W' → I pre W' → RA x b W' → K { tmps := setAll a.tmps (fx x b), defers := [] } W') →
      assign.wpIn (Fw (some l)) (m + 1) P (Exit.then K (fun _ _ _ => False)) { tmps := (ps.zip (encs x)).foldl (fun t (p, v) => t.setIfInBounds p v) a.tmps, defers := [] } W)
    (hbody : ∀ (l : Nat) (pre : List α) (x : α) (b : β) (W : World), w.heap.size ≤ l → (∃ r, W.heap[l]? = some (.loop r)) → I pre W → w.heap.size ≤ W.heap.size → RA x b W → pre.length < N → body.wpIn (Fw (some l)) (m + 1) P (roundPost S w.heap.size I Ix (pre ++ [x]) W) { tmps := setAll a.tmps (fx x b), defers := [] } W)
    (hdone : ∀ (xs : List α) (W : World), Sa xs → I xs W → w.heap.size ≤ W.heap.size → Q .normal a W)
    (hstop : ∀ (c : Code) (pre : List α) (W : World), Sp pre → Ix c pre W → c.wpIn (Fw (some l₀)) (m + 3) P Q a W) :
    (Code.rangeFunc g ps assign body).wpIn (Fw (some l₀)) (m + 3) P Q a w := by
  obtain ⟨r₀, hr₀⟩ := hl₀
  exact wpIn_rangeFunc_ownN (l₀ := l₀) rfl hr₀ (by omega) hg trivial eg ((hseq _ (by omega)).inRound l₀) (fun h k => h.trans k) (SameS.putObj hn0) hb0 hps (fun pre W => I pre W ∧ w.heap.size ≤ W.heap.size) Ix (Stable.ownFrom fun pre => (hI pre).and Stable.le) (fun c => Stable.ownFrom (hIx c)) ⟨h0, Nat.le_refl _⟩ (fun x a' W => ∃ b, RA x b W ∧ a' = { tmps := setAll a.tmps (fx x b), defers := [] })
    (fun x a' => fun _ W W' row hs hg hr => Stable.ownFrom (α := Unit) (I := fun _ W => ∃ b, RA x b W ∧ a' = { tmps := setAll a.tmps (fx x b), defers := [] }) (fun _ => Stable.ex fun b => (hRA x b).and (Stable.pure _)) [] W W' row hs hg hr)
    (fun l pre x W K hi hK => hassign l pre x W K hi.1 hi.2 fun b W' hk hi' hra => hK _ W' hk.keeps hk.same ⟨hi', Nat.le_trans hi.2 hk.same.size⟩ ⟨b, hra, rfl⟩)
    (fun l pre x a' W hl hr hi ⟨b, ha, ea⟩ hN => by subst ea; exact wpIn_mono (hbody l pre x b W hl hr hi.1 hi.2 ha hN) (fun e a w h => roundPost_own hi.2 e a w h))
    (fun xs W hS hi => hdone xs W hS hi.1 hi.2) hstop

end Go.Proofs.Ytgjpdjihjphbdaa
