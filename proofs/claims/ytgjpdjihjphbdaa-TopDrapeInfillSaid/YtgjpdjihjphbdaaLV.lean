/- Abstract values and their relation to memory: what a deterministic evaluation of the program's text computes with. -/
import Derived.Test.YtgjpdjihjphbdaaRangeLaw
/- Abstract values and their relation to memory: what a deterministic evaluation of the program's text computes with. -/
namespace Go.Proofs.Ytgjpdjihjphbdaa
open Go.RowKit

/-- Abstract values: known values, aggregates, slices and pointers to memory that is only read, and pointers and slices of objects that may be written. -/
inductive MV where
  | lit (v : Value)
  | agg (cs : List MV)
  | tup (vs : List MV)
  | sl (es : List MV)
  | rp (e : MV) (off : Nat)
  | ptr (id i off g : Nat)
  | arr (id i n g : Nat)
  | fn (f k : Nat) (caps : List MV)
  | junk
  | yld
instance : Inhabited MV := ⟨.junk⟩

def MV.cells : MV → List MV
  | .agg cs => cs
  | v => [v]
def flat (es : List MV) : List MV := es.flatMap MV.cells
/-- May be stored in one cell. -/
def MV.one : MV → Bool
  | .lit v => v.oneCell'
  | .agg _ | .tup _ | .junk | .yld => false
  | _ => true

/-- An object: how often it was appended to, whether it is the nil slice, its elements. -/
structure MObj where
  g : Nat
  nl : Bool
  sz : Nat
  es : List MV
abbrev MHeap := List MObj

/-- Where abstract objects lie. -/
structure Env where
  S : Nat → Prop
  K : Nat → Prop
  ρ : Nat → Nat
  bo : Nat → Nat
  cp : Nat → Nat
  sz : Nat → Nat
  gn : Nat → Nat
  ln : Nat → Nat
  nl : Nat → Bool
  top : Nat
  yl : Nat

inductive V (E : Env) (w : World) : MV → Value → Prop
  | junk (v : Value) : V E w .junk v
  | yld : V E w .yld (.func (.yield E.yl) #[] #[])
  | lit (v : Value) : V E w (.lit v) v
  | agg (cs : List MV) (vs : List Value) : cs.length = vs.length → (∀ (i : Nat) c v, cs[i]? = some c → vs[i]? = some v → V E w c v) → V E w (.agg cs) (.agg vs.toArray)
  | tup (cs : List MV) (vs : List Value) : cs.length = vs.length → (∀ (i : Nat) c v, cs[i]? = some c → vs[i]? = some v → V E w c v) → V E w (.tup cs) (.tuple vs.toArray)
  | sl (es : List MV) (vs : List Value) (A : Option Addr) (cap sz : Nat) : es.length ≤ cap → (∀ e ∈ es, e.cells.length = sz) → (flat es).length = vs.length → (∀ (i : Nat) c v, (flat es)[i]? = some c → vs[i]? = some v → V E w c v) →
      (0 < es.length → ∃ b off, A = some ⟨b, off, none⟩ ∧ E.S b ∧ ∀ (i : Nat) v, vs[i]? = some v → w.cell? ⟨b, off + i, none⟩ = some v) → V E w (.sl es) (.slice A es.length cap)
  | rp (e : MV) (off : Nat) (vs : List Value) (b o : Nat) : e.cells.length = vs.length → (∀ (i : Nat) c v, e.cells[i]? = some c → vs[i]? = some v → V E w c v) → E.S b → (∀ (i : Nat) v, vs[i]? = some v → w.cell? ⟨b, o + i, none⟩ = some v) →
      V E w (.rp e off) (.pointer (some ⟨b, o + off, none⟩))
  | ptr (id i off g b o : Nat) : E.K id → g ≤ E.gn id → (E.gn id = g → b = E.ρ id ∧ o = (E.bo id + i) * E.sz id + off ∧ i < E.ln id) → V E w (.ptr id i off g) (.pointer (some ⟨b, o, none⟩))
  | arr (id i n g : Nat) (A : Option Addr) (cap : Nat) : E.K id → g ≤ E.gn id → (E.gn id = g → i + n ≤ E.ln id ∧ n ≤ cap ∧ (E.nl id = true → A = none ∧ cap = 0) ∧ (E.nl id = false → A.isSome = true) ∧
      (0 < cap → A = some ⟨E.ρ id, (E.bo id + i) * E.sz id, none⟩ ∧ E.bo id + i + cap ≤ E.cp id)) → V E w (.arr id i n g) (.slice A n cap)
  | fn (f k : Nat) (cs : List MV) (vs : List Value) : cs.length = vs.length → (∀ (i : Nat) c v, cs[i]? = some c → vs[i]? = some v → V E w c v) → V E w (.fn f k cs) (.func (.func f) (vs.take k).toArray (vs.drop k).toArray)

/-- Lists of values, one by one. -/
def Vs (E : Env) (w : World) (cs : List MV) (vs : List Value) : Prop := cs.length = vs.length ∧ ∀ (i : Nat) c v, cs[i]? = some c → vs[i]? = some v → V E w c v

/-- The objects lie in memory. -/
structure HRel (E : Env) (H : MHeap) (w : World) : Prop where
  klt : ∀ id, E.K id → id < H.length
  top : E.top ≤ H.length
  obj : ∀ id, E.K id → ∃ es, H[id]? = some ⟨E.gn id, E.nl id, E.sz id, es⟩ ∧ E.ln id = es.length ∧ (∀ e ∈ es, e.cells.length = E.sz id) ∧ E.bo id + es.length ≤ E.cp id ∧
    (0 < E.cp id → ∃ (arr : Array Value) (t : TypeId), w.heap[E.ρ id]? = some (.cells arr t (0, 0)) ∧ arr.size = E.cp id * E.sz id ∧ ∀ (k : Nat) c, (flat es)[k]? = some c → ∃ v, arr[E.bo id * E.sz id + k]? = some v ∧ V E w c v)
  inj : ∀ id id', E.K id → E.K id' → 0 < E.cp id → 0 < E.cp id' → E.ρ id = E.ρ id' → id = id'
  sep : ∀ id, E.K id → 0 < E.cp id → ¬ E.S (E.ρ id)
  slt : ∀ b, E.S b → b < w.heap.size

/-- What a step may change: the blocks of the objects that are not locked; new blocks. -/
structure Ext (lk : Nat → Bool) (E : Env) (w : World) (E' : Env) (w' : World) : Prop where
  os : w'.os = w.os
  tape : w'.tape = w.tape
  output : w'.output = w.output
  size : w.heap.size ≤ w'.heap.size
  keep : ∀ k, k < w.heap.size → (∀ id, E.K id → lk id = false → 0 < E.cp id → E.ρ id ≠ k) → w'.heap[k]? = w.heap[k]?
  S : ∀ b, E.S b → E'.S b
  K : ∀ id, E.K id → E'.K id
  old : ∀ id, E.K id → E.gn id ≤ E'.gn id ∧ (E'.gn id = E.gn id → E'.ρ id = E.ρ id ∧ E'.bo id = E.bo id ∧ E'.cp id = E.cp id ∧ E'.sz id = E.sz id ∧ E'.ln id = E.ln id ∧ E'.nl id = E.nl id)
  lock : ∀ id, E.K id → lk id = true → E'.gn id = E.gn id
  src : ∀ id, E'.K id → 0 < E'.cp id → (E.K id ∧ 0 < E.cp id ∧ E'.ρ id = E.ρ id) ∨ w.heap.size ≤ E'.ρ id
  top : E'.top = E.top
  srcK : ∀ id, E'.K id → E.K id ∨ E.top ≤ id
  yl : E'.yl = E.yl
  srcS : ∀ b, E'.S b → E.S b ∨ (∃ id, E.K id ∧ 0 < E.cp id ∧ E.ρ id = b) ∨ w.heap.size ≤ b

theorem Ext.refl (lk : Nat → Bool) (E : Env) (w : World) : Ext lk E w E w :=
  ⟨rfl, rfl, rfl, Nat.le_refl _, fun _ _ _ => rfl, fun _ h => h, fun _ h => h, fun _ _ => ⟨Nat.le_refl _, fun _ => ⟨rfl, rfl, rfl, rfl, rfl, rfl⟩⟩, fun _ _ _ => rfl, fun _ hd hc => .inl ⟨hd, hc, rfl⟩, rfl, fun _ h => .inl h, rfl, fun _ h => .inl h⟩

theorem Ext.trans {lk : Nat → Bool} {E E1 E2 : Env} {w w1 w2 : World} (h : Ext lk E w E1 w1) (k : Ext lk E1 w1 E2 w2) : Ext lk E w E2 w2 where
  os := k.os.trans h.os
  tape := k.tape.trans h.tape
  output := k.output.trans h.output
  size := Nat.le_trans h.size k.size
  keep := fun b hb hn => (k.keep b (Nat.lt_of_lt_of_le hb h.size) (fun id hd hl hc e => by
    rcases h.src id hd hc with ⟨hi, hci, ei⟩ | hge
    · exact hn id hi hl hci (ei.symm.trans e)
    · omega)).trans (h.keep b hb hn)
  S := fun b hb => k.S b (h.S b hb)
  K := fun b hb => k.K b (h.K b hb)
  old := fun id hk => by
    obtain ⟨a2, a3⟩ := h.old id hk
    obtain ⟨b2, b3⟩ := k.old id (h.K id hk)
    refine ⟨Nat.le_trans a2 b2, fun e => ?_⟩
    have e1 : E1.gn id = E.gn id := by omega
    obtain ⟨c1, c2, c3, c4, c5, c6⟩ := a3 e1
    obtain ⟨d1, d2, d3, d4, d5, d6⟩ := b3 (by omega)
    exact ⟨d1.trans c1, d2.trans c2, d3.trans c3, d4.trans c4, d5.trans c5, d6.trans c6⟩
  lock := fun id hk hl => (k.lock id (h.K id hk) hl).trans (h.lock id hk hl)
  src := fun id hd hc => by
    rcases k.src id hd hc with ⟨hi, hci, ei⟩ | hge
    · rcases h.src id hi hci with ⟨hj, hcj, ej⟩ | hge
      · exact .inl ⟨hj, hcj, ei.trans ej⟩
      · exact .inr (by omega)
    · exact .inr (Nat.le_trans h.size hge)
  top := k.top.trans h.top
  srcK := fun id hd => (k.srcK id hd).elim (h.srcK id) fun e => .inr (h.top ▸ e)
  yl := k.yl.trans h.yl
  srcS := fun b hb => by
    rcases k.srcS b hb with h1 | ⟨id, h1, h2, rfl⟩ | h1
    · exact h.srcS b h1
    · rcases h.src id h1 h2 with ⟨a1, a2, a3⟩ | a
      · exact .inr (.inl ⟨id, a1, a2, a3.symm⟩)
      · exact .inr (.inr a)
    · exact .inr (.inr (Nat.le_trans h.size h1))

theorem Ext.mono {lk lk' : Nat → Bool} {E E' : Env} {w w' : World} (h : Ext lk E w E' w') (hl : ∀ id, E.K id → lk' id = true → lk id = true) : Ext lk' E w E' w' :=
  { h with keep := fun k hk hn => h.keep k hk fun id hd hl' hc => hn id hd (by cases e : lk' id; rfl; rw [hl id hd e] at hl'; cases hl') hc, lock := fun id hk hl' => h.lock id hk (hl id hk hl') }

/-- Blocks that are only read stay. -/
theorem HRel.sblock {lk : Nat → Bool} {E : Env} {H : MHeap} {w : World} (hr : HRel E H w) {E' : Env} {w' : World} (h : Ext lk E w E' w') {b : Nat} (hb : E.S b) : w'.heap[b]? = w.heap[b]? :=
  h.keep b (hr.slt b hb) fun id hd _ hc e => hr.sep id hd hc (e ▸ hb)

theorem V.ext {lk : Nat → Bool} {E : Env} {H : MHeap} {w : World} (hr : HRel E H w) {E' : Env} {w' : World} (h : Ext lk E w E' w') {m : MV} {v : Value} (hv : V E w m v) : V E' w' m v := by
  induction hv with
  | junk v => exact .junk v
  | yld => rw [← h.yl]; exact .yld
  | lit v => exact .lit v
  | agg cs vs hl _ ih => exact .agg cs vs hl ih
  | tup cs vs hl _ ih => exact .tup cs vs hl ih
  | fn f k cs vs hl _ ih => exact .fn f k cs vs hl ih
  | sl es vs A cap sz hc hs hl _ hA ih =>
    refine .sl es vs A cap sz hc hs hl ih fun h0 => ?_
    obtain ⟨b, off, e, hb, hcell⟩ := hA h0
    exact ⟨b, off, e, h.S b hb, fun i v hi => (World.cell?_of_block (w := w) (a := ⟨b, off + i, none⟩) (hr.sblock h hb)).trans (hcell i v hi)⟩
  | rp e off vs b o hl _ hb hcell ih =>
    exact .rp e off vs b o hl ih (h.S b hb) fun i v hi => (World.cell?_of_block (w := w) (a := ⟨b, o + i, none⟩) (hr.sblock h hb)).trans (hcell i v hi)
  | ptr id i off g b o hk hg hd =>
    obtain ⟨a2, a3⟩ := h.old id hk
    refine .ptr id i off g b o (h.K id hk) (Nat.le_trans hg a2) fun hg' => ?_
    obtain ⟨c1, c2, c3, c4, c5, c6⟩ := a3 (by omega)
    rw [c1, c2, c4, c5]
    exact hd (by omega)
  | arr id i n g A cap hk hg hd =>
    obtain ⟨a2, a3⟩ := h.old id hk
    refine .arr id i n g A cap (h.K id hk) (Nat.le_trans hg a2) fun hg' => ?_
    obtain ⟨c1, c2, c3, c4, c5, c6⟩ := a3 (by omega)
    rw [c1, c2, c3, c4, c5, c6]
    exact hd (by omega)

theorem Vs.ext {lk : Nat → Bool} {E : Env} {H : MHeap} {w : World} (hr : HRel E H w) {E' : Env} {w' : World} (h : Ext lk E w E' w') {cs : List MV} {vs : List Value} (hv : Vs E w cs vs) : Vs E' w' cs vs :=
  ⟨hv.1, fun i c v hc hx => (hv.2 i c v hc hx).ext hr h⟩

theorem V.one {E : Env} {w : World} {m : MV} {v : Value} (h : V E w m v) (ho : m.one = true) : v.oneCell' = true := by
  cases h <;> first | exact ho | rfl | cases ho

/-- The cells of a value. -/
theorem V.cells {E : Env} {w : World} {m : MV} {v : Value} (h : V E w m v) (hm : ∀ x, m ≠ .lit (.agg x)) (hj : m ≠ .junk) : Vs E w m.cells v.cells.toList := by
  cases h with
  | junk v => exact absurd rfl hj
  | agg cs vs hl hc => exact ⟨by simpa [MV.cells, Value.cells] using hl, by simpa [MV.cells, Value.cells] using hc⟩
  | lit v =>
    have : v.cells = #[v] := by
      cases v <;> first | rfl | exact absurd rfl (hm _)
    rw [this]
    refine ⟨rfl, fun i c x hc hx => ?_⟩
    cases i with
    | zero => simp [MV.cells] at hc hx; subst hc hx; exact .lit _
    | succ i => simp [MV.cells] at hc
  | _ =>
    refine ⟨rfl, fun i c x hc hx => ?_⟩
    cases i with
    | zero => simp [MV.cells, Value.cells] at hc hx; subst hc hx; constructor <;> assumption
    | succ i => simp [MV.cells] at hc

/-- The same objects, and more. -/
def EnvLe (E E2 : Env) : Prop := (∀ b, E.S b → E2.S b) ∧ (∀ id, E.K id → E2.K id ∧ E2.gn id = E.gn id ∧ E2.ρ id = E.ρ id ∧ E2.bo id = E.bo id ∧ E2.cp id = E.cp id ∧ E2.sz id = E.sz id ∧ E2.ln id = E.ln id ∧ E2.nl id = E.nl id) ∧ E2.yl = E.yl

theorem V.env {E E2 : Env} {w : World} (he : EnvLe E E2) {m : MV} {v : Value} (hv : V E w m v) : V E2 w m v := by
  induction hv with
  | junk v => exact .junk v
  | yld => rw [← he.2.2]; exact .yld
  | lit v => exact .lit v
  | agg cs vs hl _ ih => exact .agg cs vs hl ih
  | tup cs vs hl _ ih => exact .tup cs vs hl ih
  | fn f k cs vs hl _ ih => exact .fn f k cs vs hl ih
  | sl es vs A cap sz hc hs hl _ hA ih =>
    refine .sl es vs A cap sz hc hs hl ih fun h0 => ?_
    obtain ⟨b, off, e, hb, hcell⟩ := hA h0
    exact ⟨b, off, e, he.1 b hb, hcell⟩
  | rp e off vs b o hl _ hb hcell ih => exact .rp e off vs b o hl ih (he.1 b hb) hcell
  | ptr id i off g b o hk hg hd =>
    obtain ⟨h1, h2, h3, h4, h5, h6, h7, h8⟩ := he.2.1 id hk
    exact .ptr id i off g b o h1 (by rw [h2]; exact hg) fun e => by rw [h3, h4, h6, h7]; exact hd (by rw [← h2]; exact e)
  | arr id i n g A cap hk hg hd =>
    obtain ⟨h1, h2, h3, h4, h5, h6, h7, h8⟩ := he.2.1 id hk
    exact .arr id i n g A cap h1 (by rw [h2]; exact hg) fun e => by rw [h3, h4, h5, h6, h7, h8]; exact hd (by rw [← h2]; exact e)

end Go.Proofs.Ytgjpdjihjphbdaa

/- The small language: operations, their evaluation, and how the program's text is written in it. -/
namespace Go.Proofs.Ytgjpdjihjphbdaa
open Go.RowKit
set_option linter.unusedVariables false

/-- Operands. -/
inductive MX where
  | s (n : Nat)
  | c (v : MV)
instance : Inhabited MX := ⟨.s 0⟩
def MX.get (s : List MV) : MX → MV
  | .s n => s.getD n (.lit undef)
  | .c v => v

inductive MO where
  | mv (x : MX)
  | nil0 (sz : Nat)
  | nilck (x : MX)
  | pick (c a b : MX)
  | new (z : MV)
  | box (sz : Nat) (x : MX)
  | build (z : List MV) (parts : List (Nat × Nat × MX))
  | bsl (z : MV) (sz : Nat) (len : Nat) (parts : List (Nat × MX))
  | vsl (z : MV) (sz : Nat) (len : Nat) (parts : List (Nat × MX))
  | ld (agg : Option Nat) (x : MX)
  | st (sz : Nat) (a x : MX)
  | bin (op : BinOp) (x y : MX)
  | beq (neg : Bool) (x y : MX)
  | seq (neg : Bool) (x y : MX)
  | eqa (n : Nat) (neg : Bool) (x y : MX)
  | eqn (neg : Bool) (x : MX)
  | bad
  | un (op : UnOp) (x : MX)
  | cv (k : IntKind) (x : MX)
  | mf (f k : Nat) (caps : List MX)
  | ix (agg : Option Nat) (sz len : Nat) (x i : MX)
  | mks (z : MV) (n : MX)
  | slc (sz : Nat) (x : MX) (lo hi : Option MX)
  | fa (off : Nat) (x : MX)
  | fd (off : Nat) (agg : Option Nat) (x : MX)
  | ia (sz : Nat) (x i : MX)
  | iaa (sz len : Nat) (x i : MX)
  | ext (x : MX) (i : Nat)
  | call (f : Nat) (args : List MX)
  | callv (x : MX) (args : List MX)
  | len (x : MX)
  | app (sz : Nat) (s x : MX)
  | mx (x y : MX)
  | mn (x y : MX)
instance : Inhabited MO := ⟨.nil0 0⟩

/-- What calls answer, and what they add to memory. -/
abbrev Oracle := Nat → List MV → MHeap → Option (MV × MHeap)

/-- The elements of a slice. -/
def MV.elems (h : MHeap) : MV → Option (List MV)
  | .sl es => some es
  | .lit (.slice none 0 0) => some []
  | .arr id i n g =>
    match h[id]? with
    | some o => if o.g = g ∧ i + n ≤ o.es.length then some ((o.es.drop i).take n) else none
    | none => none
  | _ => none
def MV.slen : MV → Option Nat
  | .sl es => some es.length
  | .lit (.slice _ n _) => some n
  | .arr _ _ n _ => some n
  | _ => none
def rdCells (cs : List MV) (off : Nat) : Option Nat → Option MV
  | none => cs[off]?
  | some n => if off + n ≤ cs.length then some (.agg ((cs.drop off).take n)) else none
/-- Cells put over others. -/
def splice (cs : List MV) (off : Nat) (vs : List MV) : List MV := cs.take off ++ vs ++ cs.drop (off + vs.length)
def wrElem (e : MV) (off : Nat) (v : MV) : Option MV :=
  if off + v.cells.length ≤ e.cells.length then
    match e with
    | .agg cs => some (.agg (splice cs off v.cells))
    | _ => if v.cells.length = 1 then some v else none
  else none
def MV.sOk (sz : Nat) (v : MV) : Bool := v.cells.length == sz && v.cells.all MV.one
/-- Its cells are those of its value. -/
def MV.cOk : MV → Bool
  | .junk => false
  | .lit (.agg _) => false
  | _ => true
def intOf? : MV → Option Int
  | .lit (.int _ n) => some n
  | _ => none
/-- Integer operations. -/
def binI (op : BinOp) (k : IntKind) (a b : Int) : Option Value :=
  match op with
  | .add => some (.int k (k.wrap (a + b)))
  | .sub => some (.int k (k.wrap (a - b)))
  | .mul => some (.int k (k.wrap (a * b)))
  | .quo => if b = 0 then none else some (.int k (k.wrap (a.tdiv b)))
  | .rem => if b = 0 then none else some (.int k (a.tmod b))
  | .eql => some (.bool (a == b))
  | .neq => some (.bool (a != b))
  | .lss => some (.bool (a < b))
  | .leq => some (.bool (a ≤ b))
  | .gtr => some (.bool (a > b))
  | .geq => some (.bool (a ≥ b))
  | _ => none
/-- What a computation comes to that asks nothing of the world. -/
def calm {α : Type} (P : Program) : Sem α → Option α
  | .pure a => some a
  | .program k => calm P (k P)
  | .mark _ k => calm P k
  | _ => none
def fillM (cells : List MV) : List (Nat × List MV) → Option (List MV)
  | [] => some cells
  | (off, v) :: rest => if off + v.length ≤ cells.length then fillM (splice cells off v) rest else none
def setAtM (es : List MV) (sz : Nat) : List (Nat × MV) → Option (List MV)
  | [] => some es
  | (i, v) :: rest => if i < es.length ∧ v.cells.length = sz ∧ v.cOk then setAtM (es.set i v) sz rest else none
/-- Are two aggregates of integers equal? -/
def litEq : List MV → List MV → Option Bool
  | [], [] => some true
  | .lit (.int k a) :: ps, .lit (.int k' b) :: qs => if k = k' then (litEq ps qs).map fun r => a == b && r else none
  | _, _ => none
def negIf (neg b : Bool) : Bool := if neg then !b else b

/-- The object is as a header says. -/
def MHeap.ok (h : MHeap) (id g sz : Nat) : Bool :=
  match h[id]? with
  | some o => o.g == g && o.sz == sz
  | none => false

/-- One operation: its value, and memory behind it. -/
def evO : (Nat → Bool) → Oracle → List MV → MHeap → MO → Option (MV × MHeap)
  | lk, O, s, h, .mv x => some (x.get s, h)
  | lk, O, s, h, .nil0 sz => some (.arr h.length 0 0 0, h ++ [⟨0, true, sz, []⟩])
  | lk, O, s, h, .nilck x => match x.get s with
    | .ptr id i off g => some (.ptr id i off g, h)
    | .rp e off => some (.rp e off, h)
    | .fn f k cs => some (.fn f k cs, h)
    | _ => none
  | lk, O, s, h, .pick c a b => match c.get s with
    | .lit (.bool t) => some (if t then a.get s else b.get s, h)
    | _ => none
  | lk, O, s, h, .new z => some (.ptr h.length 0 0 0, h ++ [⟨0, false, z.cells.length, [z]⟩])
  | lk, O, s, h, .box sz x => if (x.get s).cells.length = sz ∧ (x.get s).cOk then some (.ptr h.length 0 0 0, h ++ [⟨0, false, sz, [x.get s]⟩]) else none
  | lk, O, s, h, .build z parts => match fillM z (parts.map fun p => (p.1, (p.2.2.get s).cells)) with
    | some cs => if parts.all (fun p => (p.2.2.get s).cells.length == p.2.1 && (p.2.2.get s).cOk) then some (.agg cs, h) else none
    | none => none
  | lk, O, s, h, .bsl z sz len parts => match setAtM (List.replicate len z) sz (parts.map fun p => (p.1, p.2.get s)) with
    | some es => some (.arr h.length 0 len 0, h ++ [⟨0, false, sz, es⟩])
    | none => none
  | lk, O, s, h, .vsl z sz len parts => match setAtM (List.replicate len z) sz (parts.map fun p => (p.1, p.2.get s)) with
    | some es => some (.sl es, h)
    | none => none
  | lk, O, s, h, .ld agg x => match x.get s with
    | .rp e off => (rdCells e.cells off agg).map fun v => (v, h)
    | .ptr id i off g => match h[id]? with
      | some o => if o.g = g then match o.es[i]? with
          | some e => (rdCells e.cells off agg).map fun v => (v, h)
          | none => none
        else none
      | none => none
    | _ => none
  | lk, O, s, h, .st sz a x => if (x.get s).sOk sz then match a.get s with
    | .ptr id i off g => match h[id]? with
      | some o => if o.g = g ∧ lk id = false then match o.es[i]? with
          | some e => match wrElem e off (x.get s) with
            | some e' => some (.lit undef, h.set id { o with es := o.es.set i e' })
            | none => none
          | none => none
        else none
      | none => none
    | _ => none else none
  | lk, O, s, h, .bin op x y => match x.get s, y.get s with
    | .lit (.int k a), .lit (.int k' b) => if k = k' then (binI op k a b).map fun v => (.lit v, h) else none
    | _, _ => none
  | lk, O, s, h, .beq neg x y => match x.get s, y.get s with
    | .lit (.bool a), .lit (.bool b) => some (.lit (.bool (negIf neg (a == b))), h)
    | _, _ => none
  | lk, O, s, h, .seq neg x y => match x.get s, y.get s with
    | .lit (.string a), .lit (.string b) => some (.lit (.bool (negIf neg (a == b))), h)
    | _, _ => none
  | lk, O, s, h, .eqa n neg x y => match x.get s, y.get s with
    | .agg ps, .agg qs => if ps.length = n ∧ qs.length = n then (litEq ps qs).map fun b => (.lit (.bool (negIf neg b)), h) else none
    | _, _ => none
  | lk, O, s, h, .eqn neg x => match x.get s with
    | .arr id i n g => match h[id]? with
      | some o => if o.g = g ∧ i + n ≤ o.es.length then some (.lit (.bool (negIf neg o.nl)), h) else none
      | none => none
    | .lit (.slice A _ _) => some (.lit (.bool (negIf neg A.isNone)), h)
    | .sl (_ :: _) => some (.lit (.bool neg), h)
    | _ => none
  | lk, O, s, h, .bad => none
  | lk, O, s, h, .un op x => match op, x.get s with
    | .not, .lit (.bool b) => some (.lit (.bool !b), h)
    | .neg, .lit (.int k n) => some (.lit (.int k (k.wrap (0 - n))), h)
    | _, _ => none
  | lk, O, s, h, .cv k x => match x.get s with
    | .lit (.int _ n) => some (.lit (.int k (k.wrap n)), h)
    | _ => none
  | lk, O, s, h, .mf f k caps => some (.fn f k (caps.map (MX.get s)), h)
  | lk, O, s, h, .mks z n => match n.get s with
    | .lit (.int .i64 n) => if 0 ≤ n ∧ n ≤ 1000000 then some (.arr h.length 0 n.toNat 0, h ++ [⟨0, false, z.cells.length, List.replicate n.toNat z⟩]) else none
    | _ => none
  | lk, O, s, h, .slc sz x lo hi => match (x.get s), ((lo.map (MX.get s)).map intOf?).getD (some 0), (hi.map (MX.get s)).map intOf? with
    | .sl es, some l, some (some u) => if 0 ≤ l ∧ l ≤ u ∧ u ≤ es.length ∧ es.all (fun e => e.cells.length == sz) then some (.sl ((es.drop l.toNat).take (u - l).toNat), h) else none
    | .sl es, some l, none => if 0 ≤ l ∧ l ≤ es.length ∧ es.all (fun e => e.cells.length == sz) then some (.sl (es.drop l.toNat), h) else none
    | .arr id i n g, some l, some (some u) => if 0 ≤ l ∧ l ≤ u ∧ u ≤ n ∧ MHeap.ok h id g sz then some (.arr id (i + l.toNat) (u - l).toNat g, h) else none
    | .arr id i n g, some l, none => if 0 ≤ l ∧ l ≤ n ∧ MHeap.ok h id g sz then some (.arr id (i + l.toNat) (n - l.toNat) g, h) else none
    | _, _, _ => none
  | lk, O, s, h, .fa off x => match x.get s with
    | .ptr id i o g => some (.ptr id i (o + off) g, h)
    | .rp e o => some (.rp e (o + off), h)
    | _ => none
  | lk, O, s, h, .fd off agg x => match x.get s with
    | .agg cs => (rdCells cs off agg).map fun v => (v, h)
    | _ => none
  | lk, O, s, h, .ix agg sz len x i => match x.get s, intOf? (i.get s) with
    | .agg cs, some k => if 0 ≤ k ∧ k < len then (rdCells cs (k.toNat * sz) agg).map fun v => (v, h) else none
    | _, _ => none
  | lk, O, s, h, .ia sz x i => match x.get s, intOf? (i.get s) with
    | .sl es, some k => if 0 ≤ k then (es[k.toNat]?).bind fun e => if e.cells.length = sz then some (.rp e 0, h) else none else none
    | .arr id j n g, some k => if 0 ≤ k ∧ k < n ∧ MHeap.ok h id g sz then some (.ptr id (j + k.toNat) 0 g, h) else none
    | _, _ => none
  | lk, O, s, h, .iaa sz len x i => match x.get s, intOf? (i.get s) with
    | .ptr id j o g, some k => if 0 ≤ k ∧ k < len then some (.ptr id j (o + k.toNat * sz) g, h) else none
    | .rp e o, some k => if 0 ≤ k ∧ k < len then some (.rp e (o + k.toNat * sz), h) else none
    | _, _ => none
  | lk, O, s, h, .ext x i => match x.get s with
    | .tup vs => (vs[i]?).map fun v => (v, h)
    | _ => none
  | lk, O, s, h, .call f args => O f (args.map (MX.get s)) h
  | lk, O, s, h, .callv x args => match x.get s with
    | .fn f k caps => O f (caps.take k ++ args.map (MX.get s) ++ caps.drop k) h
    | _ => none
  | lk, O, s, h, .len x => match (x.get s).slen with
    | some n => some (.lit (.int .i64 n), h)
    | none => none
  | lk, O, s, h, .app sz d x => match d.get s, (x.get s).elems h with
    | .arr id i n g, some xs => match h[id]? with
      | some o => if o.g = g ∧ i + n = o.es.length ∧ o.sz = sz then
          if xs = [] then some (.arr id i n g, h)
          else if o.es.length + xs.length ≤ 1000000 ∧ xs.all (MV.sOk sz) ∧ lk id = false then some (.arr id 0 (n + xs.length) (g + 1), h.set id ⟨g + 1, false, sz, o.es.drop i ++ xs⟩) else none
        else none
      | none => none
    | .lit (.slice none 0 0), some xs =>
      if xs = [] then some (.lit (.slice none 0 0), h)
      else if xs.length ≤ 1000000 ∧ xs.all (MV.sOk sz) then some (.arr h.length 0 xs.length 0, h ++ [⟨0, false, sz, xs⟩]) else none
    | _, _ => none
  | lk, O, s, h, .mx x y => match x.get s, y.get s with
    | .lit (.int k a), .lit (.int _ b) => some (.lit (.int k (if b > a then b else a)), h)
    | _, _ => none
  | lk, O, s, h, .mn x y => match x.get s, y.get s with
    | .lit (.int k a), .lit (.int _ b) => some (.lit (.int k (if b < a then b else a)), h)
    | _, _ => none

end Go.Proofs.Ytgjpdjihjphbdaa

/- How the program's text is written in the small language; its control; its evaluation. -/
namespace Go.Proofs.Ytgjpdjihjphbdaa
open Go.RowKit
set_option linter.unusedVariables false

def ofV : Value → MV
  | .agg vs => .agg (vs.toList.map .lit)
  | v => .lit v
def cX : Operand → Option MX
  | .tmp t => some (.s t)
  | .const v => some (.c (ofV v))
  | .func f => some (.c (.fn f 0 []))
  | .global _ => none
def oX : Option Operand → Option (Option MX)
  | none => some none
  | some x => (cX x).map some
def cXs (l : List Operand) : Option (List MX) := l.mapM cX
def tsz (P : Program) (t : TypeId) : Option Nat := (P.info? t).map (·.size)
def tzero (P : Program) (t : TypeId) : Option MV := ((P.info? t).bind (·.zero)).map ofV
/-- none: no such type; some none: one cell; some (some n): an aggregate of n cells. -/
def tagg (P : Program) (t : TypeId) : Option (Option Nat) :=
  match P.underlying t with
  | some (.struct _) | some (.array _ _) => (tsz P t).map some
  | some _ => some none
  | none => none
def telem (P : Program) (t : TypeId) : Option TypeId :=
  match P.underlying t with
  | some (.slice e) => some e
  | _ => none
def placesOf (P : Program) (t : TypeId) : Option (Nat → Option (Nat × Nat)) :=
  match P.underlying t with
  | some (.struct fs) => (fs.toList.mapM (fun f => (P.info? f.type).map fun i => (f.offset, i.size))).map fun places i => places.toArray[i]?
  | some (.array _ e) => (P.info? e).map fun ie i => some (i * ie.size, ie.size)
  | _ => none
def sameX : Operand → Operand → Bool
  | .tmp a, .tmp b => a == b
  | .const (.int .i64 a), .const (.int .i64 b) => a == b
  | _, _ => false
def isNilSlice : Operand → Bool
  | .const (.slice none 0 0) => true
  | _ => false
/-- The body of a function: its own number of slots, what it hands back. -/
def hasBody (P : Program) (f : Nat) : Bool :=
  match P.funcs[f]? with
  | some fn => fn.body.isSome && fn.name != "runtime.NumGoroutine"
  | none => false

/-- Fields that are integers, one cell each. -/
def intFields (P : Program) : Nat → List Field → Bool
  | _, [] => true
  | i, f :: fs => f.offset == i && f.name != "_" && (match P.underlying f.type with | some (.int _) => true | _ => false) && intFields P (i + 1) fs

def compO (P : Program) (o : Oper) : Option MO :=
  match o.op with
  | .move x => (cX x).map .mv
  | .assign x => if isNilSlice x then (telem P o.type).bind fun e => (tsz P e).map .nil0 else (cX x).map .mv
  | .pick c a b => do some (.pick (← cX c) (← cX a) (← cX b))
  | .alloc t => do
    let z ← tzero P t
    if z.cOk then some (.new z) else none
  | .box t x => do some (.box (← tsz P t) (← cX x))
  | .build t parts => do
    let pl ← placesOf P t
    match ← tzero P t with
    | .agg z => some (.build z (← parts.toList.mapM fun p => do let (off, n) ← pl p.1; some (off, n, ← cX p.2)))
    | _ => none
  | .buildSlice t len parts => do
    let e ← telem P t
    let n ← tsz P e
    let z ← tzero P e
    if len * n ≤ 1000000 ∧ 0 < n ∧ z.cells.length = n ∧ z.cOk then some (.bsl z n len (← parts.toList.mapM fun p => do some (p.1, ← cX p.2))) else none
  | .load t x => do some (.ld (← tagg P t) (← cX x))
  | .store t a x => do some (.st (← tsz P t) (← cX a) (← cX x))
  | .nilCheck x => (cX x).map .nilck
  | .binOp op t x y _ => match op, P.underlying t with
    | .eql, some (.int _) | .neq, some (.int _) | .add, some (.int _) | .sub, some (.int _) | .mul, some (.int _) | .quo, some (.int _) | .rem, some (.int _) | .lss, some (.int _) | .leq, some (.int _) | .gtr, some (.int _) | .geq, some (.int _) => do some (.bin op (← cX x) (← cX y))
    | .eql, some .bool => do some (.beq false (← cX x) (← cX y))
    | .neq, some .bool => do some (.beq true (← cX x) (← cX y))
    | .eql, some .string => do some (.seq false (← cX x) (← cX y))
    | .neq, some .string => do some (.seq true (← cX x) (← cX y))
    | .eql, some (.struct fs) => if intFields P 0 fs.toList ∧ P.stoodInHeld t = false ∧ P.eqGuardType P.depth t = false then do some (.eqa fs.size false (← cX x) (← cX y)) else none
    | .neq, some (.struct fs) => if intFields P 0 fs.toList ∧ P.stoodInHeld t = false ∧ P.eqGuardType P.depth t = false then do some (.eqa fs.size true (← cX x) (← cX y)) else none
    | .eql, some (.slice _) => if isNilSlice y then (cX x).map (.eqn false) else none
    | .neq, some (.slice _) => if isNilSlice y then (cX x).map (.eqn true) else none
    | _, _ => none
  | .unOp op _ x => do some (.un op (← cX x))
  | .convert src t x => match P.underlying src, P.underlying t with
    | some _, some (.int k) => (cX x).map (.cv k)
    | _, _ => none
  | .makeFunc (.func f) first caps => do some (.mf f first.size (← cXs (first.toList ++ caps.toList)))
  | .makeSlice t l c => do
    let e ← telem P t
    let i ← P.info? e
    let z ← tzero P e
    if sameX l c ∧ i.bytes ≤ 100000 ∧ 0 < i.size ∧ z.cells.length = i.size ∧ z.cOk then some (.mks z (← cX l)) else none
  | .slice t x lo hi none => do
    let e ← telem P t
    some (.slc (← tsz P e) (← cX x) (← oX lo) (← oX hi))
  | .fieldAddr t x f => match P.underlying t with
    | some (.struct fs) => do
      let fd ← fs[f]?
      let n ← tsz P fd.type
      if 0 < n then some (.fa fd.offset (← cX x)) else none
    | _ => none
  | .field t x f => match P.underlying t with
    | some (.struct fs) => do
      let fd ← fs[f]?
      some (.fd fd.offset (← tagg P fd.type) (← cX x))
    | _ => none
  | .index t x i => match P.underlying t with
    | some (.array n e) => do some (.ix (← tagg P e) (← tsz P e) n (← cX x) (← cX i))
    | _ => none
  | .indexAddr t x i => match P.underlying t with
    | some (.slice e) => do some (.ia (← tsz P e) (← cX x) (← cX i))
    | some (.array n e) => do some (.iaa (← tsz P e) n (← cX x) (← cX i))
    | _ => none
  | .extract x i => (cX x).map (.ext · i)
  | .call c => match c.callee with
    | .value (.func f) => if hasBody P f then do some (.call f (← cXs c.args.toList)) else none
    | .value x => do some (.callv (← cX x) (← cXs c.args.toList))
    | .builtin b => match b, c.args.toList, c.argTypes.toList with
      | .len, [x], [t] => match P.underlying t with
        | some (.slice _) => (cX x).map .len
        | _ => none
      | .append, [a, x], [t, u] => match P.underlying t, P.underlying u with
        | some (.slice e), some (.slice _) => do
          let i ← P.info? e
          let z ← tzero P e
          if i.bytes ≤ 100000 ∧ 0 < i.size ∧ z.cells.length = i.size ∧ z.cOk then some (.app i.size (← cX a) (← cX x)) else none
        | _, _ => none
      | .max, [x, y], _ => do some (.mx (← cX x) (← cX y))
      | .min, [x, y], _ => do some (.mn (← cX x) (← cX y))
      | _, _, _ => none
    | _ => none
  | _ => none

/-- An operation with its guard and the slot that it sets. -/
structure GO where
  guard : Option (Nat × Bool)
  dst : Option Nat
  op : MO
def gM (ops : Array Oper) (o : Oper) : Option (Option (Nat × Bool)) :=
  match o.guard with
  | none => some none
  | some (j, b) => (ops[j]?).bind fun oj => oj.dst.map fun d => some (d, b)
def compG (P : Program) (ops : Array Oper) (o : Oper) : Option GO := (gM ops o).map fun g => ⟨g, o.dst, (compO P o).getD .bad⟩

structure MSt where
  s : List MV
  h : MHeap
inductive MX2 where
  | normal
  | exit (id : Nat)
  | ret
  deriving DecidableEq

def putM (s : List MV) (d : Option Nat) (v : MV) : List MV :=
  match d with
  | some d => s.set d v
  | none => s
/-- Is an operation wanted? -/
def wantM (s : List MV) : Option (Nat × Bool) → Option Bool
  | none => some true
  | some (t, b) => match s.getD t (.lit undef) with
    | .lit (.bool x) => some (x == b)
    | .lit (.tuple _) => some false
    | _ => none
def evG (lk : Nat → Bool) (O : Oracle) (o : GO) (st : MSt) : Option MSt :=
  match wantM st.s o.guard with
  | none => none
  | some t => if t then
      match evO lk O st.s st.h o.op with
      | some (v, h) => some ⟨putM st.s o.dst v, h⟩
      | none => none
    else some ⟨putM st.s o.dst (.lit undef), st.h⟩
def evR (lk : Nat → Bool) (O : Oracle) : List GO → MSt → Option MSt
  | [], st => some st
  | o :: os, st => (evG lk O o st).bind (evR lk O os)

/-- Rounds of a loop. -/
def rounds (f : MSt → Option (MX2 × MSt)) : Nat → MSt → Option (MX2 × MSt)
  | 0, _ => none
  | n + 1, st => match f st with
    | some (.normal, st') => rounds f n st'
    | r => r
/-- Rounds over a list. -/
def overH (f : List MV → MHeap → Option (MX2 × MHeap)) : List (List MV) → MHeap → Option (MX2 × MHeap)
  | [], h => some (.normal, h)
  | x :: xs, h => match f x h with
    | some (.normal, h') => overH f xs h'
    | r => r
def putAll (s : List MV) : List Nat → List MV → List MV
  | p :: ps, v :: vs => putAll (s.set p v) ps vs
  | _, _ => s
/-- What iterators yield. -/
abbrev Iter := Nat → Nat → List MV → MHeap → Option (List (List MV))

mutual
/-- Speaks of objects below n alone. -/
def MV.lt (n : Nat) : MV → Bool
  | .lit _ | .junk => true
  | .yld => false
  | .agg cs => ltL n cs
  | .tup vs => ltL n vs
  | .sl es => ltL n es
  | .rp e _ => e.lt n
  | .ptr id _ _ _ => decide (id < n)
  | .arr id _ _ _ => decide (id < n)
  | .fn _ _ cs => ltL n cs
def ltL (n : Nat) : List MV → Bool
  | [] => true
  | v :: vs => v.lt n && ltL n vs
end
/-- The slots of a list are kept, all others struck. -/
def keepS (keep : List Nat) : Nat → List MV → List MV
  | _, [] => []
  | i, v :: vs => (if keep.contains i then v else .junk) :: keepS keep (i + 1) vs
def hltL (n : Nat) (h : MHeap) : Bool := h.all fun o => ltL n o.es
/-- The head of a loop: what is not wanted any more is forgotten, objects too where nothing speaks of them. -/
def headM (keep : List Nat) (n : Nat) (st : MSt) : MSt :=
  let s := keepS keep 0 st.s
  if st.h.length ≤ n then ⟨s, st.h⟩ else if ltL n s && hltL n (st.h.take n) then ⟨s, st.h.take n⟩ else ⟨s, st.h⟩
/-- The objects that a value speaks of. -/
def MV.ids (h : MHeap) : Nat → MV → List Nat
  | 0, _ => []
  | f + 1, v => match v with
    | .lit _ | .junk | .yld => []
    | .agg cs => cs.flatMap (MV.ids h f)
    | .tup cs => cs.flatMap (MV.ids h f)
    | .sl cs => cs.flatMap (MV.ids h f)
    | .fn _ _ cs => cs.flatMap (MV.ids h f)
    | .rp e _ => MV.ids h f e
    | .ptr id _ _ _ => id :: (match h[id]? with | some o => o.es.flatMap (MV.ids h f) | none => [])
    | .arr id _ _ _ => id :: (match h[id]? with | some o => o.es.flatMap (MV.ids h f) | none => [])

inductive MC where
  | skip
  | reg (ops : List GO)
  | seq (a b : MC)
  | cond (c : MX) (a b : MC)
  | block (id : Nat) (b : MC)
  | loop (keep : List Nat) (b : MC)
  | rf (keep : List Nat) (f : MX) (ps : List Nat) (a b : MC)
  | exit (id : Nat)
  | ret
  | bad
instance : Inhabited MC := ⟨.skip⟩

def evC : Oracle → Iter → Nat → MC → (Nat → Bool) → MSt → Option (MX2 × MSt)
  | O, I, N, .skip, _, st => some (.normal, st)
  | O, I, N, .reg ops, lk, st => (evR lk O ops st).map fun st => (.normal, st)
  | O, I, N, .seq a b, lk, st => match evC O I N a lk st with
    | some (.normal, st') => evC O I N b lk st'
    | r => r
  | O, I, N, .cond c a b, lk, st => match c.get st.s with
    | .lit (.bool t) => if t then evC O I N a lk st else evC O I N b lk st
    | _ => none
  | O, I, N, .block id b, lk, st => match evC O I N b lk st with
    | some (.exit k, st') => if k = id then some (.normal, st') else some (.exit k, st')
    | r => r
  | O, I, N, .loop keep b, lk, st => rounds (fun st' => evC O I N b lk (headM keep st.h.length st')) N st
  | O, I, N, .rf keep f ps a b, lk, st => match f.get st.s with
    | .fn g k caps => match I g k caps st.h with
      | some xs => if xs.all (fun x => x.length == ps.length) then
        let ids := caps.flatMap (MV.ids st.h 6)
        let lk' := fun id => lk id || ids.contains id
        (overH (fun x h => match evC O I N a lk' ⟨putAll (headM keep st.h.length ⟨st.s, h⟩).s ps x, (headM keep st.h.length ⟨st.s, h⟩).h⟩ with
          | some (.normal, st2) => match evC O I N b lk' st2 with
            | some (y, st3) => some (y, st3.h)
            | none => none
          | _ => none) xs st.h).map fun r => (r.1, ⟨st.s, r.2⟩)
        else none
      | none => none
    | _ => none
  | O, I, N, .exit id, _, st => some (.exit id, st)
  | O, I, N, .ret, _, st => some (.ret, st)
  | O, I, N, .bad, _, _ => none

def MO.xs : MO → List MX
  | .mv x | .nilck x | .box _ x | .ld _ x | .un _ x | .cv _ x | .mks _ x | .fa _ x | .fd _ _ x | .ext x _ | .len x | .eqn _ x => [x]
  | .nil0 _ | .new _ | .bad => []
  | .pick c a b => [c, a, b]
  | .build _ ps => ps.map (·.2.2)
  | .bsl _ _ _ ps | .vsl _ _ _ ps => ps.map (·.2)
  | .st _ a x | .bin _ a x | .beq _ a x | .seq _ a x | .eqa _ _ a x | .ia _ a x | .iaa _ _ a x | .ix _ _ _ a x | .app _ a x | .mx a x | .mn a x => [a, x]
  | .mf _ _ cs => cs
  | .slc _ x lo hi => x :: (lo.toList ++ hi.toList)
  | .call _ as_ => as_
  | .callv x as_ => x :: as_
def xslots (l : List MX) : List Nat := l.filterMap fun | .s t => some t | .c _ => none
def GO.looks (g : GO) : List Nat := xslots g.op.xs ++ (match g.guard with | some (d, _) => [d] | none => [])

end Go.Proofs.Ytgjpdjihjphbdaa

/- Objects that are laid, or laid anew. -/
namespace Go.Proofs.Ytgjpdjihjphbdaa
open Go.RowKit

def Env.put (E : Env) (id b bo cp sz g ln : Nat) (nl : Bool) : Env where
  S := E.S
  K := fun k => E.K k ∨ k = id
  ρ := fun k => if k = id then b else E.ρ k
  bo := fun k => if k = id then bo else E.bo k
  cp := fun k => if k = id then cp else E.cp k
  sz := fun k => if k = id then sz else E.sz k
  gn := fun k => if k = id then g else E.gn k
  ln := fun k => if k = id then ln else E.ln k
  nl := fun k => if k = id then nl else E.nl k
  top := E.top
  yl := E.yl

/-- Only the block of one object has changed. -/
structure OnlyObj (lk : Nat → Bool) (E : Env) (w w' : World) (id : Nat) : Prop where
  os : w'.os = w.os
  tape : w'.tape = w.tape
  output : w'.output = w.output
  size : w.heap.size ≤ w'.heap.size
  keep : ∀ k, k < w.heap.size → (E.K id → lk id = false → 0 < E.cp id → E.ρ id ≠ k) → w'.heap[k]? = w.heap[k]?

theorem OnlyObj.of_below {lk : Nat → Bool} {E : Env} {w w' : World} {id : Nat} (h : Below w.heap.size w w') : OnlyObj lk E w w' id := ⟨h.os, h.tape, h.output, h.size, fun k hk _ => h.block k hk⟩

theorem Ext.put {lk : Nat → Bool} {E : Env} {w w' : World} {id b bo cp sz g ln : Nat} {nl : Bool} (ho : OnlyObj lk E w w' id) (hk : E.K id → E.gn id < g ∧ lk id = false)
    (hb : 0 < cp → w.heap.size ≤ b ∨ (E.K id ∧ 0 < E.cp id ∧ b = E.ρ id)) (ht : E.K id ∨ E.top ≤ id) : Ext lk E w (E.put id b bo cp sz g ln nl) w' where
  os := ho.os
  tape := ho.tape
  output := ho.output
  size := ho.size
  keep := fun k hk' hn => ho.keep k hk' (hn id)
  S := fun _ h => h
  K := fun _ h => .inl h
  old := fun j hj => by
    by_cases e : j = id
    · subst e
      have := (hk hj).1
      have e1 : (E.put j b bo cp sz g ln nl).gn j = g := by simp [Env.put]
      rw [e1]
      exact ⟨by omega, fun e => by omega⟩
    · simp [Env.put, e]
  lock := fun j hj hl => by
    by_cases e : j = id
    · subst e
      rw [(hk hj).2] at hl; cases hl
    · simp [Env.put, e]
  src := fun j hj hc => by
    by_cases e : j = id
    · subst e
      simp only [Env.put, if_true] at hc ⊢
      rcases hb hc with h | ⟨h1, h2, h3⟩
      · exact .inr h
      · exact .inl ⟨h1, h2, h3⟩
    · simp only [Env.put, e, or_false, if_false] at hj hc ⊢
      exact .inl ⟨hj, hc, trivial⟩
  top := rfl
  srcK := fun j hj => by
    rcases hj with hj | rfl
    · exact .inl hj
    · exact ht
  yl := rfl
  srcS := fun b hb => .inl hb

theorem HRel.lt {E : Env} {h : MHeap} {w : World} (hr : HRel E h w) {id : Nat} (hk : E.K id) (hc : 0 < E.cp id) : E.ρ id < w.heap.size := by
  obtain ⟨es, _, _, _, _, hb⟩ := hr.obj id hk
  obtain ⟨arr, t, hh, _⟩ := hb hc
  exact (Array.getElem?_eq_some_iff.1 hh).1

/-- An object's elements in memory. -/
def LiesAt (E : Env) (w : World) (b bo cp sz : Nat) (es : List MV) : Prop :=
  ∃ (arr : Array Value) (t : TypeId), w.heap[b]? = some (.cells arr t (0, 0)) ∧ arr.size = cp * sz ∧ ∀ (k : Nat) c, (flat es)[k]? = some c → ∃ v, arr[bo * sz + k]? = some v ∧ V E w c v

theorem HRel.put {lk : Nat → Bool} {E : Env} {h h' : MHeap} {w w' : World} (hr : HRel E h w) {id b bo cp sz g : Nat} {nl : Bool} {es : List MV} (ho : OnlyObj lk E w w' id) (hk : E.K id → E.gn id < g ∧ lk id = false)
    (hb : 0 < cp → w.heap.size ≤ b ∨ (E.K id ∧ 0 < E.cp id ∧ b = E.ρ id)) (hh : ∀ j, j ≠ id → E.K j → h'[j]? = h[j]?) (hid : h'[id]? = some ⟨g, nl, sz, es⟩)
    (hes : ∀ e ∈ es, e.cells.length = sz) (hle : bo + es.length ≤ cp) (hl : 0 < cp → LiesAt (E.put id b bo cp sz g es.length nl) w' b bo cp sz es) (hlen : h.length ≤ h'.length) (ht : E.K id ∨ E.top ≤ id) :
    HRel (E.put id b bo cp sz g es.length nl) h' w' ∧ Ext lk E w (E.put id b bo cp sz g es.length nl) w' := by
  have hx : Ext lk E w (E.put id b bo cp sz g es.length nl) w' := Ext.put ho hk hb ht
  refine ⟨⟨fun j hj => ?_, Nat.le_trans hr.top hlen, fun j hj => ?_, fun i j hi hj hci hcj e => ?_, fun j hj hc hS => ?_, fun b' hS => Nat.lt_of_lt_of_le (hr.slt b' hS) ho.size⟩, hx⟩
  · rcases hj with hj | rfl
    · exact Nat.lt_of_lt_of_le (hr.klt j hj) hlen
    · exact (List.getElem?_eq_some_iff.1 hid).1
  · by_cases e : j = id
    · subst e
      refine ⟨es, by simp [Env.put, hid], by simp [Env.put], by simpa [Env.put] using hes, by simpa [Env.put] using hle, fun hc => ?_⟩
      simp only [Env.put, if_true] at hc
      have := hl hc
      unfold LiesAt at this
      simpa [Env.put] using this
    · have hj' : E.K j := by rcases hj with hj | rfl; exact hj; exact absurd rfl e
      obtain ⟨es', h1, h2, h3, h4, h5⟩ := hr.obj j hj'
      refine ⟨es', by simp only [Env.put, e, if_false]; rw [hh j e hj', h1], by simp [Env.put, e, h2], by simpa [Env.put, e] using h3, by simpa [Env.put, e] using h4, fun hc => ?_⟩
      simp only [Env.put, e, if_false] at hc
      obtain ⟨arr, t, a1, a2, a3⟩ := h5 hc
      have hlt := hr.lt hj' hc
      refine ⟨arr, t, ?_, by simpa [Env.put, e] using a2, fun k c hk' => ?_⟩
      · simp only [Env.put, e, if_false]
        rw [ho.keep _ hlt (fun hkid _ hcid e' => e (hr.inj j id hj' hkid hc hcid e'.symm))]
        exact a1
      · obtain ⟨v, b1, b2⟩ := a3 k c hk'
        exact ⟨v, by simpa [Env.put, e] using b1, b2.ext hr hx⟩
  · have nb : ∀ j, E.K j → j ≠ id → 0 < E.cp j → 0 < cp → E.ρ j ≠ b := fun j hj hne hcj hcp e => by
      rcases hb hcp with h1 | ⟨h1, h2, h3⟩
      · have := hr.lt hj hcj; omega
      · exact hne (hr.inj j id hj h1 hcj h2 (e.trans h3))
    by_cases e1 : i = id <;> by_cases e2 : j = id
    · rw [e1, e2]
    · subst e1
      simp only [Env.put, e2, if_true, if_false, or_false] at hj hci hcj e
      exact absurd e.symm (nb j hj e2 hcj hci)
    · subst e2
      simp only [Env.put, e1, if_true, if_false, or_false] at hi hci hcj e
      exact absurd e (nb i hi e1 hci hcj)
    · simp only [Env.put, e1, e2, if_false, or_false] at hi hj hci hcj e
      exact hr.inj i j hi hj hci hcj e
  · by_cases e : j = id
    · subst e
      simp only [Env.put, if_true] at hc hS
      rcases hb hc with h1 | ⟨h1, h2, h3⟩
      · have := hr.slt b hS; omega
      · exact hr.sep j h1 h2 (h3 ▸ hS)
    · simp only [Env.put, e, if_false, or_false] at hj hc hS
      exact hr.sep j hj hc hS

/-- A new object. -/
theorem HRel.add {lk : Nat → Bool} {E : Env} {h : MHeap} {w w' : World} (hr : HRel E h w) (hb : Below w.heap.size w w') {b cp sz : Nat} {nl : Bool} {es : List MV} (hes : ∀ e ∈ es, e.cells.length = sz) (hle : es.length ≤ cp)
    (hl : 0 < cp → w.heap.size ≤ b ∧ ∃ (arr : Array Value) (t : TypeId), w'.heap[b]? = some (.cells arr t (0, 0)) ∧ arr.size = cp * sz ∧ ∀ (k : Nat) c, (flat es)[k]? = some c → ∃ v, arr[k]? = some v ∧ V E w c v) :
    HRel (E.put h.length b 0 cp sz 0 es.length nl) (h ++ [⟨0, nl, sz, es⟩]) w' ∧ Ext lk E w (E.put h.length b 0 cp sz 0 es.length nl) w' := by
  have hk : E.K h.length → E.gn h.length < 0 ∧ lk h.length = false := fun hk => absurd (hr.klt _ hk) (by omega)
  have hx : Ext lk E w (E.put h.length b 0 cp sz 0 es.length nl) w' := Ext.put (OnlyObj.of_below hb) hk (fun hc => .inl (hl hc).1) (.inr hr.top)
  refine hr.put (OnlyObj.of_below hb) hk (fun hc => .inl (hl hc).1) (fun j hj hkj => ?_) (by simp) hes (by omega) (fun hc => ?_) (by simp) (.inr hr.top)
  · exact List.getElem?_append_left (hr.klt j hkj)
  · obtain ⟨_, arr, t, h1, h2, h3⟩ := hl hc
    refine ⟨arr, t, h1, h2, fun k c hkc => ?_⟩
    obtain ⟨v, a1, a2⟩ := h3 k c hkc
    exact ⟨v, by simpa using a1, a2.ext hr hx⟩

end Go.Proofs.Ytgjpdjihjphbdaa
