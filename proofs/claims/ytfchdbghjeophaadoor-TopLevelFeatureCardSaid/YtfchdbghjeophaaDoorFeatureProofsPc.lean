/- Further rules of evaluation with open values: cases on what is undecided, loops with slots that stay. -/
import Derived.Shelf.SlSortCmp.NoneTotal
import Derived.Test.YtfchdbghjeophaaDoorChecked
import Derived.Lib.SliceRun
import Derived.WalkKit
import Derived.Lib.Walk
import Derived.Lib.TrailingZeros
import Derived.Shelf.Spec.TrailingZeros
import Derived.Test.YtfchdbghjeophaaDoorRows
import Derived.ProofKit
import Derived.LaidSub
import Derived.LaidHandle
import Derived.FnData
import Derived.OpenShut
import Derived.Test.YtfchdbghjeophaaDoorFeatureProofsPb
/- Iterators: their evaluation. -/
namespace Go.Proofs.YtfchdbghjeophaaDoor
open Go.RowKit
structure ISt where
 s : List MV
 h : MHeap
 ln : Nat
 xs : List (List MV)
 stop : Bool
def isY (s : List MV) : MO → Option (List MV)
 | .callv x as_ => match x.get s with
  | .yld => some (as_.map (MX.get s))
  | _ => none
 | _ => none
def bindL {α β : Type} (f : α → Option (List β)) : List α → Option (List β)
 | [] => some []
 | a :: r => match f a with
  | some l => match bindL f r with
   | some m => some (l ++ m)
   | none => none
  | none => none
def lkn (n : Nat) : Nat → Bool := fun id => decide (id < n)
def evGI (O : Oracle) (o : GO) (st : ISt) : Option (List ISt) :=
 match wantM st.s o.guard, isY st.s o.op with
 | some true, some ms => if st.stop = false ∧ ms.all MV.cl = true then
   some [⟨putM st.s o.dst (.lit (.bool true)), st.h, st.h.length, st.xs ++ [ms], false⟩, ⟨putM st.s o.dst (.lit (.bool false)), st.h, st.h.length, st.xs, true⟩] else none
 | _, _ => (evG (lkn st.ln) O o ⟨st.s, st.h⟩).map fun st' => [⟨st'.s, st'.h, st.ln, st.xs, st.stop⟩]
def evRI (O : Oracle) : List GO → ISt → Option (List ISt)
 | [], st => some [st]
 | o :: os, st => match evGI O o st with
  | some l => bindL (evRI O os) l
  | none => none
def hasY (gl : List GO) : Bool := gl.any fun o => isCv o.op
def contI (f : ISt → Option (List (MX2 × ISt))) (p : MX2 × ISt) : Option (List (MX2 × ISt)) :=
 match p.1 with
 | .normal => f p.2
 | _ => some [p]
def roundsI (f : ISt → Option (List (MX2 × ISt))) : Nat → ISt → Option (List (MX2 × ISt))
 | 0, _ => none
 | n + 1, st => match f st with
  | some l => bindL (contI (roundsI f n)) l
  | none => none
def leaveB (id : Nat) (p : MX2 × ISt) : MX2 × ISt :=
 match p.1 with
 | .exit k => if k = id then (.normal, p.2) else p
 | _ => p
def evI (O : Oracle) (N : Nat) : MC → ISt → Option (List (MX2 × ISt))
 | .skip, st => some [(.normal, st)]
 | .reg ops, st => if hasY ops then (evRI O ops st).map fun l => l.map fun st => (.normal, st)
   else (evR (lkn st.ln) O ops ⟨st.s, st.h⟩).map fun st' => [(.normal, ⟨st'.s, st'.h, st.ln, st.xs, st.stop⟩)]
 | .seq a b, st => match evI O N a st with
  | some l => bindL (contI (evI O N b)) l
  | none => none
 | .cond c a b, st => match c.get st.s with
  | .lit (.bool t) => if t then evI O N a st else evI O N b st
  | _ => none
 | .block id b, st => (evI O N b st).map fun l => l.map (leaveB id)
 | .loop _ b, st => roundsI (evI O N b) N st
 | .exit id, st => some [(.exit id, st)]
 | .ret, st => some [(.ret, st)]
 | _, _ => none
theorem bindL_some {α β : Type} {f : α → Option (List β)} : ∀ {l : List α} {m : List β}, bindL f l = some m → ∀ a ∈ l, ∃ r, f a = some r ∧ ∀ x ∈ r, x ∈ m
 | [], m, h, a, ha => by simp at ha
 | b :: l, m, h, a, ha => by
  simp only [bindL] at h
  split at h
  case h_2 => cases h
  rename_i r hr
  split at h
  case h_2 => cases h
  rename_i m' hm
  cases h
  rcases List.mem_cons.1 ha with rfl | ha
  ·exact ⟨r, hr, fun x hx => List.mem_append_left _ hx⟩
  ·obtain ⟨r', h1, h2⟩ := bindL_some hm a ha
   exact ⟨r', h1, fun x hx => List.mem_append_right _ (h2 x hx)⟩
def Goes (st : ISt) (outs : List (MX2 × ISt)) : Prop := st.stop = false → ∃ o, o ∈ outs ∧ o.2.stop = false ∧ st.xs <+: o.2.xs
theorem Goes.cont {f : ISt → Option (List (MX2 × ISt))} (hf : ∀ st outs, f st = some outs → Goes st outs) {st : ISt} {l outs : List (MX2 × ISt)} (h : Goes st l) (hb : bindL (contI f) l = some outs) : Goes st outs := by
 intro hs
 obtain ⟨o, h1, h2, h3⟩ := h hs
 obtain ⟨r, h4, h5⟩ := bindL_some hb o h1
 obtain ⟨x, st'⟩ := o
 cases x with
 | normal =>
  obtain ⟨o', k1, k2, k3⟩ := hf _ _ h4 h2
  exact ⟨o', h5 _ k1, k2, h3.trans k3⟩
 | exit id =>
  simp only [contI, Option.some.injEq] at h4
  subst h4
  exact ⟨_, h5 _ (by simp), h2, h3⟩
 | ret =>
  simp only [contI, Option.some.injEq] at h4
  subst h4
  exact ⟨_, h5 _ (by simp), h2, h3⟩
theorem Goes.rounds {f : ISt → Option (List (MX2 × ISt))} (hf : ∀ st outs, f st = some outs → Goes st outs) : ∀ n st outs, roundsI f n st = some outs → Goes st outs := by
 intro n
 induction n with
 | zero => intro st outs h; simp [roundsI] at h
 | succ n ih =>
  intro st outs h
  simp only [roundsI] at h
  split at h
  case h_2 => cases h
  rename_i l hl
  exact (hf _ _ hl).cont ih h
theorem evGI_goes {O : Oracle} {o : GO} {st : ISt} {l : List ISt} (h : evGI O o st = some l) (hs : st.stop = false) : ∃ st', st' ∈ l ∧ st'.stop = false ∧ st.xs <+: st'.xs := by
 unfold evGI at h
 split at h
 ·split at h
  case isFalse => cases h
  cases h
  exact ⟨_, List.mem_cons_self, rfl, List.prefix_append _ _⟩
 ·rw [Option.map_eq_some_iff] at h
  obtain ⟨st', _, rfl⟩ := h
  exact ⟨_, List.mem_cons_self, hs, List.prefix_refl _⟩
theorem evRI_goes {O : Oracle} : ∀ {gl : List GO} {st : ISt} {l : List ISt}, evRI O gl st = some l → st.stop = false → ∃ st', st' ∈ l ∧ st'.stop = false ∧ st.xs <+: st'.xs
 | [], st, l, h, hs => by
  simp only [evRI, Option.some.injEq] at h
  subst h
  exact ⟨_, List.mem_cons_self, hs, List.prefix_refl _⟩
 | o :: gl, st, l, h, hs => by
  simp only [evRI] at h
  split at h
  case h_2 => cases h
  rename_i l1 h1
  obtain ⟨st1, k1, k2, k3⟩ := evGI_goes h1 hs
  obtain ⟨r, h2, h3⟩ := bindL_some h st1 k1
  obtain ⟨st2, j1, j2, j3⟩ := evRI_goes h2 k2
  exact ⟨st2, h3 _ j1, j2, k3.trans j3⟩
theorem evI_goes {O : Oracle} {N : Nat} : ∀ (mc : MC) (st : ISt) (outs : List (MX2 × ISt)), evI O N mc st = some outs → Goes st outs := by
 intro mc
 induction mc with
 | skip => intro st outs h hs; simp only [evI, Option.some.injEq] at h; subst h; exact ⟨_, List.mem_cons_self, hs, List.prefix_refl _⟩
 | ret => intro st outs h hs; simp only [evI, Option.some.injEq] at h; subst h; exact ⟨_, List.mem_cons_self, hs, List.prefix_refl _⟩
 | exit id => intro st outs h hs; simp only [evI, Option.some.injEq] at h; subst h; exact ⟨_, List.mem_cons_self, hs, List.prefix_refl _⟩
 | bad => intro st outs h; simp [evI] at h
 | rf => intro st outs h; simp [evI] at h
 | give => intro st outs h; simp [evI] at h
 | reg gl =>
  intro st outs h hs
  simp only [evI] at h
  split at h
  ·rw [Option.map_eq_some_iff] at h
   obtain ⟨l, h1, rfl⟩ := h
   obtain ⟨st', k1, k2, k3⟩ := evRI_goes h1 hs
   exact ⟨(.normal, st'), List.mem_map.2 ⟨st', k1, rfl⟩, k2, k3⟩
  ·rw [Option.map_eq_some_iff] at h
   obtain ⟨st', h1, rfl⟩ := h
   exact ⟨_, List.mem_cons_self, hs, List.prefix_refl _⟩
 | seq a b iha ihb =>
  intro st outs h
  simp only [evI] at h
  split at h
  case h_2 => cases h
  rename_i l hl
  exact (iha _ _ hl).cont ihb h
 | cond c a b iha ihb =>
  intro st outs h
  simp only [evI] at h
  split at h
  case h_2 => cases h
  split at h
  ·exact iha _ _ h
  ·exact ihb _ _ h
 | block id b ih =>
  intro st outs h hs
  simp only [evI, Option.map_eq_some_iff] at h
  obtain ⟨l, h1, rfl⟩ := h
  obtain ⟨o, k1, k2, k3⟩ := ih _ _ h1 hs
  refine ⟨leaveB id o, List.mem_map.2 ⟨o, k1, rfl⟩, ?_⟩
  have : (leaveB id o).2 = o.2 := by unfold leaveB; split; split <;> rfl; rfl
  rw [this]
  exact ⟨k2, k3⟩
 | loop keep b ih =>
  intro st outs h
  simp only [evI] at h
  exact Goes.rounds ih _ _ _ h
def isCallV : Op → Bool
 | .call c => match c.callee with
  | .value (.func _) => false
  | .value _ => true
  | _ => false
 | _ => false
def lastY (P : Program) (ops : Array Oper) : Bool :=
 match ops.toList.mapM (compG P ops) with
 | some gl => drawOk ops gl && (ops.toList.dropLast.all fun o => !isCallV o.op) && (List.range (ops.size - 1)).all fun j => rch ops ops.size (ops.size - 1) j
 | none => false
def seqY (P : Program) : Code → Bool
 | .region _ ops draw => !draw || (ops.toList.all fun o => !isCallV o.op) || lastY P ops
 | .seq a b => seqY P a && seqY P b
 | .cond _ a b => seqY P a && seqY P b
 | .block _ b => seqY P b
 | .loop b => seqY P b
 | _ => true
theorem callv_inv {P : Program} {o : Oper} {x' : MX} {as' : List MX} (hc : compO P o = some (.callv x' as')) : ∃ c x, o.op = .call c ∧ c.callee = .value x ∧ (∀ f, x ≠ .func f) ∧ cX x = some x' ∧ cXs c.args.toList = some as' := by
 obtain ⟨dst, op, type, pos, after, guard⟩ := o
 cases op <;> simp only [compO] at hc <;> try (cases hc; done)
 case call c =>
  obtain ⟨callee, args, argTypes⟩ := c
  cases callee with
  | invoke r m => simp only at hc; cases hc
  | value x =>
   cases x with
   | func f =>
    simp only at hc
    split at hc
    ·split at hc
     ·simp [Option.map_eq_some_iff] at hc
     ·cases hc
    split at hc
    ·simp only [Option.bind_eq_bind, Option.bind_eq_some_iff] at hc
     obtain ⟨_, _, h⟩ := hc
     cases h
    ·cases hc
   | tmp t =>
    simp only [Option.bind_eq_bind, Option.bind_eq_some_iff, Option.some.injEq, MO.callv.injEq] at hc
    obtain ⟨x1, h1, a1, h2, rfl, rfl⟩ := hc
    exact ⟨_, _, rfl, rfl, (fun f h => by cases h), h1, h2⟩
   | const v =>
    simp only [Option.bind_eq_bind, Option.bind_eq_some_iff, Option.some.injEq, MO.callv.injEq] at hc
    obtain ⟨x1, h1, a1, h2, rfl, rfl⟩ := hc
    exact ⟨_, _, rfl, rfl, (fun f h => by cases h), h1, h2⟩
   | global g => simp [cX] at hc
  | builtin b =>
   exfalso
   simp only at hc
   repeat' (split at hc)
   all_goals (first | (cases hc; done) | (simp [Option.map_eq_some_iff, Option.bind_eq_some_iff] at hc; done) | skip)
   all_goals (simp only [Option.bind_eq_bind, Option.bind_eq_some_iff] at hc; obtain ⟨_, _, _, _, hc⟩ := hc; split at hc)
   all_goals (first | (cases hc; done) | (simp [Option.bind_eq_some_iff] at hc))
 case build t parts =>
  exfalso
  simp only [Option.bind_eq_bind, Option.bind_eq_some_iff] at hc
  obtain ⟨_, _, _, _, hc⟩ := hc
  split at hc
  ·simp [Option.bind_eq_some_iff] at hc
  ·cases hc
 case makeFunc fn first caps =>
  exfalso
  cases fn <;> simp only at hc <;> try (cases hc; done)
  simp [Option.bind_eq_some_iff] at hc
 case makeMap t r =>
  exfalso
  cases r with
  | some _ => simp only at hc; cases hc
  | none =>
   simp only at hc
   split at hc
   ·simp at hc
   ·cases hc
 case slice t x lo hi mx =>
  exfalso
  cases mx <;> simp only at hc <;> try (cases hc; done)
  split at hc <;> simp [Option.bind_eq_some_iff] at hc
 all_goals
  exfalso
  repeat' (split at hc)
  all_goals (first | (cases hc; done) | (simp [Option.map_eq_some_iff, Option.bind_eq_some_iff] at hc; done) | skip)
 all_goals (simp only [Option.bind_eq_bind, Option.bind_eq_some_iff] at hc)
end Go.Proofs.YtfchdbghjeophaaDoor
namespace Go.Proofs.YtfchdbghjeophaaDoor
open Go.RowKit
theorem V.sameB {E : Env} {w w' : World} (hS : ∀ b, E.S b → w'.heap[b]? = w.heap[b]?) {m : MV} {v : Value} (hv : V E w m v) : V E w' m v := by
 induction hv with
 | junk v => exact .junk v
 | yld => exact .yld
 | emp a => exact .emp a
 | lit v => exact .lit v
 | agg cs vs hl _ ih => exact .agg cs vs hl ih
 | tup cs vs hl _ ih => exact .tup cs vs hl ih
 | fn f k cs vs hl _ ih => exact .fn f k cs vs hl ih
 | sl es vs A cap sz hc hs hl _ hA ih =>
  refine .sl es vs A cap sz hc hs hl ih fun h0 => ?_
  obtain ⟨b, off, e, hb, hcell⟩ := hA h0
  exact ⟨b, off, e, hb, fun i v hi => (World.cell?_of_block (w := w) (a := ⟨b, off + i, none⟩) (hS b hb)).trans (hcell i v hi)⟩
 | rp e off vs b o hl _ hb hcell ih =>
  exact .rp e off vs b o hl ih hb fun i v hi => (World.cell?_of_block (w := w) (a := ⟨b, o + i, none⟩) (hS b hb)).trans (hcell i v hi)
 | ptr id i off g b o hk hg hd => exact .ptr id i off g b o hk hg hd
 | arr id i n g A cap hk hg hd => exact .arr id i n g A cap hk hg hd
 | mp id g b hk hg hd => exact .mp id g b hk hg hd
 | rm es vs b ents ck hl _ hm hb hh ih => exact .rm es vs b ents ck hl ih hm hb ((hS b hb).trans hh)
theorem HRel.sameB {E : Env} {h : MHeap} {w w' : World} (hr : HRel E h w) (hS : ∀ b, E.S b → w'.heap[b]? = w.heap[b]?) (hK : ∀ id, E.K id → 0 < E.cp id → w'.heap[E.ρ id]? = w.heap[E.ρ id]?) (hsz : w.heap.size ≤ w'.heap.size) : HRel E h w' :=
 ⟨hr.klt, hr.top, fun id hk => by
  obtain ⟨es, a1, a2, a3, a4, a5⟩ := hr.obj id hk
  refine ⟨es, a1, a2, a3, a4, fun hc => ?_⟩
  obtain ⟨arr, t, b1, b2, b3⟩ := a5 hc
  exact ⟨arr, t, by rw [hK id hk hc]; exact b1, b2, fun k c hk => by obtain ⟨v, c1, c2⟩ := b3 k c hk; exact ⟨v, c1, c2.sameB hS⟩⟩, hr.inj, hr.sep, fun b hb => Nat.lt_of_lt_of_le (hr.slt b hb) hsz, fun p hp => (hr.tab p hp).sameB hS⟩
theorem V.cl_eq {E : Env} {w : World} {m : MV} {v : Value} (hv : V E w m v) (hc : m.cl = true) : v = concV m := by
 cases hv with
 | lit v => rfl
 | agg cs vs hl hv =>
  simp only [concV, Value.agg.injEq]
  congr 1
  simp only [MV.cl, List.all_eq_true] at hc
  refine List.ext_getElem? fun i => ?_
  rw [List.getElem?_map]
  by_cases hi : i < cs.length
  ·have h1 : cs[i]? = some cs[i] := by simp
   have hi' : i < vs.length := hl ▸ hi
   have h2 : vs[i]? = some vs[i] := by simp
   have := hv i _ _ h1 h2
   have hcl := hc cs[i] (List.getElem_mem _)
   rw [h1, h2]
   generalize hm : cs[i] = m at this hcl
   cases m <;> simp at hcl
   simp [this.lit_eq]
  ·have hi' : ¬ i < vs.length := hl ▸ hi
   simp [Nat.not_lt.1 hi, Nat.not_lt.1 hi']
 | _ => cases hc
theorem Vs.cl_eq {E : Env} {w : World} {ms : List MV} {vs : List Value} (hv : Vs E w ms vs) (hc : ms.all MV.cl = true) : vs = ms.map concV := by
 refine List.ext_getElem? fun i => ?_
 rw [List.getElem?_map]
 by_cases hi : i < ms.length
 ·have h1 : ms[i]? = some ms[i] := by simp
  have hi' : i < vs.length := hv.1 ▸ hi
  have h2 : vs[i]? = some vs[i] := by simp
  rw [h1, h2, (hv.2 i _ _ h1 h2).cl_eq (List.all_eq_true.1 hc _ (List.getElem_mem _))]
  rfl
 ·have hi' : ¬ i < vs.length := hv.1 ▸ hi
  simp [Nat.not_lt.1 hi, Nat.not_lt.1 hi']
section
variable {P : Program} {O : Oracle} {N : Nat} {full : List (List MV)} {l : Nat} {S : Nat → Prop} {J : (Nat → Prop) → Nat → World → Prop} {Jx : World → Prop}
structure ItH (P : Program) (full : List (List MV)) (l : Nat) (S : Nat → Prop) (J : (Nat → Prop) → Nat → World → Prop) (Jx : World → Prop) : Prop where
 ab : ∀ T T' k A A', J T k A → Below A.heap.size A A' → (∀ b, T' b → T b ∨ A.heap.size ≤ b) → J T' k A'
 abx : ∀ A A', Jx A → Below A.heap.size A A' → Jx A'
 yield : ∀ (T : Nat → Prop) (k : Nat) (x : Array Value) (W1 : World), (full.map fun x => (x.map concV).toArray)[k]? = some x → (∀ b, T b → b < W1.heap.size) → J T k W1 →
  YieldAt Fence.wide 0 P l x W1 fun e W' => ((e = .returned (.bool true) ∧ J T (k + 1) W') ∨ (e = .returned (.bool false) ∧ Jx W')) ∧ SameS S W1 W' ∧ SameS T W1 W'
def RelI (l : Nat) (S : Nat → Prop) (J : (Nat → Prop) → Nat → World → Prop) (Jx : World → Prop) (st : ISt) (a : Act) (w : World) : Prop :=
 ∃ (E E1 : Env) (w1 : World) (T : Nat → Prop), Slots E w st.s a ∧ HRel E st.h w ∧ E.yl = l ∧ Ext (lkn st.ln) E1 w1 E w ∧ (∀ id, E1.K id → id < st.ln) ∧ (∀ b, E1.S b → S b ∨ T b) ∧ (∀ id, E1.K id → 0 < E1.cp id → T (E1.ρ id)) ∧
  (∀ b, T b → b < w1.heap.size) ∧ (st.stop = true → Jx w1) ∧ (st.stop = false → J T st.xs.length w1) ∧ a.defers = []
theorem ext_below {n : Nat} {E1 E : Env} {w1 w : World} (hx : Ext (lkn n) E1 w1 E w) (hn : ∀ id, E1.K id → id < n) : Below w1.heap.size w1 w :=
 ⟨hx.os, hx.tape, hx.output, hx.size, fun k hk => hx.keep k hk fun id hid hl _ => by simp [lkn, hn id hid] at hl⟩
theorem evGI_ok (hO : SoundO P O) (hH : ItH P full l S J Jx) {ops : Array Oper} {o : Oper} {go : GO} (hc : compG P ops o = some go) {st : ISt} {outs : List ISt} (he : evGI O go st = some outs) (hpre : ∀ st' ∈ outs, st'.stop = false → st'.xs <+: full)
  {a : Act} {w : World} (hR : RelI l S J Jx st a w) {n : Nat} {K : Act → World → Prop} {Q : Exit → Act → World → Prop} (hK : ∀ st' ∈ outs, ∀ a' w', RelI l S J Jx st' a' w' → K a' w') :
  if Region.wanted o (yielded ops a.tmps) then o.wpIn (Fw none) n P a w K Q else (∀ f, o.about P w a.eval = some f → (Fw none).fn f) ∧ K (a.put o.dst undef) w := by
 obtain ⟨E, E1, w1, T, hs, hr, hyl, hx, hn, hS1, hK1, hT, hJx, hJ, hd⟩ := hR
 unfold evGI at he
 split at he
 ·rename_i ms hw hy
  split at he
  case isFalse => cases he
  rename_i hcl
  obtain ⟨hstop, hcl⟩ := hcl
  cases he
  rw [wantM_wanted hc hs hw]
  simp only [if_true]
  unfold isY at hy
  split at hy
  case h_2 => cases hy
  rename_i x' as' hop
  split at hy
  case h_2 => cases hy
  rename_i hxy
  cases hy
  rw [compG_op hc] at hop
  cases hco : compO P o with
  | none => rw [hco] at hop; cases hop
  | some mo =>
  rw [hco] at hop
  simp only [Option.getD_some] at hop
  subst hop
  obtain ⟨c, x, ho, hcal, hnf, hcx, hcas⟩ := callv_inv hco
  have hnd : ∀ c, o.op ≠ .defer c := fun c' e => by rw [ho] at e; cases e
  have hxv : a.eval x = .func (.yield l) #[] #[] := by
   have := hs.x hcx
   rw [hxy] at this
   generalize a.eval x = v at this
   cases this
   rw [hyl]
  have hav : c.args.toList.map a.eval = (as'.map (MX.get st.s)).map concV := (hs.xs hcas).cl_eq hcl
  obtain ⟨T', hT'⟩ : ∃ T' : Nat → Prop, T' = fun b => (E.S b ∧ ¬ S b) ∨ ∃ id, E.K id ∧ 0 < E.cp id ∧ E.ρ id = b := ⟨_, rfl⟩
  have hbel := ext_below hx hn
  have hTT : ∀ b, T' b → T b ∨ w1.heap.size ≤ b := fun b hb => by
   rw [hT'] at hb
   rcases hb with ⟨h1, h2⟩ | ⟨id, h1, h2, rfl⟩
   ·rcases hx.srcS b h1 with h | ⟨id, k1, k2, rfl⟩ | h
    ·exact .inl ((hS1 b h).resolve_left h2)
    ·exact .inl (hK1 id k1 k2)
    ·exact .inr h
   ·rcases hx.src id h1 h2 with ⟨k1, k2, k3⟩ | h
    ·exact .inl (k3 ▸ hK1 id k1 k2)
    ·exact .inr h
  have hTlt : ∀ b, T' b → b < w.heap.size := fun b hb => by
   rw [hT'] at hb
   rcases hb with ⟨h1, h2⟩ | ⟨id, h1, h2, rfl⟩
   ·exact hr.slt b h1
   ·exact hr.lt h1 h2
  have hJ' : J T' st.xs.length w := hH.ab T T' _ _ _ (hJ hstop) hbel hTT
  have hk : (full.map fun x => (x.map concV).toArray)[st.xs.length]? = some ((as'.map (MX.get st.s)).map concV).toArray := by
   have hp := hpre _ List.mem_cons_self rfl
   obtain ⟨t, ht⟩ := hp
   simp only at ht
   rw [← ht]
   simp
  obtain ⟨fn, tmps, assign, body, hy1, hy2⟩ := hH.yield T' st.xs.length _ w hk hTlt hJ'
  have hrun : (execOp a.eval o).run P w = .ok (.round l fn tmps assign body) w := by
   have e1 : c.args.map a.eval = ((as'.map (MX.get st.s)).map concV).toArray := by
    apply Array.ext'
    rw [Array.toList_map, hav]
   simp only [List.map_map] at e1 hy1
   simp [execOp, ho, hcal, resolve, hxv, Deferred.ofValue, invoke, e1, hy1]
  refine ⟨about_wide o a w, ?_⟩
  rw [Oper.semAt_eq _ _ _ hnd, hrun]
  refine ⟨fun h => by simp [Fence.wide] at h, ?_⟩
  refine (roundIn_n 0 (n - 1) hy2).mono ?_
  rintro e W' ⟨hcase, hsS, hsT⟩
  have hES : ∀ b, E.S b → W'.heap[b]? = w.heap[b]? := fun b hb => by
   by_cases h : S b
   ·exact hsS.block b h
   ·exact hsT.block b (by rw [hT']; exact .inl ⟨hb, h⟩)
  have hEK : ∀ id, E.K id → 0 < E.cp id → W'.heap[E.ρ id]? = w.heap[E.ρ id]? := fun id h1 h2 => hsT.block _ (by rw [hT']; exact .inr ⟨id, h1, h2, rfl⟩)
  have hr' : HRel E st.h W' := hr.sameB hES hEK hsS.size
  have hs' : Slots E W' st.s a := ⟨hs.1, fun i m v h1 h2 => (hs.2 i m v h1 h2).sameB hES⟩
  have hTW : ∀ b, T' b → b < W'.heap.size := fun b hb => Nat.lt_of_lt_of_le (hTlt b hb) hsS.size
  have hES2 : ∀ b, E.S b → S b ∨ T' b := fun b hb => by
   by_cases h : S b
   ·exact .inl h
   ·exact .inr (by rw [hT']; exact .inl ⟨hb, h⟩)
  have hEK2 : ∀ id, E.K id → 0 < E.cp id → T' (E.ρ id) := fun id h1 h2 => by rw [hT']; exact .inr ⟨id, h1, h2, rfl⟩
  have hputd : ∀ (v : Value), (a.put o.dst v).defers = [] := fun v => by rw [← hd]; cases o.dst <;> rfl
  rcases hcase with ⟨rfl, hJ2⟩ | ⟨rfl, hJ2⟩
  ·refine hK _ List.mem_cons_self _ _ ⟨E, E, W', T', ?_, hr', hyl, Ext.refl _ _ _, hr.klt, hES2, hEK2, hTW, (fun h => by cases h), (fun _ => by simpa using hJ2), hputd _⟩
   rw [compG_dst hc]
   exact hs'.put (.lit _) _
  ·refine hK _ (List.mem_cons_of_mem _ List.mem_cons_self) _ _ ⟨E, E, W', T', ?_, hr', hyl, Ext.refl _ _ _, hr.klt, hES2, hEK2, hTW, fun _ => hJ2, fun h => (by cases h), hputd _⟩
   rw [compG_dst hc]
   exact hs'.put (.lit _) _
 ·rw [Option.map_eq_some_iff] at he
  obtain ⟨st', he, rfl⟩ := he
  exact evG_ok hO hc hs hr he fun a' w' E' h1 h2 h3 h4 => hK _ List.mem_cons_self _ _ ⟨E', E1, w1, T, h1, h2, by rw [h3.yl]; exact hyl, hx.trans h3, hn, hS1, hK1, hT, hJx, hJ, h4.trans hd⟩
theorem evRI_ok (hO : SoundO P O) (hH : ItH P full l S J Jx) {ops : Array Oper} {n : Nat} {Q : Exit → Act → World → Prop} : ∀ {ol : List Oper} {gl : List GO} {st : ISt} {outs : List ISt} {a : Act} {w : World}, ol.mapM (compG P ops) = some gl → evRI O gl st = some outs →
  (∀ st' ∈ outs, st'.stop = false → st'.xs <+: full) → RelI l S J Jx st a w → (∀ st' ∈ outs, ∀ a' w', RelI l S J Jx st' a' w' → Q .normal a' w') → wpListIn (Fw none) n P ops Q ol a w
 | [], gl, st, outs, a, w, hm, he, hpre, hR, hQ => by
  simp at hm; subst hm
  simp [evRI] at he; subst he
  exact hQ _ List.mem_cons_self a w hR
 | o :: ol, gl, st, outs, a, w, hm, he, hpre, hR, hQ => by
  simp only [List.mapM_cons, Option.pure_def, Option.bind_eq_bind, Option.bind_eq_some_iff, Option.some.injEq] at hm
  obtain ⟨go, hgo, gl', hgl, rfl⟩ := hm
  simp only [evRI] at he
  split at he
  case h_2 => cases he
  rename_i l1 he1
  unfold wpListIn
  refine evGI_ok hO hH hgo he1 (fun st' hst' hs' => ?_) hR fun st' hst' a' w' hR' => ?_
  ·obtain ⟨r, h1, h2⟩ := bindL_some he st' hst'
   obtain ⟨st2, k1, k2, k3⟩ := evRI_goes h1 hs'
   exact k3.trans (hpre _ (h2 _ k1) k2)
  ·obtain ⟨r, h1, h2⟩ := bindL_some he st' hst'
   exact evRI_ok hO hH hgl h1 (fun st2 h3 => hpre st2 (h2 _ h3)) hR' fun st2 h3 => hQ st2 (h2 _ h3)
def CodeI (P : Program) (O : Oracle) (N : Nat) (full : List (List MV)) (l : Nat) (S : Nat → Prop) (J : (Nat → Prop) → Nat → World → Prop) (Jx : World → Prop) (c : Code) (mc : MC) : Prop :=
 ∀ (st : ISt) (outs : List (MX2 × ISt)), evI O N mc st = some outs → (∀ o ∈ outs, o.2.stop = false → o.2.xs <+: full) → ∀ (n : Nat) (a : Act) (w : World) (Q : Exit → Act → World → Prop), RelI l S J Jx st a w →
  (∀ o ∈ outs, ∀ a' w', RelI l S J Jx o.2 a' w' → Q (exitOf o.1) a' w') → c.wpIn (Fw none) n P Q a w
theorem pre_cont {f : ISt → Option (List (MX2 × ISt))} (hf : ∀ st outs, f st = some outs → Goes st outs) {l1 outs : List (MX2 × ISt)} (hb : bindL (contI f) l1 = some outs) (hpre : ∀ o ∈ outs, o.2.stop = false → o.2.xs <+: full) : ∀ o ∈ l1, o.2.stop = false → o.2.xs <+: full := fun o ho hs => by
 obtain ⟨r, h4, h5⟩ := bindL_some hb o ho
 obtain ⟨x, st'⟩ := o
 cases x with
 | normal =>
  obtain ⟨o', k1, k2, k3⟩ := hf _ _ h4 hs
  exact k3.trans (hpre _ (h5 _ k1) k2)
 | exit id =>
  simp only [contI, Option.some.injEq] at h4
  subst h4
  exact hpre _ (h5 _ (by simp)) hs
 | ret =>
  simp only [contI, Option.some.injEq] at h4
  subst h4
  exact hpre _ (h5 _ (by simp)) hs
theorem isCv_of {ops : Array Oper} {o : Oper} {g : GO} (hc : compG P ops o = some g) (hn : isCallV o.op = false) : isCv g.op = false := by
 have hop := compG_op hc
 cases hco : compO P o with
 | none => rw [hco] at hop; rw [hop]; rfl
 | some mo =>
  rw [hco] at hop
  simp only [Option.getD_some] at hop
  rw [hop]
  cases mo <;> try rfl
  exfalso
  obtain ⟨c, x, h1, h2, h3, -, -⟩ := callv_inv hco
  rw [h1] at hn
  simp only [isCallV, h2] at hn
  cases x <;> simp at hn
  all_goals exact h3 _ rfl
theorem bindL_one {α : Type} : ∀ l : List α, bindL (fun st => some [st]) l = some l
 | [] => rfl
 | a :: l => by simp only [bindL, bindL_one l]; rfl
theorem evRI_pre : ∀ (pre gs : List GO) (st : ISt), (∀ g ∈ pre, isCv g.op = false) → evRI O (pre ++ gs) st = (evR (lkn st.ln) O pre ⟨st.s, st.h⟩).bind fun st' => evRI O gs ⟨st'.s, st'.h, st.ln, st.xs, st.stop⟩
 | [], gs, st, _ => rfl
 | g :: pre, gs, st, h => by
  have hg := h g List.mem_cons_self
  have hy : isY st.s g.op = none := by
   unfold isY
   split
   ·rename_i e; rw [e] at hg; cases hg
   ·rfl
  simp only [List.cons_append, evRI, evR]
  have e1 : evGI O g st = (evG (lkn st.ln) O g ⟨st.s, st.h⟩).map fun st' => [⟨st'.s, st'.h, st.ln, st.xs, st.stop⟩] := by
   unfold evGI
   rw [hy]
   split
   ·rename_i h2; cases h2
   ·rfl
  rw [e1]
  cases hev : evG (lkn st.ln) O g ⟨st.s, st.h⟩ with
  | none => rfl
  | some st1 =>
   simp only [Option.map_some, bindL, Option.bind_some]
   rw [evRI_pre pre gs ⟨st1.s, st1.h, st.ln, st.xs, st.stop⟩ fun g hg => h g (List.mem_cons_of_mem _ hg)]
   simp only
   cases (evR (lkn st.ln) O pre ⟨st1.s, st1.h⟩).bind fun st' => evRI O gs ⟨st'.s, st'.h, st.ln, st.xs, st.stop⟩ with
   | none => rfl
   | some r => simp
theorem codeI_seal {c : Code} {mc : MC} {t : Nat} : CodeI P O N full l S J Jx c (.give t mc) := by
 intro st outs he
 simp [evI] at he
theorem compC_itok (hm : P.follows .mixedOrders = true) (hO : SoundO P O) (hA : AppO O) (hH : ItH P full l S J Jx) : ∀ (c : Code) (mc : MC), compC P c = mc.strip → seqY P c = true → CodeI P O N full l S J Jx c mc := by
 have bad : ∀ (c : Code) (mc : MC), mc.strip = .bad → CodeI P O N full l S J Jx c mc := fun c mc h => by
  refine ungive (x := .bad) (fun t m _ => codeI_seal) ?_ mc h.symm
  clear h mc
  intro mc h hns
  cases mc <;> simp [MC.strip, MC.isSeal] at h hns
  intro st outs he
  simp [evI] at he
 intro c
 induction c with
 | skip =>
  refine fun mc h _ => ungive (fun t m _ => codeI_seal) ?_ mc h; clear h mc; intro mc h hns; simp only [compC] at h; cases mc <;> simp [MC.strip, MC.isSeal] at h hns
  intro st outs he hpre n a w Q hR hQ
  simp only [evI, Option.some.injEq] at he; subst he
  exact wpIn_skip (hQ _ List.mem_cons_self a w hR)
 | ret =>
  refine fun mc h _ => ungive (fun t m _ => codeI_seal) ?_ mc h; clear h mc; intro mc h hns; simp only [compC] at h; cases mc <;> simp [MC.strip, MC.isSeal] at h hns
  intro st outs he hpre n a w Q hR hQ
  simp only [evI, Option.some.injEq] at he; subst he
  exact wpIn_ret (hQ _ List.mem_cons_self a w hR)
 | exit id =>
  refine fun mc h _ => ungive (fun t m _ => codeI_seal) ?_ mc h; clear h mc; intro mc h hns; simp only [compC] at h; cases mc <;> simp [MC.strip, MC.isSeal] at h hns; subst h
  intro st outs he hpre n a w Q hR hQ
  simp only [evI, Option.some.injEq] at he; subst he
  exact wpIn_exit (hQ _ List.mem_cons_self a w hR)
 | region id ops draw =>
  intro mc h hy
  refine ungive (fun t m _ => codeI_seal) ?_ mc h
  clear h mc
  intro mc h hns
  simp only [compC] at h
  split at h
  case h_2 => exact bad _ mc h.symm
  rename_i gl hg
  obtain ⟨q1, q2⟩ := mapM_some hg
  have hno : (ops.toList.all fun o => !isCallV o.op) = true ∨ draw = false ∨ (draw = true ∧ drawOk ops gl = true ∧ (ops.toList.dropLast.all fun o => !isCallV o.op) = true ∧ ∀ j, j < ops.size - 1 → rch ops ops.size (ops.size - 1) j = true) := by
   simp only [seqY] at hy
   rw [Bool.or_eq_true, Bool.or_eq_true] at hy
   rcases hy with (hy | hy) | hy
   ·exact .inr (.inl (by simpa using hy))
   ·exact .inl hy
   ·cases hdr : draw
    ·exact .inr (.inl rfl)
    ·unfold lastY at hy
     rw [hg] at hy
     simp only [Bool.and_eq_true] at hy
     exact .inr (.inr ⟨rfl, hy.1.1, hy.1.2, fun j hj => List.all_eq_true.1 hy.2 j (List.mem_range.2 hj)⟩)
  split at h
  ·rename_i hdr
   rw [Bool.and_eq_true, Bool.not_eq_true'] at hdr
   obtain ⟨hdr1, hdr2⟩ := hdr
   have hall : (ops.toList.all fun o => !isCallV o.op) = true := by
    rcases hno with h | h | h
    ·exact h
    ·rw [hdr1] at h; cases h
    ·rw [hdr2] at h; cases h.2.1
   have hl0 : (virt ops gl).length = ops.size := virt_len (by rw [← q1]; simp)
   have hcv : ∀ (i : Nat) g, (virt ops gl)[i]? = some g → isCv g.op = false := fun i g hi => by
    have hi2 : i < ops.toList.length := by
     have := (List.getElem?_eq_some_iff.1 hi).1
     rw [hl0] at this
     simpa using this
    rcases virt_comp hg i ops.toList[i] g (by simp) hi with hc | ⟨_, _, _, _, _, _, _, _, rfl⟩
    ·exact isCv_of hc (by simpa using List.all_eq_true.1 hall _ (List.getElem_mem hi2))
    ·rfl
   subst hdr1
   split at h
   ·rename_i hv
    cases mc <;> simp [MC.strip, MC.isSeal] at h hns
    subst h
    intro st outs he hpre n a w Q hR hQ
    simp only [evI] at he
    have hnoY : hasY (virt ops gl) = false := by
     unfold hasY
     rw [List.any_eq_false]
     intro g hg1
     obtain ⟨i, hi⟩ := List.getElem?_of_mem hg1
     rw [hcv i g hi]; simp
    rw [if_neg (by simp [hnoY])] at he
    rw [Option.map_eq_some_iff] at he
    obtain ⟨st', he, rfl⟩ := he
    obtain ⟨E, E1, w1, T, hs, hr, hyl, hx, hn, hS1, hK1, hT, hJx, hJ, hdf⟩ := hR
    have key : ∀ a' w' E', Slots E' w' st'.s a' → HRel E' st'.h w' → Ext (lkn st.ln) E w E' w' → a'.defers = a.defers → Q .normal a' w' := fun a' w' E' h1 h2 h3 h4 =>
     hQ _ List.mem_cons_self a' w' ⟨E', E1, w1, T, h1, h2, by rw [h3.yl]; exact hyl, hx.trans h3, hn, hS1, hK1, hT, hJx, hJ, h4.trans hdf⟩
    exact draw_okV hm hO hA hl0 (virt_comp hg) hv he hs hr key
   ·split at h
    case isFalse => exact bad _ mc h.symm
    rename_i hv2
    cases mc <;> simp [MC.strip, MC.isSeal] at h hns
    subst h
    intro st outs he hpre n a w Q hR hQ
    simp only [evI] at he
    have hnoY : hasY (newsL (ops.toList.zip (virt ops gl)) ++ (hoist ops (virt ops gl) ++ chks ops (hoist ops (virt ops gl)))) = false := by
     unfold hasY
     rw [List.any_eq_false]
     intro g hg1
     rcases List.mem_append.1 hg1 with h1 | h1
     ·obtain ⟨p, hp1, rfl⟩ := List.mem_map.1 h1
      obtain ⟨_, d, z, e⟩ := isH_iff (List.mem_filter.1 hp1).2
      rw [e]; simp [isCv]
     ·rcases List.mem_append.1 h1 with h1 | h1
      ·obtain ⟨i, hi⟩ := List.getElem?_of_mem h1
       simp only [hoist, List.getElem?_zipWith] at hi
       cases h2 : ops.toList[i]? with
       | none => rw [h2] at hi; cases hi
       | some o =>
        cases h3 : (virt ops gl)[i]? with
        | none => rw [h2, h3] at hi; cases hi
        | some g0 =>
         rw [h2, h3] at hi
         simp only [Option.some.injEq] at hi
         subst hi
         unfold hoG
         split
         ·split
          ·simp [isCv]
          ·rw [hcv i g0 h3]; simp
         ·rw [hcv i g0 h3]; simp
      ·unfold chks at h1
       simp only [List.mem_flatMap] at h1
       obtain ⟨i, _, j, _, h1⟩ := h1
       rw [List.mem_append] at h1
       rcases h1 with h1 | h1
       ·split at h1
        ·rw [List.mem_singleton] at h1; subst h1; simp [isCv]
        ·cases h1
       ·split at h1
        ·obtain ⟨q, _, rfl⟩ := List.mem_map.1 h1; simp [isCv]
        ·cases h1
    rw [if_neg (by simp [hnoY])] at he
    rw [Option.map_eq_some_iff] at he
    obtain ⟨st', he, rfl⟩ := he
    obtain ⟨E, E1, w1, T, hs, hr, hyl, hx, hn, hS1, hK1, hT, hJx, hJ, hdf⟩ := hR
    have key : ∀ a' w' E', Slots E' w' st'.s a' → HRel E' st'.h w' → Ext (lkn st.ln) E w E' w' → a'.defers = a.defers → Q .normal a' w' := fun a' w' E' h1 h2 h3 h4 =>
     hQ _ List.mem_cons_self a' w' ⟨E', E1, w1, T, h1, h2, by rw [h3.yl]; exact hyl, hx.trans h3, hn, hS1, hK1, hT, hJx, hJ, h4.trans hdf⟩
    exact draw_okH hm hO hA hl0 (virt_comp hg) hv2 he hs hr key
  rename_i hd
  cases mc <;> simp [MC.strip, MC.isSeal] at h hns
  subst h
  intro st outs he hpre n a w Q hR hQ
  simp only [evI] at he
  split at he
  ·rename_i hy2
   rw [Option.map_eq_some_iff] at he
   obtain ⟨l1, he, rfl⟩ := he
   cases draw with
   | false =>
    exact wpIn_region_list (evRI_ok hO hH hg he (fun st' h => hpre (.normal, st') (List.mem_map.2 ⟨st', h, rfl⟩)) hR fun st' h => hQ (.normal, st') (List.mem_map.2 ⟨st', h, rfl⟩))
   | true =>
    have hcv2 : ∀ (i : Nat) g (hi : i < ops.toList.length), gl[i]? = some g → isCallV ops.toList[i].op = false → isCv g.op = false := fun i g hi hgi hcl => isCv_of (q2 i ops.toList[i] g (by simp) hgi) hcl
    obtain ⟨g0, hg1, hg2⟩ := List.any_eq_true.1 hy2
    obtain ⟨i0, hi0⟩ := List.getElem?_of_mem hg1
    have hil0 : i0 < ops.toList.length := by rw [q1]; exact (List.getElem?_eq_some_iff.1 hi0).1
    rcases hno with h | h | ⟨_, hdk, hpre0, hw⟩
    ·exfalso
     have := hcv2 i0 g0 hil0 hi0 (by simpa using List.all_eq_true.1 h _ (List.getElem_mem hil0))
     rw [this] at hg2; cases hg2
    ·cases h
    ·have hne : gl ≠ [] := fun e => by rw [e] at hi0; simp at hi0
     have hgl : gl = gl.dropLast ++ [gl.getLast hne] := (List.dropLast_concat_getLast hne).symm
     have hpl : gl.dropLast.length = ops.size - 1 := by rw [List.length_dropLast, ← q1]; simp
     have hpos : 0 < ops.size := by have : ops.toList.length = ops.size := by simp
                                    omega
     have hpcv : ∀ g ∈ gl.dropLast, isCv g.op = false := fun g hg => by
      obtain ⟨i, hi⟩ := List.getElem?_of_mem hg
      have hil := (List.getElem?_eq_some_iff.1 hi).1
      have hi2 : i < ops.toList.length := by simp; omega
      refine hcv2 i g hi2 (by rw [hgl, List.getElem?_append_left hil]; exact hi) ?_
      have hm2 : ops.toList[i] ∈ ops.toList.dropLast := by
       have e : ops.toList.dropLast[i]? = some ops.toList[i] := by rw [List.getElem?_dropLast, if_pos (by simp; omega)]; simp
       exact List.mem_of_getElem? e
      simpa using List.all_eq_true.1 hpre0 _ hm2
     have hgcv : isCv (gl.getLast hne).op = true := by
      rw [hgl] at hg1
      rcases List.mem_append.1 hg1 with h1 | h1
      ·rw [hpcv g0 h1] at hg2; cases hg2
      ·rw [List.mem_singleton] at h1; rw [← h1]; exact hg2
     generalize hpe : gl.dropLast = pre at *
     generalize gl.getLast hne = gY at *
     subst hgl
     have hlast : ops[pre.length]? = some ops[pre.length] := by first | (simp [hpl]; done) | (simp [hpl]; omega)
     have hcl : compG P ops ops[pre.length] = some gY := q2 pre.length _ gY (by first | (simp [hpl]; done) | (simp [hpl]; omega)) (by simp)
     rw [evRI_pre pre [gY] st hpcv, Option.bind_eq_some_iff] at he
     obtain ⟨st1, he1, he2⟩ := he
     have he3 : evGI O gY ⟨st1.s, st1.h, st.ln, st.xs, st.stop⟩ = some l1 := by
      simp only [evRI] at he2
      split at he2
      case h_2 => cases he2
      rename_i l2 hl2
      rw [bindL_one l2] at he2
      cases he2
      exact hl2
     obtain ⟨E, E1, w1, T, hs, hr, hyl, hx, hn, hS1, hK1, hT, hJx, hJ, hdf⟩ := hR
     refine draw_last hm hO hA (by omega) hgcv (fun j hj => by rw [hpl]; exact hw j (by omega)) (fun i o go h1 h2 => q2 i o go (by simpa using h1) (by rw [List.getElem?_append_left (List.getElem?_eq_some_iff.1 h2).1]; exact h2)) hdk he1 hs hr fun a' w' E' h1 h2 h3 h4 => ?_
     unfold wpOpIn
     rw [hlast]
     exact evGI_ok hO hH hcl he3 (fun st' h => hpre (.normal, st') (List.mem_map.2 ⟨st', h, rfl⟩)) ⟨E', E1, w1, T, h1, h2, by rw [h3.yl]; exact hyl, hx.trans h3, hn, hS1, hK1, hT, hJx, hJ, h4.trans hdf⟩ fun st' h => hQ (.normal, st') (List.mem_map.2 ⟨st', h, rfl⟩)
  ·rw [Option.map_eq_some_iff] at he
   obtain ⟨st', he, rfl⟩ := he
   obtain ⟨E, E1, w1, T, hs, hr, hyl, hx, hn, hS1, hK1, hT, hJx, hJ, hdf⟩ := hR
   have key : ∀ a' w' E', Slots E' w' st'.s a' → HRel E' st'.h w' → Ext (lkn st.ln) E w E' w' → a'.defers = a.defers → Q .normal a' w' := fun a' w' E' h1 h2 h3 h4 =>
    hQ _ List.mem_cons_self a' w' ⟨E', E1, w1, T, h1, h2, by rw [h3.yl]; exact hyl, hx.trans h3, hn, hS1, hK1, hT, hJx, hJ, h4.trans hdf⟩
   cases draw with
   | false => exact wpIn_region_list (evR_ok hO hg he hs hr key)
   | true => exact draw_ok hm hO hA hg (by simpa using hd) he hs hr key
 | seq a b iha ihb =>
  intro mc h hy
  refine ungive (fun t m _ => codeI_seal) ?_ mc h
  clear h mc
  intro mc h hns
  simp only [compC] at h; cases mc <;> simp [MC.strip, MC.isSeal] at h hns
  simp only [seqY, Bool.and_eq_true] at hy
  intro st outs he hpre n a' w Q hR hQ
  simp only [evI] at he
  split at he
  case h_2 => cases he
  rename_i l1 hl1
  refine wpIn_seq (iha _ h.1 hy.1 st l1 hl1 (pre_cont (fun st outs h => evI_goes _ st outs h) he hpre) n a' w _ hR fun o ho a2 w2 hR2 => ?_)
  obtain ⟨r, h4, h5⟩ := bindL_some he o ho
  obtain ⟨x, st'⟩ := o
  cases x with
  | normal => exact ihb _ h.2 hy.2 st' r h4 (fun o ho => hpre o (h5 o ho)) n a2 w2 Q hR2 fun o ho => hQ o (h5 o ho)
  | exit id =>
   simp only [contI, Option.some.injEq] at h4
   subst h4
   exact hQ _ (h5 _ (by simp)) a2 w2 hR2
  | ret =>
   simp only [contI, Option.some.injEq] at h4
   subst h4
   exact hQ _ (h5 _ (by simp)) a2 w2 hR2
 | cond c a b iha ihb =>
  intro mc h hy
  refine ungive (fun t m _ => codeI_seal) ?_ mc h
  clear h mc
  intro mc h hns
  simp only [compC] at h
  split at h
  case h_2 => exact bad _ mc h.symm
  rename_i c' hc
  cases mc <;> simp [MC.strip, MC.isSeal] at h hns
  obtain ⟨rfl, h1, h2⟩ := h
  simp only [seqY, Bool.and_eq_true] at hy
  intro st outs he hpre n a' w Q hR hQ
  simp only [evI] at he
  obtain ⟨E, hrest⟩ := hR
  have hv := (hrest.choose_spec.choose_spec.choose_spec.1).x hc
  split at he
  case h_2 => cases he
  rename_i t ht
  rw [ht] at hv
  refine wpIn_cond hv.lit_eq ?_
  cases t
  ·exact ihb _ h2 hy.2 st outs he hpre n a' w Q ⟨E, hrest⟩ hQ
  ·exact iha _ h1 hy.1 st outs he hpre n a' w Q ⟨E, hrest⟩ hQ
 | block id b ih =>
  intro mc h hy
  refine ungive (fun t m _ => codeI_seal) ?_ mc h
  clear h mc
  intro mc h hns
  simp only [compC] at h; cases mc <;> simp [MC.strip, MC.isSeal] at h hns; obtain ⟨rfl, h⟩ := h
  simp only [seqY] at hy
  intro st outs he hpre n a' w Q hR hQ
  simp only [evI, Option.map_eq_some_iff] at he
  obtain ⟨l1, hl1, rfl⟩ := he
  have same : ∀ o : MX2 × ISt, (leaveB id o).2 = o.2 := fun o => by unfold leaveB; split; split <;> rfl; rfl
  refine wpIn_block (ih _ h hy st l1 hl1 (fun o ho hs => ?_) n a' w _ hR fun o ho a2 w2 hR2 => ?_)
  ·have := hpre _ (List.mem_map.2 ⟨o, ho, rfl⟩)
   rw [same] at this
   exact this hs
  ·have := hQ _ (List.mem_map.2 ⟨o, ho, rfl⟩) a2 w2 (by rw [same]; exact hR2)
   obtain ⟨x, st'⟩ := o
   cases x with
   | normal => simpa [leaveB, exitOf, Exit.inBlock] using this
   | ret => simpa [leaveB, exitOf, Exit.inBlock] using this
   | exit k =>
    by_cases e : k = id
    ·simpa [leaveB, exitOf, Exit.inBlock, e] using this
    ·simpa [leaveB, exitOf, Exit.inBlock, e] using this
 | loop b ih =>
  intro mc h hy
  refine ungive (fun t m _ => codeI_seal) ?_ mc h
  clear h mc
  intro mc h hns
  simp only [compC] at h; cases mc <;> simp [MC.strip, MC.isSeal] at h hns
  simp only [seqY] at hy
  rename_i keep mb
  intro st outs he hpre n a' w Q hR hQ
  simp only [evI] at he
  refine wpIn_loop_rounds N ?_
  have key : ∀ (M : Nat) (st1 : ISt) (outs1 : List (MX2 × ISt)) (a1 : Act) (w1 : World), roundsI (evI O N mb) M st1 = some outs1 → (∀ o ∈ outs1, o.2.stop = false → o.2.xs <+: full) → RelI l S J Jx st1 a1 w1 → (∀ o ∈ outs1, ∀ a' w', RelI l S J Jx o.2 a' w' → Q (exitOf o.1) a' w') →
    Code.roundsIn (Fw none) n P b Q M a1 w1 := by
   intro M
   induction M with
   | zero => intro st1 outs1 a1 w1 he; simp [roundsI] at he
   | succ M ihM =>
    intro st1 outs1 a1 w1 he hpre hR1 hQ1
    simp only [roundsI] at he
    split at he
    case h_2 => cases he
    rename_i l1 hl1
    rw [roundsIn_succ]
    refine ih _ h hy st1 l1 hl1 (pre_cont (fun st outs h => Goes.rounds (fun st outs h => evI_goes _ st outs h) M st outs h) he hpre) n a1 w1 _ hR1 fun o ho a2 w2 hR2 => ?_
    obtain ⟨r, h4, h5⟩ := bindL_some he o ho
    obtain ⟨x, st'⟩ := o
    cases x with
    | normal => exact ihM st' r a2 w2 h4 (fun o ho => hpre o (h5 o ho)) hR2 fun o ho => hQ1 o (h5 o ho)
    | exit id =>
     simp only [contI, Option.some.injEq] at h4
     subst h4
     exact hQ1 _ (h5 _ (by simp)) a2 w2 hR2
    | ret =>
     simp only [contI, Option.some.injEq] at h4
     subst h4
     exact hQ1 _ (h5 _ (by simp)) a2 w2 hR2
  exact key N st outs a' w he hpre hR hQ
 | rangeFunc f ps a b iha ihb =>
  intro mc h hy
  refine ungive (fun t m _ => codeI_seal) ?_ mc h
  clear h mc
  intro mc h hns
  simp only [compC] at h
  split at h
  case h_2 => exact bad _ mc h.symm
  cases mc <;> simp [MC.strip, MC.isSeal] at h hns
  intro st outs he
  simp [evI] at he
 | _ => intro mc h _; exact bad _ mc h.symm
end
end Go.Proofs.YtfchdbghjeophaaDoor
namespace Go.Proofs.YtfchdbghjeophaaDoor
open Go.RowKit
def outX : MX2 → Bool
 | .exit _ => false
 | _ => true
def itM (O : Oracle) (N : Nat) (mf : MF) (q : Nat) (caps : List MV) (h : MHeap) : Option (List (List MV)) :=
 let ids := caps.flatMap (MV.ids h 6)
 match caps.mapM (frz 0 ((List.range h.length).filter fun i => !ids.contains i) h 8) with
 | some cs => match mf.res, evI O N mf.body ⟨cs.take q ++ [.yld] ++ cs.drop q ++ List.replicate (mf.ntmps - (cs.length + 1)) (.lit undef), [], 0, [], false⟩ with
  | [], some outs => if outs.all fun o => outX o.1 then match outs.filter fun o => !o.2.stop with
    | [o] => if o.2.xs.all fun x => x.all MV.cl then some o.2.xs else none
    | _ => none
   else none
  | _, _ => none
 | none => none
def bodySeq (P : Program) (g : Nat) : Bool :=
 match P.funcs[g]? with
 | some fn => match fn.body with
  | some b => seqY P b
  | none => false
 | none => false
theorem SoundI_one {P : Program} {O : Oracle} {N : Nat} (hm : P.follows .mixedOrders = true) (hO : SoundO P O) (hA : AppO O) {g : Nat} {mf : MF} (hf : IsF P g mf) (hsq : bodySeq P g = true) {q : Nat} {caps : List MV} {h : MHeap} {xs : List (List MV)} (he : itM O N mf q caps h = some xs) :
  (∀ x ∈ xs, ∀ m ∈ x, m.cl = true) ∧ ∀ E w vs, HRel E h w → Vs E w caps vs →
  ∃ S : Nat → Prop, (∀ k, S k → E.S k ∨ ∃ id, id ∈ caps.flatMap (MV.ids h 6) ∧ E.K id ∧ 0 < E.cp id ∧ E.ρ id = k) ∧ IterK P g (vs.take q).toArray (vs.drop q).toArray (xs.map fun x => (x.map concV).toArray) S w := by
 obtain ⟨fn, b, h1, h2, h3, h4, h5⟩ := hf
 have hsb : seqY P b = true := by unfold bodySeq at hsq; rw [h1] at hsq; simp only [h2] at hsq; exact hsq
 unfold itM at he
 dsimp only at he
 split at he
 case h_2 => cases he
 rename_i cs hcs
 split at he
 case h_2 => cases he
 rename_i outs hres hev
 split at he
 case isFalse => cases he
 rename_i hout
 split at he
 case h_2 => cases he
 rename_i o hfil
 split at he
 case isFalse => cases he
 rename_i hcl
 cases he
 have hin : o ∈ outs ∧ o.2.stop = false := by
  have : o ∈ outs.filter fun o => !o.2.stop := by rw [hfil]; simp
  simpa using List.mem_filter.1 this
 have hone : ∀ p ∈ outs, p.2.stop = false → p = o := fun p hp hs => by
  have : p ∈ outs.filter fun o => !o.2.stop := List.mem_filter.2 ⟨hp, by simp [hs]⟩
  rw [hfil] at this
  simpa using this
 refine ⟨fun x hx m hmx => List.all_eq_true.1 (List.all_eq_true.1 hcl x hx) m hmx, fun E w vs hr hv => ⟨fun k => E.S k ∨ ∃ id, id ∈ caps.flatMap (MV.ids h 6) ∧ E.K id ∧ 0 < E.cp id ∧ E.ρ id = k, fun k hk => hk, ?_⟩⟩
 obtain ⟨S, hS⟩ : ∃ S : Nat → Prop, S = fun k => E.S k ∨ ∃ id, id ∈ caps.flatMap (MV.ids h 6) ∧ E.K id ∧ 0 < E.cp id ∧ E.ρ id = k := ⟨_, rfl⟩
 rw [← hS]
 intro l J Jx W hb ab abx hyield h0
 obtain ⟨Ei, hEi⟩ : ∃ Ei : Env, Ei = { E.res 0 with S := S, top := 0, yl := l } := ⟨_, rfl⟩
 have hVi : ∀ m v, V E w m v → m.lt 0 = true → V Ei w m v := fun m v hv hl => by
  have := V.resY l hv hl
  refine V.env ⟨fun b hb => ?_, fun id hk => ?_, ?_⟩ this
  ·rw [hEi, hS]; exact Or.inl hb
  ·rw [hEi]; exact ⟨hk, rfl, rfl, rfl, rfl, rfl, rfl, rfl⟩
  ·rw [hEi]
 have hck : CKd 0 w W := CKd.of_below hb
 obtain ⟨c1, c2⟩ := mapM_some hcs
 have hcv : Vs Ei W cs vs := ⟨by rw [← c1]; exact hv.1, fun i c v hc hx => by
  have hi : i < caps.length := by rw [c1]; exact (List.getElem?_eq_some_iff.1 hc).1
  have hci : caps[i]? = some caps[i] := by simp
  refine V.ck hck (frz_okG (Es := Ei) hr hVi (fun b hb => by rw [hEi, hS]; exact Or.inl hb) (fun id hk _ hni hc0 => ?_) 8 _ _ _ (hv.2 i _ v hci hx) (c2 i _ c hci hc))
  rw [hEi, hS]
  refine Or.inr ⟨id, ?_, hk, hc0, rfl⟩
  have hlt := hr.klt id hk
  refine Classical.byContradiction fun hn => hni (List.mem_filter.2 ⟨List.mem_range.2 hlt, ?_⟩)
  simpa using hn⟩
 have hSlt : ∀ k, S k → k < w.heap.size := fun k hk => by
  rw [hS] at hk
  rcases hk with hk | ⟨id, _, hk, hc, rfl⟩
  ·exact hr.slt k hk
  ·exact hr.lt hk hc
 have hri : HRel Ei [] W := ⟨fun id hk => by rw [hEi] at hk; exact absurd hk.2 (by omega), by rw [hEi]; exact Nat.le_refl _, fun id hk => by rw [hEi] at hk; exact absurd hk.2 (by omega), fun id _ hk => by rw [hEi] at hk; exact absurd hk.2 (by omega), fun id hk => by rw [hEi] at hk; exact absurd hk.2 (by omega), fun b hbS => by
  rw [hEi] at hbS
  exact Nat.lt_of_lt_of_le (hSlt b hbS) hb.size, fun p hp => (hVi p.1 p.2 (hr.tab p hp) (TABS_lt 0 p hp)).ck hck⟩
 have hargs : Vs Ei W (cs.take q ++ [.yld] ++ cs.drop q) (vs.take q ++ [.func (.yield l) #[] #[]] ++ vs.drop q) := by
  refine ((hcv.take q).append (Vs.cons ?_ ⟨rfl, fun i c v hc => by simp at hc⟩)).append (hcv.drop q)
  have : Ei.yl = l := by rw [hEi]
  rw [← this]
  exact .yld
 have hlen : (cs.take q ++ [MV.yld] ++ cs.drop q).length = cs.length + 1 := by simp; omega
 have hlen2 : (vs.take q ++ [Value.func (.yield l) #[] #[]] ++ vs.drop q).length = vs.length + 1 := by simp; omega
 have e1 : (vs.take q).toArray ++ #[Value.func (.yield l) #[] #[]] ++ (vs.drop q).toArray = (vs.take q ++ [Value.func (.yield l) #[] #[]] ++ vs.drop q).toArray := by apply Array.ext'; simp
 rw [e1]
 refine callsIn_of_wp h1 h2 trivial ?_ rfl
 refine compC_itok (full := o.2.xs) (l := l) (S := S) (J := J) (Jx := Jx) (N := N) hm hO hA ⟨ab, abx, hyield⟩ b mf.body h5 hsb _ outs hev (fun p hp hs => by rw [hone p hp hs]; exact List.prefix_refl _) 0 _ W _ ?_ fun p hp a' w' hR' => ?_
 ·refine ⟨Ei, Ei, W, fun _ => False, ⟨?_, fun i c v hc hcv' => ?_⟩, hri, by rw [hEi], Ext.refl _ _ _, fun id hk => by rw [hEi] at hk; exact hk.2, fun b hbS => .inl (by rw [hEi] at hbS; exact hbS), fun id hk => by rw [hEi] at hk; exact absurd hk.2 (by omega), fun b hb => hb.elim, (fun h => by cases h), (fun _ => h0), rfl⟩
  ·rw [List.length_append, hlen, h3]
   simp only [List.length_replicate, Array.size_append, List.size_toArray, hlen2, Array.size_replicate]
   rw [hcv.1]
  ·by_cases hi : i < cs.length + 1
   ·rw [List.getElem?_append_left (by rw [hlen]; exact hi)] at hc
    have hi' : i < (vs.take q ++ [Value.func (.yield l) #[] #[]] ++ vs.drop q).length := by rw [hlen2, ← hcv.1]; exact hi
    simp only [Array.getElem?_append, List.size_toArray, hi', if_true] at hcv'
    exact hargs.2 i c v hc (by simpa using hcv')
   ·rw [List.getElem?_append_right (by rw [hlen]; omega)] at hc
    have hi' : ¬ i < (vs.take q ++ [Value.func (.yield l) #[] #[]] ++ vs.drop q).length := by rw [hlen2, ← hcv.1]; exact hi
    simp only [Array.getElem?_append, List.size_toArray, hi', if_false] at hcv'
    rw [List.getElem?_replicate] at hc
    rw [Array.getElem?_replicate] at hcv'
    split at hc
    ·split at hcv'
     ·cases hc; cases hcv'; exact .lit _
     ·cases hcv'
    ·cases hc
 ·obtain ⟨E', E1, w1, T, k1, k2, k3, k4, k5, k6, k7, k8, k9, k10, k11⟩ := hR'
  have hbel := ext_below k4 k5
  have hrz : fn.results = #[] := by
   obtain ⟨rs0, h4, hr0⟩ := h4
   rw [hres] at hr0
   have hrs : rs0 = [] := by
    rcases hr0 with e | e
    ·exact e.symm
    ·cases rs0 with
     | nil => rfl
     | cons r rs => simp at e
   subst hrs
   have := (mapM_some h4).1
   simp at this
   exact this
  have hgo : (∃ v, Ending.returned (.tuple #[]) = .returned v) ∧ ((∃ T, J T (List.map (fun x => (List.map concV x).toArray) o.2.xs).length w') ∨ Jx w') := by
   refine ⟨⟨_, rfl⟩, ?_⟩
   cases hs : p.2.stop
   ·have := hone p hp hs
    subst this
    refine .inl ⟨T, ?_⟩
    rw [List.length_map]
    exact ab T T _ _ _ (k10 hs) hbel fun b h => .inl h
   ·exact .inr (abx _ _ (k9 hs) hbel)
  have hx := List.all_eq_true.1 hout p hp
  obtain ⟨x, st'⟩ := p
  cases x with
  | normal => exact bodyPost_end (results_none hrz _ _ _) k11 hgo
  | ret => exact bodyPost_ret (results_none hrz _ _ _) k11 hgo
  | exit id => simp [outX] at hx
structure Tab where
 mf : Nat → Option MF
 sq : Nat → Bool
def orI (M : Tab) (I0 : Iter) (O : Oracle) (N : Nat) : Iter := fun g q caps h =>
 match I0 g q caps h with
 | some xs => some xs
 | none => if M.sq g then match M.mf g with
  | some mf => itM O N mf q caps h
  | none => none else none
def TabOK (P : Program) (M : Tab) : Prop := ∀ f mf, M.mf f = some mf → hasBody P f = true ∧ IsF P f mf ∧ (M.sq f = true → bodySeq P f = true)
theorem orI_ok {P : Program} {M : Tab} (hm : P.follows .mixedOrders = true) (hM : TabOK P M) {I0 : Iter} (hI : SoundI P I0) {O : Oracle} (hO : SoundO P O) (hA : AppO O) {N : Nat} : SoundI P (orI M I0 O N) := by
 intro g q caps h xs he
 unfold orI at he
 split at he
 ·rename_i xs' hx
  cases he
  exact hI g q caps h xs hx
 ·split at he
  case isFalse => cases he
  rename_i hs
  split at he
  case h_2 => cases he
  rename_i mf hmf
  obtain ⟨k1, k2, k3⟩ := hM g mf hmf
  exact ⟨k1, SoundI_one hm hO hA k2 (k3 hs) he⟩
def noI : Iter := fun _ _ _ _ => none
theorem noI_ok (P : Program) : SoundI P noI := fun g q caps h xs he => by cases he
def tabOf (P : Program) : Tab := ⟨fun f => if hasBody P f then compF P f else none, bodySeq P⟩
theorem tabOf_ok (P : Program) : TabOK P (tabOf P) := fun f mf h => by
 simp only [tabOf] at h
 split at h
 ·rename_i hb
  exact ⟨hb, compF_isF h, fun h => h⟩
 ·cases h
end Go.Proofs.YtfchdbghjeophaaDoor
namespace Go.Proofs.YtfchdbghjeophaaDoor
open Go.RowKit
set_option linter.unusedVariables false
mutual
def MV.pure : MV → Bool
 | .lit _ | .junk => true
 | .agg cs => pureL cs
 | .tup vs => pureL vs
 | .fn _ _ cs => pureL cs
 | .sl [] => true
 | _ => false
def pureL : List MV → Bool
 | [] => true
 | v :: vs => v.pure && pureL vs
end
theorem pureL_at : ∀ {l : List MV}, pureL l = true → ∀ (i : Nat) m, l[i]? = some m → m.pure = true
 | [], h, i, m, hi => by simp at hi
 | v :: vs, h, 0, m, hi => by simp at hi; subst hi; simp only [pureL, Bool.and_eq_true] at h; exact h.1
 | v :: vs, h, i + 1, m, hi => by simp at hi; simp only [pureL, Bool.and_eq_true] at h; exact pureL_at h.2 i m hi
theorem V.pure {E E2 : Env} {w w2 : World} {m : MV} {v : Value} (hv : V E w m v) : m.pure = true → V E2 w2 m v := by
 induction hv with
 | junk v => exact fun _ => .junk v
 | lit v => exact fun _ => .lit v
 | agg cs vs hl _ ih => exact fun h => .agg cs vs hl fun i c v hc hx => ih i c v hc hx (by simp only [MV.pure] at h; exact pureL_at h i c hc)
 | tup cs vs hl _ ih => exact fun h => .tup cs vs hl fun i c v hc hx => ih i c v hc hx (by simp only [MV.pure] at h; exact pureL_at h i c hc)
 | fn f k cs vs hl _ ih => exact fun h => .fn f k cs vs hl fun i c v hc hx => ih i c v hc hx (by simp only [MV.pure] at h; exact pureL_at h i c hc)
 | sl es vs A cap sz hc hs hl _ _ _ =>
  intro h
  cases es with
  | nil => exact .sl [] vs A cap sz hc hs hl (fun i c v hc => by simp [flat] at hc) (fun h0 => absurd h0 (by simp))
  | cons e es => simp [MV.pure] at h
 | _ => intro h; simp [MV.pure] at h
theorem pure_cells {m : MV} (h : m.pure = true) : ∀ (i : Nat) c, m.cells[i]? = some c → c.pure = true := by
 intro i c hc
 cases m <;> simp only [MV.cells] at hc
 case agg cs => simp only [MV.pure] at h; exact pureL_at h i c hc
 all_goals
  cases i with
  | zero => simp at hc; subst hc; exact h
  | succ i => simp at hc
def sh1 (n : Nat) : MV → MV
 | .arr id i k g => .arr (id + n) i k g
 | m => m
def MV.isArr : MV → Bool
 | .arr _ _ _ _ => true
 | _ => false
attribute [simp] MV.isArr
def shV (n : Nat) : MV → MV
 | .tup vs => .tup (vs.map (sh1 n))
 | .agg cs => if cs.any MV.isArr then .agg (cs.map (sh1 n)) else .agg cs
 | m => sh1 n m
def ok1 (p : Bool) : MV → Bool
 | .arr _ _ _ _ => true
 | m => m.lt 0 && (p || m.pure)
def okV (p : Bool) : MV → Bool
 | .tup vs => vs.all (ok1 p)
 | .agg cs => if cs.any MV.isArr then cs.all (ok1 p) else ok1 p (.agg cs)
 | m => ok1 p m
def okH (p : Bool) (news : MHeap) : Bool := news.all fun o => ltL 0 o.es && (p || pureL o.es)
def frzCall (run : List MV → Option (MV × MHeap)) (args : List MV) (h : MHeap) : Option (MV × MHeap) :=
 match args.mapM (frz 0 [] h 8) with
 | some args' => match run args' with
  | some (m, news) => if okV (ltL 0 args) m && okH (ltL 0 args) news then some (shV h.length m, h ++ news) else none
  | none => none
 | none => none
def Post (E : Env) (w : World) (m : MV) (h' : MHeap) (e : Ending) (w' : World) : Prop := ∃ v E', e = .returned v ∧ V E' w' m v ∧ HRel E' h' w' ∧ Ext (fun _ => true) E w E' w'
theorem frz_lt0 {h : MHeap} {m m' : MV} (hl : m.lt 0 = true) (he : frz 0 [] h 8 m = some m') : m' = m := by
 simp [frz, hl] at he
 exact he.symm
theorem post_back {E : Env} {h : MHeap} {w : World} {S0 : Nat → Prop} {news : MHeap} {m : MV} {e : Ending} {w' : World} {p : Bool} (hr : HRel E h w) (h1 : ∀ b, E.S b → S0 b) (h2 : ∀ b, S0 b → E.S b ∨ ∃ id, E.K id ∧ 0 < E.cp id ∧ E.ρ id = b)
  (hp : p = true → ∀ b, S0 b → E.S b) (hm : okV p m = true) (hn : okH p news = true) (hP : Post { E with K := fun _ => False, S := S0, top := 0 } w m news e w') : Post E w (shV h.length m) (h ++ news) e w' := by
 obtain ⟨v, E1, rfl, hv1, hr1, hx1⟩ := hP
 have hnew : ∀ id, E1.K id → 0 < E1.cp id → w.heap.size ≤ E1.ρ id := fun id hk hc => by
  rcases hx1.src id hk hc with ⟨hf, _⟩ | hge
  ·exact hf.elim
  ·exact hge
 have hkeep : ∀ k, k < w.heap.size → w'.heap[k]? = w.heap[k]? := fun k hk => hx1.keep k hk fun id hf => hf.elim
 have hS1 : ∀ b, E1.S b → S0 b ∨ w.heap.size ≤ b := fun b hb => by
  rcases hx1.srcS b hb with hb | ⟨id, hf, _⟩ | hb
  ·exact .inl hb
  ·exact hf.elim
  ·exact .inr hb
 obtain ⟨E', hE'⟩ : ∃ E' : Env, E' = { S := fun b => E.S b ∨ (p = true ∧ E1.S b), K := fun id => E.K id ∨ (h.length ≤ id ∧ E1.K (id - h.length)), ρ := fun id => if id < h.length then E.ρ id else E1.ρ (id - h.length), bo := fun id => if id < h.length then E.bo id else E1.bo (id - h.length), cp := fun id => if id < h.length then E.cp id else E1.cp (id - h.length), sz := fun id => if id < h.length then E.sz id else E1.sz (id - h.length), gn := fun id => if id < h.length then E.gn id else E1.gn (id - h.length), ln := fun id => if id < h.length then E.ln id else E1.ln (id - h.length), nl := fun id => if id < h.length then E.nl id else E1.nl (id - h.length), top := E.top, yl := E.yl } := ⟨_, rfl⟩
 have eS : ∀ b, E'.S b ↔ E.S b ∨ (p = true ∧ E1.S b) := fun b => by rw [hE']
 have eK : ∀ id, E'.K id ↔ E.K id ∨ (h.length ≤ id ∧ E1.K (id - h.length)) := fun id => by rw [hE']
 have eold : ∀ id, E.K id → id < h.length ∧ E'.ρ id = E.ρ id ∧ E'.bo id = E.bo id ∧ E'.cp id = E.cp id ∧ E'.sz id = E.sz id ∧ E'.gn id = E.gn id ∧ E'.ln id = E.ln id ∧ E'.nl id = E.nl id := fun id hk => by
  have hl := hr.klt id hk
  rw [hE']; simp [hl]
 have enew : ∀ id, E'.ρ (id + h.length) = E1.ρ id ∧ E'.bo (id + h.length) = E1.bo id ∧ E'.cp (id + h.length) = E1.cp id ∧ E'.sz (id + h.length) = E1.sz id ∧ E'.gn (id + h.length) = E1.gn id ∧ E'.ln (id + h.length) = E1.ln id ∧ E'.nl (id + h.length) = E1.nl id := fun id => by
  have hl : ¬ id + h.length < h.length := by omega
  rw [hE']; simp [hl]
 have kcase : ∀ id, E'.K id → E.K id ∨ ∃ j, id = j + h.length ∧ E1.K j := fun id hk => by
  rcases (eK id).1 hk with hk | ⟨h1, h2⟩
  ·exact .inl hk
  ·exact .inr ⟨id - h.length, by omega, h2⟩
 have ey : E'.yl = E1.yl := by rw [hx1.yl, hE']
 have ey2 : E'.yl = E.yl := by rw [hE']
 have et : E'.top = E.top := by rw [hE']
 have hx : Ext (fun _ => true) E w E' w' := by
  refine ⟨hx1.os, hx1.tape, hx1.output, hx1.size, fun k hk _ => hkeep k hk, fun b hb => (eS b).2 (.inl hb), fun id hk => (eK id).2 (.inl hk), fun id hk => ?_, fun id hk _ => ?_, fun id hk hc => ?_, et, fun id hk => ?_, ey2, fun b hb => ?_⟩
  ·obtain ⟨_, a1, a2, a3, a4, a5, a6, a7⟩ := eold id hk
   exact ⟨by omega, fun _ => ⟨a1, a2, a3, a4, a6, a7⟩⟩
  ·exact (eold id hk).2.2.2.2.2.1
  ·rcases kcase id hk with hk | ⟨j, rfl, hk'⟩
   ·obtain ⟨_, a1, a2, a3, a4, a5, a6, a7⟩ := eold id hk
    exact .inl ⟨hk, by rw [← a3]; exact hc, a1⟩
   ·obtain ⟨a1, a2, a3, _⟩ := enew j
    rw [a1]
    exact .inr (hnew j hk' (by rw [← a3]; exact hc))
  ·rcases kcase id hk with hk | ⟨j, rfl, hk'⟩
   ·exact .inl hk
   ·exact .inr (by have := hr.top; omega)
  ·rcases (eS b).1 hb with hb | ⟨hp1, hb⟩
   ·exact .inl hb
   ·rcases hS1 b hb with hb | hb
    ·exact .inl (hp hp1 b hb)
    ·exact .inr (.inr hb)
 have hT : ∀ c x, V E1 w' c x → c.lt 0 = true → (p || c.pure) = true → V E' w' c x := fun c x hc hl hpc => by
  cases hpp : p
  ·rw [hpp] at hpc
   exact hc.pure (by simpa using hpc)
  ·exact V.env (E := E1.res 0) ⟨fun b hb => (eS b).2 (.inr ⟨hpp, hb⟩), fun id hk => absurd hk.2 (by omega), ey⟩ (hc.res hl)
 have hT1 : ∀ c x, V E1 w' c x → ok1 p c = true → V E' w' (sh1 h.length c) x := fun c x hc ho => by
  cases c with
  | arr id i k g =>
   cases hc with
   | arr _ _ _ _ A cap hk hg hd =>
    obtain ⟨a1, a2, a3, a4, a5, a6, a7⟩ := enew id
    refine .arr _ _ _ _ A cap ((eK _).2 (.inr ⟨by omega, by rw [Nat.add_sub_cancel]; exact hk⟩)) (by rw [a5]; exact hg) fun e => ?_
    rw [a1, a2, a3, a4, a6, a7]
    exact hd (by rw [← a5]; exact e)
  | _ =>
   simp only [ok1, Bool.and_eq_true] at ho
   exact hT _ x hc ho.1 ho.2
 have hV : V E' w' (shV h.length m) v := by
  cases m with
  | tup vs =>
   cases hv1 with
   | tup _ us hl hc =>
    refine .tup _ us (by simpa using hl) fun i c x hci hx => ?_
    rw [List.getElem?_map, Option.map_eq_some_iff] at hci
    obtain ⟨c0, h0, rfl⟩ := hci
    exact hT1 c0 x (hc i c0 x h0 hx) (List.all_eq_true.1 hm c0 (List.mem_of_getElem? h0))
  | agg cs =>
   simp only [okV] at hm
   simp only [shV]
   by_cases ha : cs.any MV.isArr = true
   ·rw [if_pos ha] at hm ⊢
    cases hv1 with
    | agg _ us hl hc =>
     refine .agg _ us (by simpa using hl) fun i c x hci hx => ?_
     rw [List.getElem?_map, Option.map_eq_some_iff] at hci
     obtain ⟨c0, h0, rfl⟩ := hci
     exact hT1 c0 x (hc i c0 x h0 hx) (List.all_eq_true.1 hm c0 (List.mem_of_getElem? h0))
   ·rw [if_neg ha] at hm ⊢
    exact hT1 (.agg cs) v hv1 hm
  | _ => exact hT1 _ v hv1 hm
 refine ⟨v, E', rfl, hV, ⟨fun id hk => ?_, ?_, fun id hk => ?_, fun i j hi hj ci cj e => ?_, fun id hk hc hb => ?_, fun b hb => ?_, fun p hp => (hr.tab p hp).ext hr hx⟩, hx⟩
 ·rcases kcase id hk with hk | ⟨j, rfl, hk'⟩
  ·have := hr.klt id hk; simp; omega
  ·have := hr1.klt j hk'; simp; omega
 ·rw [et]; have := hr.top; simp; omega
 ·rcases kcase id hk with hk | ⟨j, rfl, hk'⟩
  ·obtain ⟨es, o1, o2, o3, o4, o5⟩ := hr.obj id hk
   obtain ⟨hl, a1, a2, a3, a4, a5, a6, a7⟩ := eold id hk
   rw [a1, a2, a3, a4, a5, a6, a7]
   refine ⟨es, by rw [List.getElem?_append_left hl]; exact o1, o2, o3, o4, fun hc => ?_⟩
   obtain ⟨arr, t, b1, b2, b3⟩ := o5 hc
   refine ⟨arr, t, by rw [hkeep _ (hr.lt hk hc)]; exact b1, b2, fun k c hkc => ?_⟩
   obtain ⟨x, c1, c2⟩ := b3 k c hkc
   exact ⟨x, c1, c2.ext hr hx⟩
  ·obtain ⟨es, o1, o2, o3, o4, o5⟩ := hr1.obj j hk'
   obtain ⟨a1, a2, a3, a4, a5, a6, a7⟩ := enew j
   rw [a1, a2, a3, a4, a5, a6, a7]
   have hok : (ltL 0 es && (p || pureL es)) = true := List.all_eq_true.1 hn _ (List.mem_of_getElem? o1)
   simp only [Bool.and_eq_true, Bool.or_eq_true] at hok
   refine ⟨es, by rw [List.getElem?_append_right (by omega), Nat.add_sub_cancel]; exact o1, o2, o3, o4, fun hc => ?_⟩
   obtain ⟨arr, t, b1, b2, b3⟩ := o5 hc
   refine ⟨arr, t, b1, b2, fun k c hkc => ?_⟩
   obtain ⟨x, c1, c2⟩ := b3 k c hkc
   obtain ⟨ei, hei, hci⟩ := List.mem_flatMap.1 (List.mem_of_getElem? hkc)
   obtain ⟨i1, hi1⟩ := List.getElem?_of_mem hei
   obtain ⟨i2, hi2⟩ := List.getElem?_of_mem hci
   refine ⟨x, c1, hT c x c2 (lt_cells (ltL_at hok.1 i1 ei hi1) i2 c hi2) ?_⟩
   rcases hok.2 with hp1 | hp1
   ·simp [hp1]
   ·simp [pure_cells (pureL_at hp1 i1 ei hi1) i2 c hi2]
 ·rcases kcase i hi with hi | ⟨i', rfl, hi'⟩
  ·rcases kcase j hj with hj | ⟨j', rfl, hj'⟩
   ·obtain ⟨_, a1, _, a3, _⟩ := eold i hi
    obtain ⟨_, b1, _, b3, _⟩ := eold j hj
    rw [a3] at ci; rw [b3] at cj; rw [a1, b1] at e
    exact hr.inj i j hi hj ci cj e
   ·obtain ⟨_, a1, _, a3, _⟩ := eold i hi
    obtain ⟨b1, _, b3, _⟩ := enew j'
    rw [a3] at ci; rw [b3] at cj; rw [a1, b1] at e
    have := hr.lt hi ci
    have := hnew j' hj' cj
    omega
  ·rcases kcase j hj with hj | ⟨j', rfl, hj'⟩
   ·obtain ⟨a1, _, a3, _⟩ := enew i'
    obtain ⟨_, b1, _, b3, _⟩ := eold j hj
    rw [a3] at ci; rw [b3] at cj; rw [a1, b1] at e
    have := hr.lt hj cj
    have := hnew i' hi' ci
    omega
   ·obtain ⟨a1, _, a3, _⟩ := enew i'
    obtain ⟨b1, _, b3, _⟩ := enew j'
    rw [a3] at ci; rw [b3] at cj; rw [a1, b1] at e
    rw [hr1.inj i' j' hi' hj' ci cj e]
 ·rcases kcase id hk with hk | ⟨j, rfl, hk'⟩
  ·obtain ⟨_, a1, _, a3, _⟩ := eold id hk
   rw [a3] at hc; rw [a1] at hb
   have hlt := hr.lt hk hc
   rcases (eS _).1 hb with hb | ⟨hp1, hb⟩
   ·exact hr.sep id hk hc hb
   ·rcases hS1 _ hb with hb | hb
    ·exact hr.sep id hk hc (hp hp1 _ hb)
    ·omega
  ·obtain ⟨a1, _, a3, _⟩ := enew j
   rw [a3] at hc; rw [a1] at hb
   rcases (eS _).1 hb with hb | ⟨hp1, hb⟩
   ·have := hr.slt _ hb
    have := hnew j hk' hc
    omega
   ·exact hr1.sep j hk' hc hb
 ·rcases (eS _).1 hb with hb | ⟨hp1, hb⟩
  ·exact Nat.lt_of_lt_of_le (hr.slt b hb) hx1.size
  ·exact hr1.slt b hb
theorem frzCall_ok {P : Program} {f : Nat} {run : List MV → Option (MV × MHeap)} (hrun : ∀ args' m news, run args' = some (m, news) → ∀ E w vs, HRel E [] w → Vs E w args' vs → Calls P f vs.toArray w (Post E w m news))
  {args : List MV} {h h' : MHeap} {m : MV} (he : frzCall run args h = some (m, h')) {E : Env} {w : World} {vs : List Value} (hr : HRel E h w) (hv : Vs E w args vs) : Calls P f vs.toArray w (Post E w m h') := by
 unfold frzCall at he
 split at he
 case h_2 => cases he
 rename_i args' hargs
 split at he
 case h_2 => cases he
 rename_i m0 news hm
 split at he
 case isFalse => cases he
 rename_i hok
 simp only [Bool.and_eq_true] at hok
 cases he
 obtain ⟨q1, q2⟩ := mapM_some hargs
 by_cases hA : ltL 0 args = true
 ·rw [hA] at hok
  have hv' : Vs { E with K := fun _ => False, S := E.S, top := 0 } w args' vs := by
   refine ⟨by rw [← q1]; exact hv.1, fun i c x hc hx => ?_⟩
   have hi : i < args.length := by rw [q1]; exact (List.getElem?_eq_some_iff.1 hc).1
   have hci : args[i]? = some args[i] := by simp
   have hl := ltL_at hA i _ hci
   rw [frz_lt0 hl (q2 i _ c hci hc)]
   exact V.env (E := E.res 0) (E2 := { E with K := fun _ => False, S := E.S, top := 0 }) ⟨fun b hb => hb, fun id hk => absurd hk.2 (by omega), rfl⟩ ((hv.2 i _ x hci hx).res hl)
  have hri : HRel { E with K := fun _ => False, S := E.S, top := 0 } [] w := ⟨fun _ hk => hk.elim, Nat.le_refl _, fun _ hk => hk.elim, fun _ _ hk => hk.elim, fun _ hk => hk.elim, hr.slt, fun p hp => V.env (E := E.res 0) (E2 := { E with K := fun _ => False, S := E.S, top := 0 }) ⟨fun b hb => hb, fun id hk => absurd hk.2 (by omega), rfl⟩ ((hr.tab p hp).res (TABS_lt 0 p hp))⟩
  exact (hrun args' m0 news hm _ w vs hri hv').mono fun e w' hP => post_back hr (fun b hb => hb) (fun b hb => .inl hb) (fun _ b hb => hb) hok.1 hok.2 hP
 ·have hA' : ltL 0 args = false := by simpa using hA
  rw [hA'] at hok
  obtain ⟨S0, hS0⟩ : ∃ S0 : Nat → Prop, S0 = fun b => E.S b ∨ ∃ id, E.K id ∧ 0 < E.cp id ∧ E.ρ id = b := ⟨_, rfl⟩
  have hv' : Vs { E with K := fun _ => False, S := S0, top := 0 } w args' vs := by
   refine ⟨by rw [← q1]; exact hv.1, fun i c x hc hx => ?_⟩
   have hi : i < args.length := by rw [q1]; exact (List.getElem?_eq_some_iff.1 hc).1
   have hci : args[i]? = some args[i] := by simp
   refine frz_okG (Es := { E with K := fun _ => False, S := S0, top := 0 }) hr (fun m v hv hl => V.env (E := E.res 0) (E2 := { E with K := fun _ => False, S := S0, top := 0 }) ⟨fun b hb => (by rw [hS0]; exact .inl hb : S0 b), fun id hk => absurd hk.2 (by omega), rfl⟩ (hv.res hl)) (fun b hb => ?_) (fun id hk _ _ hc0 => ?_) 8 _ _ _ (hv.2 i _ x hci hx) (q2 i _ c hci hc)
   ·show S0 b
    rw [hS0]; exact .inl hb
   ·show S0 (E.ρ id)
    rw [hS0]; exact .inr ⟨id, hk, hc0, rfl⟩
  have hri : HRel { E with K := fun _ => False, S := S0, top := 0 } [] w := ⟨fun _ hk => hk.elim, Nat.le_refl _, fun _ hk => hk.elim, fun _ _ hk => hk.elim, fun _ hk => hk.elim, fun b hb => by
   have hb : S0 b := hb
   rw [hS0] at hb
   rcases hb with hb | ⟨id, hk, hc, rfl⟩
   ·exact hr.slt b hb
   ·exact hr.lt hk hc, fun p hp => V.env (E := E.res 0) (E2 := { E with K := fun _ => False, S := S0, top := 0 }) ⟨fun b hb => by show S0 b; rw [hS0]; exact .inl hb, fun id hk => absurd hk.2 (by omega), rfl⟩ ((hr.tab p hp).res (TABS_lt 0 p hp))⟩
  exact (hrun args' m0 news hm _ w vs hri hv').mono fun e w' hP => post_back hr (fun b hb => by rw [hS0]; exact .inl hb) (fun b hb => by rw [hS0] at hb; exact hb) (fun h => by cases h) hok.1 hok.2 hP
theorem frzCall_app {run : List MV → Option (MV × MHeap)} {args : List MV} {h h' : MHeap} {m : MV} (he : frzCall run args h = some (m, h')) : ∃ t, h' = h ++ t := by
 unfold frzCall at he
 split at he
 ·split at he
  ·split at he
   ·cases he; exact ⟨_, rfl⟩
   ·cases he
  ·cases he
 ·cases he
def runZ (M : Tab) (O : Oracle) (I : Iter) (N f : Nat) (args : List MV) (h : MHeap) : Option (MV × MHeap) :=
 match M.mf f with
 | some mf => runF O I N mf args h
 | none => none
def tabZ (M : Tab) (T O : Oracle) (I : Iter) (N f : Nat) (args : List MV) : Option (MV × MHeap) :=
 match T f args [] with
 | some r => some r
 | none => runZ M O I N f args []
def orZ (M : Tab) (T : Oracle) (I0 : Iter) (N : Nat) : Nat → Oracle
 | 0, _, _, _ => none
 | k + 1, f, args, h => match frzCall (tabZ M T (orZ M T I0 N k) (orI M I0 (orZ M T I0 N k) N) N f) args h with
  | some r => some r
  | none => runZ M (orZ M T I0 N k) (orI M I0 (orZ M T I0 N k) N) N f args h
theorem runZ_ok {P : Program} {M : Tab} (hm : P.follows .mixedOrders = true) (hM : TabOK P M) {O : Oracle} {I : Iter} (hO : SoundO P O) (hA : AppO O) (hI : SoundI P I) {N f : Nat} {args : List MV} {h h' : MHeap} {m : MV} (he : runZ M O I N f args h = some (m, h')) :
  hasBody P f = true ∧ ∀ E w vs, HRel E h w → Vs E w args vs → Calls P f vs.toArray w (Post E w m h') := by
 unfold runZ at he
 split at he
 case h_2 => cases he
 rename_i mf hmf
 obtain ⟨k1, k2, k3⟩ := hM f mf hmf
 exact ⟨k1, fun E w vs hr hv => runF_ok hm hO hA hI k2 he hr hv⟩
theorem runZ_app {M : Tab} {O : Oracle} {I : Iter} {N f : Nat} {args : List MV} {h h' : MHeap} {m : MV} (he : runZ M O I N f args h = some (m, h')) : ∃ t, h' = h ++ t := by
 unfold runZ at he
 split at he
 case h_2 => cases he
 exact runF_app he
theorem tabZ_ok {P : Program} {M : Tab} (hm : P.follows .mixedOrders = true) (hM : TabOK P M) {T O : Oracle} {I : Iter} (hT : SoundO P T) (hO : SoundO P O) (hA : AppO O) (hI : SoundI P I) {N f : Nat} {args : List MV} {h' : MHeap} {m : MV} (he : tabZ M T O I N f args = some (m, h')) :
  hasBody P f = true ∧ ∀ E w vs, HRel E [] w → Vs E w args vs → Calls P f vs.toArray w (Post E w m h') := by
 unfold tabZ at he
 split at he
 ·rename_i r hr
  cases he
  exact hT.1 f args [] m h' hr
 ·exact runZ_ok hm hM hO hA hI he
theorem orZ_ok {P : Program} {M : Tab} (hm : P.follows .mixedOrders = true) (hM : TabOK P M) {T : Oracle} {I0 : Iter} (hT : SoundO P T) (hI : SoundI P I0) {N : Nat} : ∀ k, SoundO P (orZ M T I0 N k) ∧ AppO (orZ M T I0 N k)
 | 0 => ⟨⟨fun f args h m h' he => by simp [orZ] at he, hT.2⟩, fun f args h m h' he => by simp [orZ] at he⟩
 | k + 1 => by
  obtain ⟨h1, h2⟩ := orZ_ok (N := N) hm hM hT hI k
  have hI' : SoundI P (orI M I0 (orZ M T I0 N k) N) := orI_ok hm hM hI h1 h2
  refine ⟨⟨fun f args h m h' he => ?_, hT.2⟩, fun f args h m h' he => ?_⟩
  ·simp only [orZ] at he
   split at he
   ·rename_i r hr
    cases he
    have hb : hasBody P f = true := by
     unfold frzCall at hr
     split at hr
     case h_2 => cases hr
     split at hr
     case h_2 => cases hr
     rename_i hrun
     exact (tabZ_ok hm hM hT h1 h2 hI' hrun).1
    exact ⟨hb, fun E w vs hrl hv => frzCall_ok (fun args' m news hrun => (tabZ_ok hm hM hT h1 h2 hI' hrun).2) hr hrl hv⟩
   ·exact runZ_ok hm hM h1 h2 hI' he
  ·simp only [orZ] at he
   split at he
   ·rename_i r hr
    cases he
    exact frzCall_app hr
   ·exact runZ_app he
theorem orZ_call {M : Tab} {T : Oracle} {I0 : Iter} {N k f : Nat} {args args' : List MV} {h : MHeap} {m : MV} {news : MHeap} (h1 : args.mapM (frz 0 [] h 8) = some args') (h2 : tabZ M T (orZ M T I0 N k) (orI M I0 (orZ M T I0 N k) N) N f args' = some (m, news))
  (h3 : okV (ltL 0 args) m = true) (h4 : okH (ltL 0 args) news = true) : orZ M T I0 N (k + 1) f args h = some (shV h.length m, h ++ news) := by
 simp only [orZ, frzCall, h1, h2, h3, h4, Bool.and_self, if_true]
end Go.Proofs.YtfchdbghjeophaaDoor

/- Evaluation with open values: slots as a list of what is known, rules for control. -/
namespace Go.Proofs.YtfchdbghjeophaaDoor
open Go.RowKit
set_option linter.unusedVariables false
abbrev Sl := List (Nat × MV)
def look : Sl → Nat → Option MV
 | [], _ => none
 | (u, v) :: A, t => if t = u then some v else look A t
theorem look_cons (u : Nat) (v : MV) (A : Sl) (t : Nat) : look ((u, v) :: A) t = if t = u then some v else look A t := rfl
structure SRel (n : Nat) (A : Sl) (s : List MV) : Prop where
 len : s.length = n
 get : ∀ t v, look A t = some v → s.getD t (.lit undef) = v
theorem SRel.put {n : Nat} {A : Sl} {s : List MV} (h : SRel n A s) {t : Nat} (ht : t < n) (v : MV) : SRel n ((t, v) :: A) (s.set t v) := by
 refine ⟨by rw [List.length_set, h.len], fun u x hu => ?_⟩
 rw [look_cons] at hu
 by_cases e : u = t
 ·subst e
  have hl := h.len
  rw [if_pos rfl] at hu
  cases hu
  simp [List.getD_eq_getElem?_getD, show u < s.length by omega]
 ·rw [if_neg e] at hu
  rw [← h.get u x hu]
  simp [List.getD_eq_getElem?_getD, show ¬ t = u from fun x => e x.symm]
def XV (A : Sl) : MX → MV → Prop
 | .s t, v => look A t = some v
 | .c c, v => c = v
theorem SRel.x {n : Nat} {A : Sl} {s : List MV} (h : SRel n A s) {x : MX} {v : MV} (hx : XV A x v) : MX.get s x = v := by
 cases x with
 | s t => exact h.get t v hx
 | c c => exact hx
def XVs (A : Sl) : List MX → List MV → Prop
 | [], vs => vs = []
 | x :: xs, vs => ∃ v us, vs = v :: us ∧ XV A x v ∧ XVs A xs us
theorem XVs.nil {A : Sl} : XVs A [] [] := rfl
theorem XVs.cons {A : Sl} {x : MX} {xs : List MX} {v : MV} {vs : List MV} (h : XV A x v) (hs : XVs A xs vs) : XVs A (x :: xs) (v :: vs) := ⟨v, vs, rfl, h, hs⟩
theorem SRel.xs {n : Nat} {A : Sl} {s : List MV} (h : SRel n A s) : ∀ {xs : List MX} {vs : List MV}, XVs A xs vs → xs.map (MX.get s) = vs
 | [], vs, hx => by cases hx; rfl
 | x :: xs, vs, hx => by
  obtain ⟨v, us, rfl, h1, h2⟩ := hx
  simp only [List.map_cons, h.x h1, h.xs h2]
structure Ef (O : Oracle) (I : Iter) (N n : Nat) (lk : Nat → Bool) (mc : MC) (A : Sl) (h : MHeap) (Q : MX2 → Sl → MHeap → Prop) : Prop where
 run : ∀ s, SRel n A s → ∃ x s' h', evC O I N mc lk ⟨s, h⟩ = some (x, ⟨s', h'⟩) ∧ ∃ A', SRel n A' s' ∧ Q x A' h'
section
variable {O : Oracle} {I : Iter} {N n : Nat} {lk : Nat → Bool} {A : Sl} {h : MHeap} {Q : MX2 → Sl → MHeap → Prop}
theorem Ef.mono {mc : MC} {Q' : MX2 → Sl → MHeap → Prop} (hE : Ef O I N n lk mc A h Q) (hQ : ∀ x A h, Q x A h → Q' x A h) : Ef O I N n lk mc A h Q' := .mk fun s hs => by
 obtain ⟨x, s', h', h1, A', h2, h3⟩ := hE.run s hs
 exact ⟨x, s', h', h1, A', h2, hQ _ _ _ h3⟩
inductive seqQ (O : Oracle) (I : Iter) (N n : Nat) (lk : Nat → Bool) (b : MC) (Q : MX2 → Sl → MHeap → Prop) : MX2 → Sl → MHeap → Prop
 | normal (A : Sl) (h : MHeap) : Ef O I N n lk b A h Q → seqQ O I N n lk b Q .normal A h
 | ret (A : Sl) (h : MHeap) : Q .ret A h → seqQ O I N n lk b Q .ret A h
 | exit (id : Nat) (A : Sl) (h : MHeap) : Q (.exit id) A h → seqQ O I N n lk b Q (.exit id) A h
inductive blockQ (id : Nat) (Q : MX2 → Sl → MHeap → Prop) : MX2 → Sl → MHeap → Prop
 | normal (A : Sl) (h : MHeap) : Q .normal A h → blockQ id Q .normal A h
 | ret (A : Sl) (h : MHeap) : Q .ret A h → blockQ id Q .ret A h
 | here (A : Sl) (h : MHeap) : Q .normal A h → blockQ id Q (.exit id) A h
 | there (k : Nat) (A : Sl) (h : MHeap) : k ≠ id → Q (.exit k) A h → blockQ id Q (.exit k) A h
theorem ef_skip (hQ : Q .normal A h) : Ef O I N n lk .skip A h Q := .mk fun s hs => ⟨_, s, h, rfl, A, hs, hQ⟩
theorem ef_ret (hQ : Q .ret A h) : Ef O I N n lk .ret A h Q := .mk fun s hs => ⟨_, s, h, rfl, A, hs, hQ⟩
theorem ef_exit {id : Nat} (hQ : Q (.exit id) A h) : Ef O I N n lk (.exit id) A h Q := .mk fun s hs => ⟨_, s, h, rfl, A, hs, hQ⟩
theorem ef_seq {a b : MC} (hE : Ef O I N n lk a A h (seqQ O I N n lk b Q)) : Ef O I N n lk (.seq a b) A h Q := .mk fun s hs => by
 obtain ⟨x, s', h', h1, A', h2, h3⟩ := hE.run s hs
 cases h3 with
 | normal _ _ h3 =>
  obtain ⟨y, s2, h2', k1, k2⟩ := h3.run s' h2
  exact ⟨y, s2, h2', by simp only [evC, h1, k1], k2⟩
 | exit id _ _ h3 => exact ⟨_, s', h', by simp only [evC, h1], A', h2, h3⟩
 | ret _ _ h3 => exact ⟨_, s', h', by simp only [evC, h1], A', h2, h3⟩
theorem ef_givev {t id i k g : Nat} {b : MC} {v' : MV} {h1 : MHeap} (htn : Nat.blt t n = true) (ht : look A t = some (.arr id i k g)) (hg : giveV lk h (.arr id i k g) = some (v', h1)) (hE : Ef O I N n lk b ((t, v') :: A) h1 Q) : Ef O I N n lk (.give t b) A h Q := .mk fun s hs => by
 obtain ⟨x, s', h', e1, A', h2, h3⟩ := hE.run (s.set t v') (hs.put (by simpa [Nat.blt_eq] using htn) v')
 exact ⟨x, s', h', by simp only [evC, hs.get t _ ht, hg, e1], A', h2, h3⟩
theorem ef_block {id : Nat} {b : MC} (hE : Ef O I N n lk b A h (blockQ id Q)) : Ef O I N n lk (.block id b) A h Q := .mk fun s hs => by
 obtain ⟨x, s', h', h1, A', h2, h3⟩ := hE.run s hs
 cases h3 with
 | normal _ _ h3 => exact ⟨_, s', h', by simp only [evC, h1], A', h2, h3⟩
 | ret _ _ h3 => exact ⟨_, s', h', by simp only [evC, h1], A', h2, h3⟩
 | here _ _ h3 => exact ⟨.normal, s', h', by simp only [evC, h1, if_true], A', h2, h3⟩
 | there k _ _ hk h3 => exact ⟨.exit k, s', h', by simp only [evC, h1, if_neg hk], A', h2, h3⟩
theorem ef_cond {c : MX} {a b : MC} {t : Bool} (hc : XV A c (.lit (.bool t))) (h1 : t = true → Ef O I N n lk a A h Q) (h2 : t = false → Ef O I N n lk b A h Q) : Ef O I N n lk (.cond c a b) A h Q := .mk fun s hs => by
 have hc' := hs.x hc
 cases t
 ·obtain ⟨x, s', h', k1, k2⟩ := (h2 rfl).run s hs
  exact ⟨x, s', h', by simp only [evC, hc', Bool.false_eq_true, if_false, k1], k2⟩
 ·obtain ⟨x, s', h', k1, k2⟩ := (h1 rfl).run s hs
  exact ⟨x, s', h', by simp only [evC, hc', if_true, k1], k2⟩
theorem ef_condt {c : MX} {a b : MC} {t : Bool} (hc : XV A c (.lit (.bool t))) (ht : t = true) (h1 : Ef O I N n lk a A h Q) : Ef O I N n lk (.cond c a b) A h Q := ef_cond hc (fun _ => h1) fun e => by rw [ht] at e; cases e
theorem ef_condf {c : MX} {a b : MC} {t : Bool} (hc : XV A c (.lit (.bool t))) (ht : t = false) (h1 : Ef O I N n lk b A h Q) : Ef O I N n lk (.cond c a b) A h Q := ef_cond hc (fun e => by rw [ht] at e; cases e) fun _ => h1
theorem ef_nil (hQ : Q .normal A h) : Ef O I N n lk (.reg []) A h Q := .mk fun s hs => ⟨_, s, h, rfl, A, hs, hQ⟩
theorem ef_reg {g : GO} {os : List GO} (hE : ∀ s, SRel n A s → ∃ s1 h1 A1, evG lk O g ⟨s, h⟩ = some ⟨s1, h1⟩ ∧ SRel n A1 s1 ∧ Ef O I N n lk (.reg os) A1 h1 Q) : Ef O I N n lk (.reg (g :: os)) A h Q := .mk fun s hs => by
 obtain ⟨s1, h1, A1, e1, e2, e3⟩ := hE s hs
 obtain ⟨x, s', h', k1, k2⟩ := e3.run s1 e2
 refine ⟨x, s', h', ?_, k2⟩
 simp only [evC, Option.map_eq_some_iff] at k1 ⊢
 obtain ⟨st, k3, k4⟩ := k1
 exact ⟨st, by simp only [evR, e1, Option.bind_some, k3], k4⟩
theorem ef_op {t : Nat} {op : MO} {os : List GO} {v : MV} {h1 : MHeap} (he : ∀ s, SRel n A s → evO lk O s h op = some (v, h1)) (ht : Nat.blt t n = true) (hE : Ef O I N n lk (.reg os) ((t, v) :: A) h1 Q) : Ef O I N n lk (.reg (⟨none, some t, op⟩ :: os)) A h Q :=
 ef_reg fun s hs => ⟨s.set t v, h1, _, by simp only [evG, wantM, he s hs, if_true, putM], hs.put (by simpa [Nat.blt_eq] using ht) v, hE⟩
theorem ef_op0 {op : MO} {os : List GO} {v : MV} {h1 : MHeap} (he : ∀ s, SRel n A s → evO lk O s h op = some (v, h1)) (hE : Ef O I N n lk (.reg os) A h1 Q) : Ef O I N n lk (.reg (⟨none, none, op⟩ :: os)) A h Q :=
 ef_reg fun s hs => ⟨s, h1, _, by simp only [evG, wantM, he s hs, if_true, putM], hs, hE⟩
theorem wantM_x {s : List MV} (hs : SRel n A s) {u : Nat} {b x : Bool} (hg : look A u = some (.lit (.bool x))) : wantM s (some (u, b)) = some (x == b) := by
 simp only [wantM, hs.get u _ hg]
theorem ef_gy {u : Nat} {b : Bool} {t : Option Nat} {op : MO} {os : List GO} {x : Bool} (hg : look A u = some (.lit (.bool x))) (hx : x = b) (hE : Ef O I N n lk (.reg (⟨none, t, op⟩ :: os)) A h Q) : Ef O I N n lk (.reg (⟨some (u, b), t, op⟩ :: os)) A h Q := .mk fun s hs => by
 subst hx
 obtain ⟨y, s', h', k1, k2⟩ := hE.run s hs
 refine ⟨y, s', h', ?_, k2⟩
 simp only [evC, evR] at k1 ⊢
 have e1 : evG lk O ⟨some (u, x), t, op⟩ ⟨s, h⟩ = evG lk O ⟨none, t, op⟩ ⟨s, h⟩ := by
  simp only [evG, wantM_x hs hg, beq_self_eq_true]
  rfl
 rw [e1]; exact k1
theorem ef_gn {u t : Nat} {b x : Bool} {op : MO} {os : List GO} (hg : look A u = some (.lit (.bool x))) (hx : x = !b) (ht : Nat.blt t n = true)
  (hE : Ef O I N n lk (.reg os) ((t, .lit undef) :: A) h Q) : Ef O I N n lk (.reg (⟨some (u, b), some t, op⟩ :: os)) A h Q :=
 ef_reg fun s hs => ⟨s.set t (.lit undef), h, _, by
  simp only [evG, wantM_x hs hg, hx]
  cases b <;> simp [putM], hs.put (by simpa [Nat.blt_eq] using ht) _, hE⟩
theorem ef_gu {t u : Nat} {b : Bool} {op : MO} {os : List GO} (hg : look A u = some (.lit undef)) (ht : Nat.blt t n = true)
  (hE : Ef O I N n lk (.reg os) ((t, .lit undef) :: A) h Q) : Ef O I N n lk (.reg (⟨some (u, b), some t, op⟩ :: os)) A h Q :=
 ef_reg fun s hs => ⟨s.set t (.lit undef), h, _, by
  have : wantM s (some (u, b)) = some false := by simp only [wantM]; rw [hs.get u _ hg]; rfl
  simp [evG, this, putM], hs.put (by simpa [Nat.blt_eq] using ht) _, hE⟩
def Sub (B A : Sl) : Prop := ∀ t v, look B t = some v → look A t = some v
theorem Ef.sub {mc : MC} {B : Sl} (hE : Ef O I N n lk mc B h Q) (hk : Sub B A) : Ef O I N n lk mc A h Q := .mk fun s hs =>
 hE.run s ⟨hs.len, fun t v ht => hs.get t v (hk t v ht)⟩
def Hold (A : Sl) (l : Sl) : Prop := ∀ p ∈ l, look A p.1 = some p.2
theorem Hold.nil {A : Sl} : Hold A [] := fun _ h => by cases h
theorem Hold.cons {A : Sl} {t : Nat} {v : MV} {l : Sl} (h : look A t = some v) (hl : Hold A l) : Hold A ((t, v) :: l) := fun p hp => by
 rcases List.mem_cons.1 hp with rfl | hp
 ·exact h
 ·exact hl p hp
theorem Hold.sub {A B : Sl} (h : Hold A B) : Sub B A := by
 intro t v ht
 induction B with
 | nil => simp [look] at ht
 | cons p B ih =>
  obtain ⟨u, x⟩ := p
  rw [look_cons] at ht
  split at ht
  ·rename_i e
   cases ht
   subst e
   exact h _ List.mem_cons_self
  ·exact ih (fun p hp => h p (List.mem_cons_of_mem _ hp)) ht
theorem keepS_get' (keep : List Nat) : ∀ (s : List MV) (i t : Nat), (keepS keep i s)[t]? = (s[t]?).map fun v => if keep.contains (i + t) then v else .junk
 | [], i, t => by simp [keepS]
 | v :: s, i, 0 => by simp [keepS]
 | v :: s, i, t + 1 => by
  simp only [keepS, List.getElem?_cons_succ]
  rw [keepS_get' keep s (i + 1) t, show i + 1 + t = i + (t + 1) by omega]
theorem keepS_len' (keep : List Nat) : ∀ (s : List MV) (i : Nat), (keepS keep i s).length = s.length
 | [], i => rfl
 | v :: s, i => by simp [keepS, keepS_len' keep s]
theorem keepS_getD {keep : List Nat} {s : List MV} {t : Nat} (ht : t ∈ keep) : (keepS keep 0 s).getD t (.lit undef) = s.getD t (.lit undef) := by
 rw [List.getD_eq_getElem?_getD, keepS_get', List.getD_eq_getElem?_getD]
 cases s[t]? <;> simp [ht]
def headH (keep : List Nat) (m : Nat) (A : Sl) (h : MHeap) : Prop := h.length ≤ m ∨ ((∀ t ∈ keep, ∃ v, look A t = some v ∧ v.lt m = true) ∧ hltL m (h.take m) = true)
theorem ltL_iff' {n : Nat} : ∀ {l : List MV}, ltL n l = true ↔ ∀ m ∈ l, m.lt n = true
 | [] => by simp [ltL]
 | v :: l => by simp [ltL, ltL_iff' (l := l)]
theorem headM_take {keep : List Nat} {m : Nat} {s : List MV} (hs : SRel n A s) (hh : headH keep m A h) : headM keep m ⟨s, h⟩ = ⟨keepS keep 0 s, h.take m⟩ := by
 unfold headM
 dsimp only
 split
 ·rename_i hl
  rw [List.take_of_length_le hl]
 ·rename_i hl
  rcases hh with h1 | ⟨h1, h2⟩
  ·exact absurd h1 hl
  ·rw [if_pos]
   rw [Bool.and_eq_true]
   refine ⟨ltL_iff'.2 fun v hv => ?_, h2⟩
   obtain ⟨t, ht⟩ := List.getElem?_of_mem hv
   rw [keepS_get', Option.map_eq_some_iff] at ht
   obtain ⟨v0, h3, rfl⟩ := ht
   simp only [Nat.zero_add]
   split
   ·rename_i hc
    have hc' : t ∈ keep := by simpa using hc
    obtain ⟨v, q1, q2⟩ := h1 t hc'
    have := hs.get t v q1
    rw [List.getD_eq_getElem?_getD, h3] at this
    simp only [Option.getD_some] at this
    rw [this]
    exact q2
   ·rfl
inductive loopQ (R : Sl → MHeap → Prop) (Q : MX2 → Sl → MHeap → Prop) : MX2 → Sl → MHeap → Prop
 | normal (A : Sl) (h : MHeap) : R A h → loopQ R Q .normal A h
 | ret (A : Sl) (h : MHeap) : Q .ret A h → loopQ R Q .ret A h
 | exit (id : Nat) (A : Sl) (h : MHeap) : Q (.exit id) A h → loopQ R Q (.exit id) A h
theorem look_mem {t : Nat} {v : MV} : ∀ {B : Sl}, look B t = some v → t ∈ B.map (·.1)
 | [], ht => by simp [look] at ht
 | (u, x) :: B, ht => by
  rw [look_cons] at ht
  split at ht
  ·rename_i e; simp [e]
  ·simp [look_mem ht]
theorem ef_loop {α : Type} {keep : List Nat} {b : MC} (Inv : α → Prop) (hd : α → Sl) (hp : α → MHeap) (ms : α → Nat) (a0 : α) (ks : List Nat) (hks : ∀ a, (hd a).map (·.1) = ks) (hk : ks.all (fun t => keep.contains t) = true) (h0 : Inv a0) (hN : ms a0 < N)
  (hA : Hold A (hd a0)) (hH : hp a0 = h)
  (hb : ∀ a, Inv a → Ef O I N n lk b (hd a) (hp a) (loopQ (fun A' h' => ∃ a', Inv a' ∧ ms a' < ms a ∧ Hold A' (hd a') ∧ headH keep h.length A' h' ∧ h'.take h.length = hp a') Q)) : Ef O I N n lk (.loop keep b) A h Q := .mk fun s hs => by
 have key : ∀ (M : Nat) (a : α) (A1 : Sl) (s1 : List MV) (h1 : MHeap), Inv a → ms a < M → SRel n A1 s1 → Hold A1 (hd a) → headH keep h.length A1 h1 → h1.take h.length = hp a →
   ∃ x s' h', rounds (fun st' => evC O I N b lk (headM keep h.length st')) M ⟨s1, h1⟩ = some (x, ⟨s', h'⟩) ∧ ∃ A', SRel n A' s' ∧ Q x A' h' := by
  intro M
  induction M with
  | zero => intro a A1 s1 h1 _ hM; omega
  | succ M ih =>
   intro a A1 s1 h1 hI hM hs1 hA1 hh1 hh2
   have e1 := headM_take hs1 hh1
   rw [hh2] at e1
   obtain ⟨x, s', h', k1, A', k2, k3⟩ := (hb a hI).run (keepS keep 0 s1) ⟨by rw [keepS_len', hs1.len], fun t v ht => by
    have hmem : t ∈ keep := by
     have := look_mem ht
     rw [hks] at this
     simpa using List.all_eq_true.1 hk t this
    rw [keepS_getD hmem]
    exact hs1.get t v (hA1.sub t v ht)⟩
   cases k3 with
   | normal _ _ k3 =>
    obtain ⟨a', j1, j2, j3, j4, j5⟩ := k3
    obtain ⟨x, s2, h2, i1, i2⟩ := ih a' A' s' h' j1 (by omega) k2 j3 j4 j5
    exact ⟨x, s2, h2, by simp only [rounds, e1, k1]; exact i1, i2⟩
   | exit id _ _ k3 => exact ⟨_, s', h', by simp only [rounds, e1, k1], A', k2, k3⟩
   | ret _ _ k3 => exact ⟨_, s', h', by simp only [rounds, e1, k1], A', k2, k3⟩
 obtain ⟨x, s', h', k1, k2⟩ := key N a0 A s h h0 hN hs hA (.inl (Nat.le_refl _)) (by rw [List.take_length, hH])
 exact ⟨x, s', h', by simp only [evC]; exact k1, k2⟩
def ResV (A : Sl) (h : MHeap) : MRes → MV → Prop
 | .tmp t, v => look A t = some v
 | .cell t ag, v => ∃ id i off g o e, look A t = some (.ptr id i off g) ∧ h[id]? = some o ∧ o.g = g ∧ o.es[i]? = some e ∧ rdCells e.cells off ag = some v
 | .cello _ _, _ => False
def ResVs (A : Sl) (h : MHeap) : List MRes → List MV → Prop
 | [], vs => vs = []
 | r :: rs, vs => ∃ v us, vs = v :: us ∧ ResV A h r v ∧ ResVs A h rs us
theorem ResVs.ok {s : List MV} (hs : SRel n A s) : ∀ {rs : List MRes} {vs : List MV}, ResVs A h rs vs → rs.mapM (resM s h) = some vs
 | [], vs, hr => by cases hr; rfl
 | r :: rs, vs, hr => by
  obtain ⟨v, us, rfl, h1, h2⟩ := hr
  have e1 : resM s h r = some v := by
   cases r with
   | tmp t => simp only [resM, hs.get t v h1]
   | cell t ag =>
    obtain ⟨id, i, off, g, o, e, q1, q2, q3, q4, q5⟩ := h1
    simp only [resM, hs.get t _ q1, q2, q3, if_true, q4, q5]
   | cello t ag => exact h1.elim
  simp only [List.mapM_cons, e1, ResVs.ok hs h2]
  rfl
theorem ResVs.opn : ∀ {rs : List MRes} {vs : List MV}, ResVs A h rs vs → opn rs vs = vs ∧ ∀ vs', clo rs vs vs' = oneOf vs'
 | [], vs, hr => by cases hr; exact ⟨rfl, fun _ => rfl⟩
 | r :: rs, vs, hr => by
  obtain ⟨v, us, rfl, h1, h2⟩ := hr
  cases r with
  | cello t ag => exact h1.elim
  | tmp t => exact ⟨rfl, fun _ => rfl⟩
  | cell t ag => exact ⟨rfl, fun _ => rfl⟩
def argsL : Nat → List MV → Sl
 | _, [] => []
 | i, v :: vs => (i, v) :: argsL (i + 1) vs
theorem look_args : ∀ (l : List MV) (i t : Nat) (v : MV), look (argsL i l) t = some v → i ≤ t ∧ l[t - i]? = some v
 | [], i, t, v, h => by simp [argsL, look] at h
 | x :: l, i, t, v, h => by
  rw [argsL, look_cons] at h
  split at h
  ·rename_i e; subst e; cases h; simp
  ·rename_i e
   obtain ⟨h1, h2⟩ := look_args l (i + 1) t v h
   refine ⟨by omega, ?_⟩
   obtain ⟨k, hk⟩ : ∃ k, t - i = k + 1 := ⟨t - i - 1, by omega⟩
   rw [hk, List.getElem?_cons_succ, ← show t - (i + 1) = k by omega]
   exact h2
def FinF (rs : List MRes) (m : MV) (news : MHeap) (x : MX2) (A : Sl) (h : MHeap) : Prop := outX x = true ∧ ∃ vs vs', ResVs A h rs vs ∧ (impIds 0 vs).Nodup ∧ expL 0 (impIds 0 vs) h vs 0 = some (vs', news) ∧ oneOf vs' = m
theorem runZ_of {M : Tab} {f : Nat} {rs : List MRes} {b : MC} {args : List MV} {m : MV} {news : MHeap} (hmf : M.mf f = some ⟨n, rs, b⟩) (hn : args.length ≤ n)
  (hE : Ef O I N n (fun _ => false) b (argsL 0 args) [] (FinF rs m news)) : runZ M O I N f args [] = some (m, news) := by
 obtain ⟨x, s', h', k1, A', k2, hx, vs, vs', r1, r2, r3, r4⟩ := hE.run (args ++ List.replicate (n - args.length) (.lit undef)) ⟨by simp; omega, fun t v ht => by
  obtain ⟨_, h1⟩ := look_args _ _ _ _ ht
  rw [Nat.sub_zero] at h1
  have hl := (List.getElem?_eq_some_iff.1 h1).1
  rw [List.getD_eq_getElem?_getD, List.getElem?_append_left hl, h1]
  rfl⟩
 unfold runZ
 rw [hmf]
 unfold runF
 have elk : (fun id => decide (id < ([] : MHeap).length)) = fun _ => false := by funext id; simp
 dsimp only
 rw [elk, k1]
 have hx' : x = .ret ∨ x = .normal := by cases x <;> simp [outX] at hx <;> simp
 dsimp only
 obtain ⟨o1, o2⟩ := r1.opn
 rw [if_pos hx', ResVs.ok k2 r1]
 simp only [List.length_nil, o1, o2, r2, if_true, r3, r4, List.nil_append]
def FinO (t : Nat) (ag : Option Nat) (m : MV) (news : MHeap) (x : MX2) (A : Sl) (h : MHeap) : Prop := outX x = true ∧ ∃ cs vs', ResV A h (.cell t ag) (.agg cs) ∧ (impIds 0 cs).Nodup ∧ expL 0 (impIds 0 cs) h cs 0 = some (vs', news) ∧ .agg vs' = m
theorem runZ_ofO {M : Tab} {f t : Nat} {ag : Option Nat} {b : MC} {args : List MV} {m : MV} {news : MHeap} (hmf : M.mf f = some ⟨n, [.cello t ag], b⟩) (hn : args.length ≤ n)
  (hE : Ef O I N n (fun _ => false) b (argsL 0 args) [] (FinO t ag m news)) : runZ M O I N f args [] = some (m, news) := by
 obtain ⟨x, s', h', k1, A', k2, hx, cs, vs', r1, r2, r3, r4⟩ := hE.run (args ++ List.replicate (n - args.length) (.lit undef)) ⟨by simp; omega, fun t v ht => by
  obtain ⟨_, h1⟩ := look_args _ _ _ _ ht
  rw [Nat.sub_zero] at h1
  have hl := (List.getElem?_eq_some_iff.1 h1).1
  rw [List.getD_eq_getElem?_getD, List.getElem?_append_left hl, h1]
  rfl⟩
 unfold runZ
 rw [hmf]
 unfold runF
 have elk : (fun id => decide (id < ([] : MHeap).length)) = fun _ => false := by funext id; simp
 dsimp only
 rw [elk, k1]
 have hx' : x = .ret ∨ x = .normal := by cases x <;> simp [outX] at hx <;> simp
 dsimp only
 have hres : [MRes.cello t ag].mapM (resM s' h') = some [.agg cs] := by
  have := ResVs.ok (rs := [.cell t ag]) (vs := [.agg cs]) k2 ⟨_, [], rfl, r1, rfl⟩
  exact this
 rw [if_pos hx', hres]
 simp only [List.length_nil, opn, clo, r2, if_true, r3, r4, List.nil_append]
theorem fin1 {x : MX2} {v v' : MV} {t : Nat} (hx : outX x = true) (hv : look A t = some v) (hl : v.lt 0 = true) (he : v = v') : FinF [.tmp t] v' [] x A h := by
 subst he
 refine ⟨hx, [v], [v], ⟨v, [], rfl, hv, rfl⟩, ?_, ?_, rfl⟩
 ·cases v <;> first | (simp [MV.lt] at hl; done) | simp [impIds]
 ·have hi : impIds 0 [v] = [] := by
   cases v <;> first | (simp [MV.lt] at hl; done) | simp [impIds]
  rw [hi]
  cases v <;> first | (simp [MV.lt] at hl; done) | simp [expL, frz, hl]
theorem fin2 {x : MX2} {a b : Value} {m : MV} {t u : Nat} (hx : outX x = true) (hv : look A t = some (.lit a)) (hw : look A u = some (.lit b)) (he : MV.tup [.lit a, .lit b] = m) : FinF [.tmp t, .tmp u] m [] x A h := by
 subst he
 exact ⟨hx, [.lit a, .lit b], [.lit a, .lit b], ⟨_, _, rfl, hv, _, _, rfl, hw, rfl⟩, by simp [impIds], by simp [expL, frz, MV.lt], rfl⟩
theorem hdl_nil {m : Nat} : ∀ t ∈ ([] : List Nat), ∃ v, look A t = some v ∧ v.lt m = true := fun t ht => by cases ht
theorem hdl_cons {m t : Nat} {v : MV} {ks : List Nat} (h : look A t = some v) (hl : v.lt m = true) (hs : ∀ t ∈ ks, ∃ v, look A t = some v ∧ v.lt m = true) : ∀ u ∈ t :: ks, ∃ v, look A u = some v ∧ v.lt m = true := fun u hu => by
 rcases List.mem_cons.1 hu with rfl | hu
 ·exact ⟨v, h, hl⟩
 ·exact hs u hu
theorem fin_arr {x : MX2} {t id i k k' g : Nat} {o : MObj} {es : List MV} {sz : Nat} {nl : Bool} (hx : outX x = true) (hv : look A t = some (.arr id i k g)) (ho : h[id]? = some o) (hg : o.g = g) (hk : i + k ≤ o.es.length) (hl : ltL 0 o.es = true) (he : (o.es.drop i).take k = es) (hz : o.sz = sz) (hn : o.nl = nl) (hkk : k = k') :
  FinF [.tmp t] (.arr 0 0 k' 0) [⟨0, nl, sz, es⟩] x A h := by
 subst he hz hn hkk
 refine ⟨hx, [.arr id i k g], [.arr 0 0 k 0], ⟨_, [], rfl, hv, rfl⟩, ?_, ?_, rfl⟩
 ·simp [impIds]
 ·simp [expL, ho, hg, hk, hl]
end
end Go.Proofs.YtfchdbghjeophaaDoor
namespace Go.Proofs.YtfchdbghjeophaaDoor
open Go.RowKit
set_option linter.unusedVariables false
def isPt : MV → Bool
 | .ptr .. => true
 | .rp .. => true
 | .fn .. => true
 | _ => false
abbrev I64 (n : Int) : MV := .lit (.int .i64 n)
abbrev Bo (b : Bool) : MV := .lit (.bool b)
section
variable {O : Oracle} {I : Iter} {N n : Nat} {lk : Nat → Bool} {A : Sl} {h : MHeap} {Q : MX2 → Sl → MHeap → Prop} {t : Nat} {os : List GO}
theorem SRel.parts {α β : Type} {s : List MV} {f : α → MX} {g : α → MV → β} (hs : SRel n A s) : ∀ {ps : List α} {vs : List MV}, XVs A (ps.map f) vs → (ps.map fun p => g p (MX.get s (f p))) = (ps.zip vs).map fun q => g q.1 q.2
 | [], vs, h => by cases h; rfl
 | p :: ps, vs, h => by
  obtain ⟨v, us, rfl, h1, h2⟩ := h
  simp only [List.map_cons, List.zip_cons_cons, hs.x h1, hs.parts h2]
def XLo (A : Sl) : Option MX → Int → Prop
 | none, l => l = 0
 | some x, l => XV A x (.lit (.int .i64 l))
theorem SRel.lo {s : List MV} (hs : SRel n A s) {lo : Option MX} {l : Int} (h : XLo A lo l) : ((lo.map (MX.get s)).map intOf?).getD (some 0) = some l := by
 cases lo with
 | none => cases h; rfl
 | some x => simp [hs.x h, intOf?]
variable (ht : Nat.blt t n = true)
include ht
theorem ef_mv {x : MX} {v : MV} (hx : XV A x v) (hE : Ef O I N n lk (.reg os) ((t, v) :: A) h Q) : Ef O I N n lk (.reg (⟨none, some t, .mv x⟩ :: os)) A h Q :=
 ef_op (fun S HS => by simp only [evO, HS.x hx]) ht hE
theorem ef_nil0 {sz : Nat} (hE : Ef O I N n lk (.reg os) ((t, .arr h.length 0 0 0) :: A) (h ++ [⟨0, true, sz, []⟩]) Q) : Ef O I N n lk (.reg (⟨none, some t, .nil0 sz⟩ :: os)) A h Q :=
 ef_op (fun S HS => by simp only [evO]) ht hE
theorem ef_nilck {x : MX} {v : MV} (hx : XV A x v) (hv : isPt v = true) (hE : Ef O I N n lk (.reg os) ((t, v) :: A) h Q) : Ef O I N n lk (.reg (⟨none, some t, .nilck x⟩ :: os)) A h Q :=
 ef_op (fun S HS => by simp only [evO, HS.x hx]; cases v <;> simp [isPt] at hv <;> rfl) ht hE
theorem ef_pick {c x y : MX} {b : Bool} {v : MV} (hc : XV A c (.lit (.bool b))) (hv : XV A (bif b then x else y) v) (hE : Ef O I N n lk (.reg os) ((t, v) :: A) h Q) : Ef O I N n lk (.reg (⟨none, some t, .pick c x y⟩ :: os)) A h Q :=
 ef_op (fun s hs => by simp only [evO, hs.x hc]; cases b <;> simp only [cond_true, cond_false] at hv <;> simp [hs.x hv]) ht hE
theorem ef_new {z : MV} (hE : Ef O I N n lk (.reg os) ((t, .ptr h.length 0 0 0) :: A) (h ++ [⟨0, false, z.cells.length, [z]⟩]) Q) : Ef O I N n lk (.reg (⟨none, some t, .new z⟩ :: os)) A h Q :=
 ef_op (fun S HS => by simp only [evO]) ht hE
theorem ef_box {sz : Nat} {x : MX} {v : MV} (hx : XV A x v) (hv : v.cells.length = sz) (hv2 : v.cOk = true) (hE : Ef O I N n lk (.reg os) ((t, .ptr h.length 0 0 0) :: A) (h ++ [⟨0, false, sz, [v]⟩]) Q) : Ef O I N n lk (.reg (⟨none, some t, .box sz x⟩ :: os)) A h Q :=
 ef_op (fun S HS => by simp only [evO, HS.x hx, hv, hv2, and_self, if_true]) ht hE
theorem ef_build {z : List MV} {ps : List (Nat × Nat × MX)} {vs cs : List MV} (hv : XVs A (ps.map (·.2.2)) vs) (h1 : fillM z ((ps.zip vs).map fun q => (q.1.1, q.2.cells)) = some cs) (h2 : (ps.zip vs).all (fun q => q.2.cells.length == q.1.2.1 && q.2.cOk) = true)
  (hE : Ef O I N n lk (.reg os) ((t, .agg cs) :: A) h Q) : Ef O I N n lk (.reg (⟨none, some t, .build z ps⟩ :: os)) A h Q :=
 ef_op (fun s hs => by
  have e1 := hs.parts (f := fun p : Nat × Nat × MX => p.2.2) (g := fun p v => (p.1, v.cells)) hv
  have e2 := hs.parts (f := fun p : Nat × Nat × MX => p.2.2) (g := fun p v => v.cells.length == p.2.1 && v.cOk) hv
  simp only [evO, e1, h1]
  have e3 : ps.all (fun p => (p.2.2.get s).cells.length == p.2.1 && (p.2.2.get s).cOk) = true := by
   rw [List.all_eq_true] at h2 ⊢
   intro p hp
   have hm : ((p.2.2.get s).cells.length == p.2.1 && (p.2.2.get s).cOk) ∈ ps.map fun p => ((p.2.2.get s).cells.length == p.2.1 && (p.2.2.get s).cOk) := List.mem_map.2 ⟨p, hp, rfl⟩
   rw [e2] at hm
   obtain ⟨q, hq, e⟩ := List.mem_map.1 hm
   rw [← e]
   exact h2 q hq
  rw [if_pos e3]) ht hE
theorem ef_bsl {z : MV} {sz len : Nat} {ps : List (Nat × MX)} {vs es : List MV} (hv : XVs A (ps.map (·.2)) vs) (h1 : setAtM (List.replicate len z) sz ((ps.zip vs).map fun q => (q.1.1, q.2)) = some es)
  (hE : Ef O I N n lk (.reg os) ((t, .arr h.length 0 len 0) :: A) (h ++ [⟨0, false, sz, es⟩]) Q) : Ef O I N n lk (.reg (⟨none, some t, .bsl z sz len ps⟩ :: os)) A h Q :=
 ef_op (fun s hs => by
  have e1 := hs.parts (f := fun p : Nat × MX => p.2) (g := fun p v => (p.1, v)) hv
  simp only [evO, e1, h1]) ht hE
theorem ef_vsl {z : MV} {sz len : Nat} {ps : List (Nat × MX)} {vs es : List MV} (hv : XVs A (ps.map (·.2)) vs) (h1 : setAtM (List.replicate len z) sz ((ps.zip vs).map fun q => (q.1.1, q.2)) = some es) (h2 : es.isEmpty = false)
  (hE : Ef O I N n lk (.reg os) ((t, .sl es) :: A) h Q) : Ef O I N n lk (.reg (⟨none, some t, .vsl z sz len ps⟩ :: os)) A h Q :=
 ef_op (fun s hs => by
  have e1 := hs.parts (f := fun p : Nat × MX => p.2) (g := fun p v => (p.1, v)) hv
  simp only [evO, e1, h1, h2, Bool.false_eq_true, if_false]) ht hE
theorem ef_vse {z : MV} {sz : Nat} (hE : Ef O I N n lk (.reg os) ((t, .emp) :: A) h Q) : Ef O I N n lk (.reg (⟨none, some t, .vsl z sz 0 []⟩ :: os)) A h Q :=
 ef_op (fun s hs => by simp [evO, setAtM]) ht hE
theorem ef_shf {op : BinOp} {x y : MX} {k k' : IntKind} {a b : Int} {v : Value} (hx : XV A x (.lit (.int k a))) (hy : XV A y (.lit (.int k' b))) (hv : shfI op k a b = some v) (hE : Ef O I N n lk (.reg os) ((t, .lit v) :: A) h Q) : Ef O I N n lk (.reg (⟨none, some t, .shf op x y⟩ :: os)) A h Q :=
 ef_op (fun S HS => by simp only [evO, HS.x hx, HS.x hy, hv, Option.map_some]) ht hE
theorem ef_sx {x y : MX} {k : IntKind} {a : Int} {b : ByteArray} {c : UInt8} (hx : XV A x (.lit (.string b))) (hy : XV A y (.lit (.int k a))) (h0 : 0 ≤ a) (hc : b.data.toList[a.toNat]? = some c) (hE : Ef O I N n lk (.reg os) ((t, .lit (.int .u8 c.toNat)) :: A) h Q) : Ef O I N n lk (.reg (⟨none, some t, .sx x y⟩ :: os)) A h Q :=
 ef_op (fun S HS => by simp only [evO, HS.x hx, HS.x hy, intOf?, h0, if_true, hc, Option.map_some]) ht hE
theorem ef_appe {sz : Nat} {s x : MX} {v : MV} {e : MV} {xs : List MV} (hs : XV A s .emp) (hx : XV A x v) (hv : v.elems h = some (e :: xs)) (hl : (e :: xs).length ≤ 4000000)
  (hk : (e :: xs).all (MV.sOk sz) = true)
  (hE : Ef O I N n lk (.reg os) ((t, .arr h.length 0 (e :: xs).length 0) :: A) (h ++ [⟨0, false, sz, e :: xs⟩]) Q) : Ef O I N n lk (.reg (⟨none, some t, .app sz s x⟩ :: os)) A h Q :=
 ef_op (fun S HS => by simp only [evO, HS.x hs, HS.x hx, hv, hl, hk, and_self, if_true, reduceCtorEq, if_false]) ht hE
theorem ef_appe0 {sz : Nat} {s x : MX} {v : MV} (hs : XV A s .emp) (hx : XV A x v) (hv : v.elems h = some [])
  (hE : Ef O I N n lk (.reg os) ((t, .emp) :: A) h Q) : Ef O I N n lk (.reg (⟨none, some t, .app sz s x⟩ :: os)) A h Q :=
 ef_op (fun S HS => by simp only [evO, HS.x hs, HS.x hx, hv, if_true]) ht hE
theorem ef_ldr {ag : Option Nat} {x : MX} {e v : MV} {off : Nat} (hx : XV A x (.rp e off)) (hv : rdCells e.cells off ag = some v) (hE : Ef O I N n lk (.reg os) ((t, v) :: A) h Q) : Ef O I N n lk (.reg (⟨none, some t, .ld ag x⟩ :: os)) A h Q :=
 ef_op (fun S HS => by simp only [evO, HS.x hx, hv, Option.map_some]) ht hE
theorem ef_ldp {ag : Option Nat} {x : MX} {e v : MV} {id i off g : Nat} {o : MObj} (hx : XV A x (.ptr id i off g)) (ho : h[id]? = some o) (hg : o.g = g) (he : o.es[i]? = some e) (hv : rdCells e.cells off ag = some v) (hE : Ef O I N n lk (.reg os) ((t, v) :: A) h Q) : Ef O I N n lk (.reg (⟨none, some t, .ld ag x⟩ :: os)) A h Q :=
 ef_op (fun S HS => by simp only [evO, HS.x hx, ho, hg, he, hv, Option.map_some, if_true]) ht hE
theorem ef_bin {op : BinOp} {x y : MX} {k : IntKind} {a b : Int} {v : Value} (hx : XV A x (.lit (.int k a))) (hy : XV A y (.lit (.int k b))) (hv : binI op k a b = some v) (hE : Ef O I N n lk (.reg os) ((t, .lit v) :: A) h Q) : Ef O I N n lk (.reg (⟨none, some t, .bin op x y⟩ :: os)) A h Q :=
 ef_op (fun S HS => by simp only [evO, HS.x hx, HS.x hy, hv, Option.map_some, if_true]) ht hE
theorem ef_sq {neg : Bool} {x y : MX} {a b : ByteArray} (hx : XV A x (.lit (.string a))) (hy : XV A y (.lit (.string b))) (hE : Ef O I N n lk (.reg os) ((t, .lit (.bool (negIf neg (a == b)))) :: A) h Q) : Ef O I N n lk (.reg (⟨none, some t, .seq neg x y⟩ :: os)) A h Q :=
 ef_op (fun S HS => by simp only [evO, HS.x hx, HS.x hy]) ht hE
theorem ef_eqna {neg : Bool} {x : MX} {id i m g : Nat} {o : MObj} (hx : XV A x (.arr id i m g)) (ho : h[id]? = some o) (hg : o.g = g) (hm : i + m ≤ o.es.length) (hE : Ef O I N n lk (.reg os) ((t, .lit (.bool (negIf neg o.nl))) :: A) h Q) : Ef O I N n lk (.reg (⟨none, some t, .eqn neg x⟩ :: os)) A h Q :=
 ef_op (fun S HS => by simp only [evO, HS.x hx, ho, hg, hm, and_self, if_true]) ht hE
theorem ef_not {x : MX} {b c : Bool} (hx : XV A x (.lit (.bool b))) (hc : (!b) = c) (hE : Ef O I N n lk (.reg os) ((t, .lit (.bool c)) :: A) h Q) : Ef O I N n lk (.reg (⟨none, some t, .un .not x⟩ :: os)) A h Q :=
 ef_op (fun S HS => by subst hc; simp only [evO, HS.x hx]) ht hE
theorem ef_notT {x : MX} (hx : XV A x (.lit (.bool true))) (hE : Ef O I N n lk (.reg os) ((t, .lit (.bool false)) :: A) h Q) : Ef O I N n lk (.reg (⟨none, some t, .un .not x⟩ :: os)) A h Q :=
 ef_not (ht := ht) hx rfl hE
theorem ef_notF {x : MX} (hx : XV A x (.lit (.bool false))) (hE : Ef O I N n lk (.reg os) ((t, .lit (.bool true)) :: A) h Q) : Ef O I N n lk (.reg (⟨none, some t, .un .not x⟩ :: os)) A h Q :=
 ef_not (ht := ht) hx rfl hE
theorem ef_neg {x : MX} {k : IntKind} {a c : Int} (hx : XV A x (.lit (.int k a))) (hc : k.wrap (0 - a) = c) (hE : Ef O I N n lk (.reg os) ((t, .lit (.int k c)) :: A) h Q) : Ef O I N n lk (.reg (⟨none, some t, .un .neg x⟩ :: os)) A h Q :=
 ef_op (fun S HS => by simp only [evO, HS.x hx, hc]) ht hE
theorem ef_cv {x : MX} {k k' : IntKind} {a c : Int} (hx : XV A x (.lit (.int k' a))) (hc : k.wrap a = c) (hE : Ef O I N n lk (.reg os) ((t, .lit (.int k c)) :: A) h Q) : Ef O I N n lk (.reg (⟨none, some t, .cv k x⟩ :: os)) A h Q :=
 ef_op (fun S HS => by simp only [evO, HS.x hx, hc]) ht hE
theorem ef_mf {f k : Nat} {cs : List MX} {vs : List MV} (hv : XVs A cs vs) (hE : Ef O I N n lk (.reg os) ((t, .fn f k vs) :: A) h Q) : Ef O I N n lk (.reg (⟨none, some t, .mf f k cs⟩ :: os)) A h Q :=
 ef_op (fun s hs => by simp only [evO, hs.xs hv]) ht hE
theorem ef_mks {z : MV} {x : MX} {m : Int} (hx : XV A x (.lit (.int .i64 m))) (h0 : 0 ≤ m) (h1 : m ≤ 1000000) (hE : Ef O I N n lk (.reg os) ((t, .arr h.length 0 m.toNat 0) :: A) (h ++ [⟨0, false, z.cells.length, List.replicate m.toNat z⟩]) Q) : Ef O I N n lk (.reg (⟨none, some t, .mks z x⟩ :: os)) A h Q :=
 ef_op (fun S HS => by simp only [evO, HS.x hx, h0, h1, and_self, if_true]) ht hE
theorem ef_slcs {sz : Nat} {x y : MX} {lo : Option MX} {es : List MV} {k : IntKind} {l u : Int} (hx : XV A x (.sl es)) (hl : XLo A lo l) (hu : XV A y (.lit (.int k u))) (h0 : 0 ≤ l ∧ l ≤ u ∧ u ≤ es.length) (hs : es.all (fun e => e.cells.length == sz) = true)
  (hE : Ef O I N n lk (.reg os) ((t, .sl ((es.drop l.toNat).take (u - l).toNat)) :: A) h Q) : Ef O I N n lk (.reg (⟨none, some t, .slc sz x lo (some y)⟩ :: os)) A h Q :=
 ef_op (fun s hs' => by simp only [evO, hs'.x hx, hs'.lo hl, Option.map_some, hs'.x hu, intOf?, h0, hs, and_self, if_true]) ht hE
theorem ef_fap {off : Nat} {x : MX} {id i o g : Nat} (hx : XV A x (.ptr id i o g)) (hE : Ef O I N n lk (.reg os) ((t, .ptr id i (o + off) g) :: A) h Q) : Ef O I N n lk (.reg (⟨none, some t, .fa off x⟩ :: os)) A h Q :=
 ef_op (fun S HS => by simp only [evO, HS.x hx]) ht hE
theorem ef_far {off : Nat} {x : MX} {e : MV} {o : Nat} (hx : XV A x (.rp e o)) (hE : Ef O I N n lk (.reg os) ((t, .rp e (o + off)) :: A) h Q) : Ef O I N n lk (.reg (⟨none, some t, .fa off x⟩ :: os)) A h Q :=
 ef_op (fun S HS => by simp only [evO, HS.x hx]) ht hE
theorem ef_ias {sz : Nat} {x i : MX} {es : List MV} {kk : IntKind} {k : Int} {e : MV} (hx : XV A x (.sl es)) (hi : XV A i (.lit (.int kk k))) (h0 : 0 ≤ k) (he : es[k.toNat]? = some e) (hs : e.cells.length = sz) (hE : Ef O I N n lk (.reg os) ((t, .rp e 0) :: A) h Q) : Ef O I N n lk (.reg (⟨none, some t, .ia sz x i⟩ :: os)) A h Q :=
 ef_op (fun S HS => by simp only [evO, HS.x hx, HS.x hi, intOf?, h0, if_true, he, Option.bind_some, hs]) ht hE
theorem ef_iaa {sz : Nat} {x i : MX} {id j m g : Nat} {kk : IntKind} {k : Int} (hx : XV A x (.arr id j m g)) (hi : XV A i (.lit (.int kk k))) (h0 : 0 ≤ k) (h1 : k < m) (hs : MHeap.ok h id g sz = true) (hE : Ef O I N n lk (.reg os) ((t, .ptr id (j + k.toNat) 0 g) :: A) h Q) : Ef O I N n lk (.reg (⟨none, some t, .ia sz x i⟩ :: os)) A h Q :=
 ef_op (fun S HS => by simp only [evO, HS.x hx, HS.x hi, intOf?, h0, h1, hs, and_self, if_true]) ht hE
theorem ef_ext {x : MX} {i : Nat} {vs : List MV} {v : MV} (hx : XV A x (.tup vs)) (hv : vs[i]? = some v) (hE : Ef O I N n lk (.reg os) ((t, v) :: A) h Q) : Ef O I N n lk (.reg (⟨none, some t, .ext x i⟩ :: os)) A h Q :=
 ef_op (fun S HS => by simp only [evO, HS.x hx, hv, Option.map_some]) ht hE
theorem ef_call {f : Nat} {as_ : List MX} {vs : List MV} {v : MV} {h1 : MHeap} (ha : XVs A as_ vs) (ho : O f vs h = some (v, h1)) (hE : Ef O I N n lk (.reg os) ((t, v) :: A) h1 Q) : Ef O I N n lk (.reg (⟨none, some t, .call f as_⟩ :: os)) A h Q :=
 ef_op (fun s hs => by simp only [evO, hs.xs ha, ho]) ht hE
theorem ef_callv {x : MX} {f k : Nat} {caps : List MV} {as_ : List MX} {us vs : List MV} {v : MV} {h1 : MHeap} (hx : XV A x (.fn f k caps)) (ha : XVs A as_ us) (hu : caps.take k ++ us ++ caps.drop k = vs) (ho : O f vs h = some (v, h1)) (hE : Ef O I N n lk (.reg os) ((t, v) :: A) h1 Q) : Ef O I N n lk (.reg (⟨none, some t, .callv x as_⟩ :: os)) A h Q :=
 ef_op (fun s hs => by simp only [evO, hs.x hx, hs.xs ha, hu, ho]) ht hE
theorem ef_sln {x : MX} {b : ByteArray} (hx : XV A x (.lit (.string b))) (hE : Ef O I N n lk (.reg os) ((t, .lit (.int .i64 b.size)) :: A) h Q) : Ef O I N n lk (.reg (⟨none, some t, .sln x⟩ :: os)) A h Q :=
 ef_op (fun S HS => by simp only [evO, HS.x hx]) ht hE
theorem ef_s2b {x : MX} {b : ByteArray} (hx : XV A x (.lit (.string b))) (hE : Ef O I N n lk (.reg os) ((t, .sl (b.data.toList.map fun c => .lit (.int .u8 c.toNat))) :: A) h Q) : Ef O I N n lk (.reg (⟨none, some t, .s2b x⟩ :: os)) A h Q :=
 ef_op (fun S HS => by simp only [evO, HS.x hx]) ht hE
theorem ef_len {x : MX} {v : MV} {m : Nat} (hx : XV A x v) (hm : v.slen = some m) (hE : Ef O I N n lk (.reg os) ((t, .lit (.int .i64 m)) :: A) h Q) : Ef O I N n lk (.reg (⟨none, some t, .len x⟩ :: os)) A h Q :=
 ef_op (fun S HS => by simp only [evO, HS.x hx, hm]) ht hE
theorem ef_app0 {sz : Nat} {s x : MX} {v : MV} {id i m g : Nat} {o : MObj} (hs : XV A s (.arr id i m g)) (hx : XV A x v) (hv : v.elems h = some []) (ho : h[id]? = some o) (hg : o.g = g) (hm : i + m = o.es.length) (hz : o.sz = sz)
  (hE : Ef O I N n lk (.reg os) ((t, .arr id i m g) :: A) h Q) : Ef O I N n lk (.reg (⟨none, some t, .app sz s x⟩ :: os)) A h Q :=
 ef_op (fun S HS => by simp only [evO, HS.x hs, HS.x hx, hv, ho, hg, hm, hz, and_self, if_true]) ht hE
theorem ef_app {sz : Nat} {s x : MX} {v : MV} {id i m g : Nat} {o : MObj} {e : MV} {xs : List MV} (hs : XV A s (.arr id i m g)) (hx : XV A x v) (hv : v.elems h = some (e :: xs)) (ho : h[id]? = some o) (hg : o.g = g) (hm : i + m = o.es.length) (hz : o.sz = sz) (hl : o.es.length + (e :: xs).length ≤ 4000000)
  (hk : (e :: xs).all (MV.sOk sz) = true) (hlk : lk id = false)
  (hE : Ef O I N n lk (.reg os) ((t, .arr id 0 (m + (e :: xs).length) (g + 1)) :: A) (h.set id ⟨g + 1, false, sz, o.es.drop i ++ (e :: xs)⟩) Q) : Ef O I N n lk (.reg (⟨none, some t, .app sz s x⟩ :: os)) A h Q :=
 ef_op (fun S HS => by simp only [evO, HS.x hs, HS.x hx, hv, ho, hg, hm, hz, hl, hk, hlk, and_self, if_true, reduceCtorEq, if_false]) ht hE
theorem ef_mx {x y : MX} {k k' : IntKind} {a b : Int} (hx : XV A x (.lit (.int k a))) (hy : XV A y (.lit (.int k' b))) (hE : Ef O I N n lk (.reg os) ((t, .lit (.int k (mx a b))) :: A) h Q) : Ef O I N n lk (.reg (⟨none, some t, .mx x y⟩ :: os)) A h Q :=
 ef_op (fun S HS => by simp only [evO, HS.x hx, HS.x hy]; rfl) ht hE
theorem ef_mn {x y : MX} {k k' : IntKind} {a b : Int} (hx : XV A x (.lit (.int k a))) (hy : XV A y (.lit (.int k' b))) (hE : Ef O I N n lk (.reg os) ((t, .lit (.int k (mn a b))) :: A) h Q) : Ef O I N n lk (.reg (⟨none, some t, .mn x y⟩ :: os)) A h Q :=
 ef_op (fun S HS => by simp only [evO, HS.x hx, HS.x hy]; rfl) ht hE
omit ht
theorem ef_st {sz : Nat} {a x : MX} {v : MV} {id i off g : Nat} {o : MObj} {e e' : MV} (hx : XV A x v) (hk : v.sOk sz = true) (ha : XV A a (.ptr id i off g)) (ho : h[id]? = some o) (hg : o.g = g) (hlk : lk id = false) (he : o.es[i]? = some e) (hw : wrElem e off v = some e')
  (hE : Ef O I N n lk (.reg os) A (h.set id { o with es := o.es.set i e' }) Q) : Ef O I N n lk (.reg (⟨none, none, .st sz a x⟩ :: os)) A h Q :=
 ef_op0 (v := .lit undef) (fun S HS => by simp only [evO, HS.x hx, hk, HS.x ha, ho, hg, hlk, he, hw, and_self, if_true]) hE
end
theorem ef_ne {O : Oracle} {I : Iter} {N n : Nat} {lk : Nat → Bool} {A : Sl} {h : MHeap} {Q : MX2 → Sl → MHeap → Prop} {os : List GO} {x y : MX} {v u : MV} (hx : XV A x v) (hy : XV A y u) (hd : neB v u = true) (hE : Ef O I N n lk (.reg os) A h Q) : Ef O I N n lk (.reg (⟨none, none, .ne x y⟩ :: os)) A h Q :=
 ef_op0 (v := .lit undef) (fun s hs => by simp only [evO, hs.x hx, hs.x hy, hd, if_true]) hE
theorem wrap_of {a : Int} (h1 : -9223372036854775808 ≤ a) (h2 : a ≤ 9223372036854775807) : IntKind.i64.wrap a = a := IntWalk.i64_in _ (by omega)
theorem bin_add {a b c : Int} (h : IntKind.i64.wrap (a + b) = c) : binI .add .i64 a b = some (.int .i64 c) := by rw [← h]; rfl
theorem bin_sub {a b c : Int} (h : IntKind.i64.wrap (a - b) = c) : binI .sub .i64 a b = some (.int .i64 c) := by rw [← h]; rfl
theorem bin_mul {a b c : Int} (h : IntKind.i64.wrap (a * b) = c) : binI .mul .i64 a b = some (.int .i64 c) := by rw [← h]; rfl
theorem rd_sub {cs vs : List MV} {off m : Nat} (hl : vs.length = m) (hp : 0 < vs.length) (h : ∀ i, i < m → cs[off + i]? = vs[i]?) : rdCells cs off (some m) = some (.agg vs) := by
 subst hl
 have hle : off + vs.length ≤ cs.length := by
  have := h (vs.length - 1) (by omega)
  have h2 : vs[vs.length - 1]? = some (vs[vs.length - 1]'(by omega)) := List.getElem?_eq_getElem (by omega)
  rw [h2] at this
  have := (List.getElem?_eq_some_iff.1 this).1
  omega
 simp only [rdCells, if_pos hle]
 congr 2
 refine List.ext_getElem? fun i => ?_
 rw [List.getElem?_take]
 split
 ·rename_i hi
  rw [List.getElem?_drop]; exact h i hi
 ·rename_i hi
  rw [List.getElem?_eq_none (by omega)]
theorem rd_2 {cs : List MV} {off : Nat} {x0 x1 : MV} (h0 : cs[off]? = some x0) (h1 : cs[off + 1]? = some x1) : rdCells cs off (some 2) = some (.agg [x0, x1]) :=
 rd_sub rfl (by simp) fun i hi => by
  match i, hi with
  | 0, _ => exact h0
  | 1, _ => exact h1
theorem rd_5 {cs : List MV} {off : Nat} {x0 x1 x2 x3 x4 : MV} (h0 : cs[off]? = some x0) (h1 : cs[off + 1]? = some x1) (h2 : cs[off + 2]? = some x2) (h3 : cs[off + 3]? = some x3) (h4 : cs[off + 4]? = some x4) : rdCells cs off (some 5) = some (.agg [x0, x1, x2, x3, x4]) :=
 rd_sub rfl (by simp) fun i hi => by
  match i, hi with
  | 0, _ => exact h0
  | 1, _ => exact h1
  | 2, _ => exact h2
  | 3, _ => exact h3
  | 4, _ => exact h4
theorem rd_6 {cs : List MV} {off : Nat} {x0 x1 x2 x3 x4 x5 : MV} (h0 : cs[off]? = some x0) (h1 : cs[off + 1]? = some x1) (h2 : cs[off + 2]? = some x2) (h3 : cs[off + 3]? = some x3) (h4 : cs[off + 4]? = some x4) (h5 : cs[off + 5]? = some x5) : rdCells cs off (some 6) = some (.agg [x0, x1, x2, x3, x4, x5]) :=
 rd_sub rfl (by simp) fun i hi => by
  match i, hi with
  | 0, _ => exact h0
  | 1, _ => exact h1
  | 2, _ => exact h2
  | 3, _ => exact h3
  | 4, _ => exact h4
  | 5, _ => exact h5
def cmpP : BinOp → Int → Int → Prop
 | .lss, a, b => a < b
 | .leq, a, b => a ≤ b
 | .gtr, a, b => b < a
 | .geq, a, b => b ≤ a
 | .eql, a, b => a = b
 | .neq, a, b => a ≠ b
 | _, _, _ => False
def isCmp : BinOp → Bool
 | .lss | .leq | .gtr | .geq | .eql | .neq => true
 | _ => false
theorem cmp_t {op : BinOp} {k : IntKind} {a b : Int} (hc : isCmp op = true) (h : cmpP op a b) : binI op k a b = some (.bool true) := by
 cases op <;> simp [isCmp] at hc <;> simp only [cmpP] at h <;> simp [binI, h]
theorem cmp_f {op : BinOp} {k : IntKind} {a b : Int} (hc : isCmp op = true) (h : ¬ cmpP op a b) : binI op k a b = some (.bool false) := by
 cases op <;> simp [isCmp] at hc <;> simp only [cmpP] at h <;> simp [binI] <;> omega
abbrev gO (t : Nat) (o : MO) : GO := ⟨none, some t, o⟩
abbrev cI (n : Int) : MX := .c (.lit (.int .i64 n))
abbrev cT : MX := .c (.lit (.bool true))
abbrev cF : MX := .c (.lit (.bool false))
end Go.Proofs.YtfchdbghjeophaaDoor

/- Words of the laws. -/
namespace Go.Proofs.YtfchdbghjeophaaDoor
open Go.RowKit
set_option linter.unusedVariables false
def inB (a lo hi : Int) : Bool := decide (lo ≤ a ∧ a ≤ hi)
theorem inB_iff {a lo hi : Int} : inB a lo hi = true ↔ lo ≤ a ∧ a ≤ hi := by simp [inB]
theorem inB_not {a lo hi : Int} : inB a lo hi = false ↔ ¬ (lo ≤ a ∧ a ≤ hi) := by simp [inB]
def unl (b : Bool) (n : Int) : Int := if b then 0 else n
def firstE : List Int → Int
 | [] => 0
 | x :: l => if x ≠ 0 then x else firstE l
end Go.Proofs.YtfchdbghjeophaaDoor

/- Open values of small things. -/
namespace Go.Proofs.YtfchdbghjeophaaDoor
open Go.RowKit
set_option linter.unusedVariables false
end Go.Proofs.YtfchdbghjeophaaDoor

/- Sorts in place: from the contract of the kit to what the small language asks. -/
namespace Go.Proofs.YtfchdbghjeophaaDoor
open Go.Shelf Go.RowKit Go.Lib Go.Sort
set_option linter.unusedVariables false
section
variable {α : Type} [Inhabited α] {toRow : α → List Int}
omit [Inhabited α] in
end
end Go.Proofs.YtfchdbghjeophaaDoor

/- No sorts here. -/
namespace Go.Proofs.YtfchdbghjeophaaDoor
open Go.RowKit
theorem sorts_ok : SortsOK Tryd.prog := fun f cf k hk => by simp [sortKind, sortHints] at hk
end Go.Proofs.YtfchdbghjeophaaDoor

/- The contract of slices.Clone at slices without elements. -/
set_option linter.unusedVariables false
set_option linter.unusedSimpArgs false
namespace Go.Proofs.YtfchdbghjeophaaDoor
open Go.RowKit
theorem run_eqNil (A : Option Addr) (n cap : Nat) (w : World) {t e : TypeId} (ht : Tryd.prog.underlying t = some (.slice e)) : (binOp .eql t (.slice A n cap) (.slice none 0 0)).run Tryd.prog w = .ok (.bool A.isNone) w := by
 simp [binOp, Op.equal, Op.maxDepth, run_equalIn_slice_nil w 9999 t e A n cap ht]
set_option maxHeartbeats 2000000 in
set_option maxRecDepth 100000 in
theorem CloneL_none (A : Option Addr) (cap : Nat) (w : World) : Calls Tryd.prog 45 #[.slice A 0 cap] w fun e w' => ∃ A' cap', Ret w (.slice A' 0 cap') e w' := by
 have hq := run_eqNil A 0 cap w (t := 22) Tryd.underlying22
 cases A with
 | none =>
  go_enter Tryd.func45, Tryd.ntmps45
  go_wp2
  all_goals (go_ret; exact ⟨_, _, rfl, Below.refl _ _⟩)
 | some a =>
  go_enter Tryd.func45, Tryd.ntmps45
  go_wp2
  all_goals (go_ret; exact ⟨_, _, rfl, (Below.refl _ w).alloc (Nat.le_refl _) _⟩)
set_option maxHeartbeats 2000000 in
set_option maxRecDepth 100000 in
theorem CloneC_none (A : Option Addr) (cap : Nat) (w : World) : Calls Tryd.prog 46 #[.slice A 0 cap] w fun e w' => ∃ A' cap', Ret w (.slice A' 0 cap') e w' := by
 have hq := run_eqNil A 0 cap w (t := 23) Tryd.underlying23
 cases A with
 | none =>
  go_enter Tryd.func46, Tryd.ntmps46
  go_wp2
  all_goals (go_ret; exact ⟨_, _, rfl, Below.refl _ _⟩)
 | some a =>
  go_enter Tryd.func46, Tryd.ntmps46
  go_wp2
  all_goals (go_ret; exact ⟨_, _, rfl, (Below.refl _ w).alloc (Nat.le_refl _) _⟩)
def Env.grow (E : Env) (w w' : World) : Env := { E with S := fun b => E.S b ∨ (w.heap.size ≤ b ∧ b < w'.heap.size) }
theorem grow_ok {E : Env} {h : MHeap} {w w' : World} (hr : HRel E h w) (hb : Below w.heap.size w w') : HRel (E.grow w w') h w' ∧ Ext (fun _ => true) E w (E.grow w w') w' := by
 have h1 := hr.ck (CKd.of_below (B := 0) hb)
 have hle : EnvLe E (E.grow w w') := ⟨fun b hb => .inl hb, fun id hk => ⟨hk, rfl, rfl, rfl, rfl, rfl, rfl, rfl⟩, rfl⟩
 refine ⟨⟨h1.klt, h1.top, fun id hk => ?_, h1.inj, fun id hk hc hs => ?_, fun b hb' => ?_, fun p hp => (h1.tab p hp).env hle⟩, ⟨hb.os, hb.tape, hb.output, hb.size, fun k hk _ => hb.block k hk, fun b hb => .inl hb, fun id hk => hk, fun id hk => ⟨Nat.le_refl _, fun _ => ⟨rfl, rfl, rfl, rfl, rfl, rfl⟩⟩, fun _ _ _ => rfl, fun id hk hc => .inl ⟨hk, hc, rfl⟩, rfl, fun id hk => .inl hk, rfl, fun b hb => hb.elim .inl fun h => .inr (.inr h.1)⟩⟩
 ·obtain ⟨es, a1, a2, a3, a4, a5⟩ := h1.obj id hk
  exact ⟨es, a1, a2, a3, a4, fun hc => by
   obtain ⟨arr, t, b1, b2, b3⟩ := a5 hc
   exact ⟨arr, t, b1, b2, fun k c hkc => by obtain ⟨v, c1, c2⟩ := b3 k c hkc; exact ⟨v, c1, c2.env hle⟩⟩⟩
 ·rcases hs with hs | hs
  ·exact hr.sep id hk hc hs
  ·have : E.ρ id < w.heap.size := hr.lt hk hc
   have h2 : w.heap.size ≤ E.ρ id := hs.1
   omega
 ·rcases hb' with hb' | hb'
  ·exact Nat.lt_of_lt_of_le (hr.slt b hb') hb.size
  ·exact hb'.2
def tEmp (args : List MV) (h : MHeap) : Option (MV × MHeap) :=
 match args with
 | [.sl []] => some (.sl [], h)
 | _ => none
def tCl (f : Nat) (args : List MV) (h : MHeap) : Option (MV × MHeap) :=
 if f = 45 then tEmp args h else if f = 46 then tEmp args h else none
theorem tCl_ok : SoundC Tryd.prog tCl := by
 intro f args h m h' he
 have key : ∀ E w vs, Vs E w [.sl []] vs → ∃ A cap, vs = [.slice A 0 cap] := fun E w vs hv => by
  obtain ⟨x, us, rfl, h1, h2⟩ := hv.uncons
  obtain rfl : us = [] := List.length_eq_zero_iff.1 h2.1.symm
  cases h1 with
  | sl _ _ A cap _ _ _ _ _ _ => exact ⟨A, cap, rfl⟩
 have fin : ∀ {E : Env} {w : World} {e : Ending} {w' : World}, HRel E h w → (∃ A' cap', Ret w (.slice A' 0 cap') e w') → ∃ v E', e = .returned v ∧ V E' w' (.sl []) v ∧ HRel E' h w' ∧ Ext (fun _ => true) E w E' w' := fun {E w e w'} hr ⟨A', cap', hR⟩ => by
  obtain ⟨rfl, hb⟩ := hR
  obtain ⟨g1, g2⟩ := grow_ok hr hb
  exact ⟨_, _, rfl, V.sl [] [] A' cap' 0 (Nat.zero_le _) (fun e h => by cases h) rfl (fun i c v h => by cases h) (fun h => absurd h (by simp)), g1, g2⟩
 unfold tCl tEmp at he
 split at he
 ·rename_i hf
  subst hf
  split at he
  case h_2 => cases he
  cases he
  refine ⟨by kernel_rfl, fun E w vs hr hv => ?_⟩
  obtain ⟨A, cap, rfl⟩ := key E w vs hv
  exact (CloneL_none A cap w).mono fun e w' hR => fin hr hR
 ·split at he
  case isFalse => cases he
  rename_i hf
  subst hf
  split at he
  case h_2 => cases he
  cases he
  refine ⟨by kernel_rfl, fun E w vs hr hv => ?_⟩
  obtain ⟨A, cap, rfl⟩ := key E w vs hv
  exact (CloneC_none A cap w).mono fun e w' hR => fin hr hR
end Go.Proofs.YtfchdbghjeophaaDoor

/- Sets of numbers as bits (plain). -/
namespace Go.Proofs.YtfchdbghjeophaaDoor
open Go.Lib
set_option linter.unusedVariables false
def clrB (x : Nat) : Nat := x &&& (x - 1)
theorem clrB_lt {x : Nat} (h : x ≠ 0) : clrB x < x := by
 have : x &&& (x - 1) ≤ x - 1 := Nat.and_le_right
 unfold clrB; omega
theorem ctz_bit {x : Nat} (h : x ≠ 0) (hx : x < 2 ^ 64) : ctz 64 x < 64 ∧ x.testBit (ctz 64 x) = true ∧ (∀ i, i < ctz 64 x → x.testBit i = false) ∧ ∀ i, (clrB x).testBit i = (x.testBit i && decide (i ≠ ctz 64 x)) := by
 obtain ⟨m, hm, hk⟩ := ctzFrom_spec 64 x (by omega) hx
 have e : ctz 64 x = ctzFrom 64 x := by simp [ctz, h]
 rw [← e] at hm hk
 generalize ctz 64 x = k at *
 have hp : 0 < 2 ^ k := Nat.two_pow_pos k
 have hb : ∀ i, x.testBit i = if i < k then false else (2 * m + 1).testBit (i - k) := fun i => by
  have := Nat.testBit_two_pow_mul_add (2 * m + 1) hp i
  rw [Nat.add_zero, ← hm] at this
  rw [this, Nat.zero_testBit]
 have hx1 : x - 1 = 2 ^ k * (2 * m) + (2 ^ k - 1) := by
  rw [hm, Nat.mul_add, Nat.mul_one]; omega
 have hc : ∀ i, (x - 1).testBit i = if i < k then true else (2 * m).testBit (i - k) := fun i => by
  rw [hx1, Nat.testBit_two_pow_mul_add (2 * m) (show 2 ^ k - 1 < 2 ^ k by omega) i, Nat.testBit_two_pow_sub_one]
  by_cases hi : i < k
  ·rw [if_pos hi, if_pos hi, decide_eq_true hi]
  ·rw [if_neg hi, if_neg hi]
 refine ⟨hk, ?_, fun i hi => by rw [hb, if_pos hi], fun i => ?_⟩
 ·rw [hb, if_neg (by omega), Nat.sub_self]; simp [Nat.testBit_zero]
 ·unfold clrB
  rw [Nat.testBit_and, hb, hc]
  by_cases h1 : i < k
  ·simp [h1]
  ·by_cases h2 : i = k
   ·subst h2; simp [Nat.testBit_zero]
   ·obtain ⟨j, hj⟩ : ∃ j, i - k = j + 1 := ⟨i - k - 1, by omega⟩
    rw [if_neg h1, if_neg h1, hj, Nat.testBit_succ, Nat.testBit_succ, show (2 * m + 1) / 2 = m by omega, show 2 * m / 2 = m by omega]
    simp [h2]
def mbL (x : Nat) : List Nat := if h : x = 0 then [] else ctz 64 x :: mbL (clrB x)
termination_by x
decreasing_by exact clrB_lt h
theorem mbL_zero : mbL 0 = [] := by unfold mbL; simp
theorem mbL_pos {x : Nat} (h : x ≠ 0) : mbL x = ctz 64 x :: mbL (clrB x) := by rw [mbL, dif_neg h]
theorem mbL_mem : ∀ (x : Nat), x < 2 ^ 64 → ∀ i, i ∈ mbL x ↔ x.testBit i = true := by
 intro x
 induction x using Nat.strongRecOn with
 | ind x ih =>
  intro hx i
  by_cases h : x = 0
  ·subst h; simp [mbL_zero]
  ·have hl := clrB_lt h
   obtain ⟨h1, h2, h3, h4⟩ := ctz_bit h hx
   rw [mbL_pos h, List.mem_cons, ih (clrB x) hl (by omega) i, h4]
   by_cases e : i = ctz 64 x
   ·subst e; simp [h2]
   ·simp [e]
theorem mbL_asc : ∀ (x : Nat), x < 2 ^ 64 → (mbL x).Pairwise (· < ·) := by
 intro x
 induction x using Nat.strongRecOn with
 | ind x ih =>
  intro hx
  by_cases h : x = 0
  ·subst h; simp [mbL_zero]
  ·have hl := clrB_lt h
   obtain ⟨h1, h2, h3, h4⟩ := ctz_bit h hx
   rw [mbL_pos h]
   refine List.pairwise_cons.2 ⟨fun j hj => ?_, ih _ hl (by omega)⟩
   rw [mbL_mem _ (by omega), h4] at hj
   simp only [Bool.and_eq_true, decide_eq_true_eq] at hj
   apply Classical.byContradiction
   intro hn
   have := h3 j (by omega)
   rw [this] at hj
   exact absurd hj.1 (by simp)
theorem asc_eq : ∀ {a b : List Nat}, a.Pairwise (· < ·) → b.Pairwise (· < ·) → (∀ i, i ∈ a ↔ i ∈ b) → a = b
 | [], [], _, _, _ => rfl
 | [], y :: b, _, _, h => absurd ((h y).2 (by simp)) (by simp)
 | x :: a, [], _, _, h => absurd ((h x).1 (by simp)) (by simp)
 | x :: a, y :: b, ha, hb, h => by
  rw [List.pairwise_cons] at ha hb
  have hxy : x = y := by
   have h1 := (h x).1 (by simp)
   have h2 := (h y).2 (by simp)
   rw [List.mem_cons] at h1 h2
   rcases h1 with h1 | h1
   ·exact h1
   ·rcases h2 with h2 | h2
    ·exact h2.symm
    ·have := ha.1 y h2
     have := hb.1 x h1
     omega
  subst hxy
  rw [asc_eq ha.2 hb.2 fun i => ?_]
  have hi := h i
  rw [List.mem_cons, List.mem_cons] at hi
  constructor
  ·intro hm
   have := ha.1 i hm
   rcases hi.1 (.inr hm) with rfl | h2
   ·omega
   ·exact h2
  ·intro hm
   have := hb.1 i hm
   rcases hi.2 (.inr hm) with rfl | h2
   ·omega
   ·exact h2
theorem mbL_full (m : Nat) (hm : m ≤ 63) : mbL (2 ^ m - 1) = List.range m := by
 have h2 : 2 ^ m ≤ 2 ^ 63 := Nat.pow_le_pow_right (by omega) hm
 refine asc_eq (mbL_asc _ (by omega)) List.pairwise_lt_range fun i => ?_
 rw [mbL_mem _ (by omega), List.mem_range, Nat.testBit_two_pow_sub_one, decide_eq_true_eq]
theorem mbL_len64 {x : Nat} (hx : x < 2 ^ 64) : (mbL x).length ≤ 64 := by
 have h := mbL_asc x hx
 have hl : ∀ i ∈ mbL x, i < 64 := fun i hi => by
  rw [mbL_mem _ hx] at hi
  apply Classical.byContradiction
  intro hn
  have : x < 2 ^ i := Nat.lt_of_lt_of_le hx (Nat.pow_le_pow_right (by omega) (by omega))
  rw [Nat.testBit_lt_two_pow this] at hi
  cases hi
 generalize mbL x = l at h hl
 have e : l = (List.range 64).filter fun i => decide (i ∈ l) := asc_eq h (List.pairwise_lt_range.filter _) fun i => by
  rw [List.mem_filter, List.mem_range, decide_eq_true_eq]
  exact ⟨fun hi => ⟨hl i hi, hi⟩, fun hi => hi.2⟩
 have := List.length_filter_le (fun i => decide (i ∈ l)) (List.range 64)
 rw [← e, List.length_range] at this
 exact this
end Go.Proofs.YtfchdbghjeophaaDoor

/- math/bits.TrailingZeros64, as the table answers it. -/
namespace Go.Proofs.YtfchdbghjeophaaDoor
open Go.Shelf
def layTz_ren : Go.Shelf.Ren := ⟨fun | 29 => 60 | n => n, fun | 22 => 95 | 3 => 3 | 4 => 4 | 25 => 70 | 54 => 105 | 0 => 0 | 5 => 5 | n => n, fun | 1 => 1 | n => n⟩
theorem layTz : Go.Proofs.Lays7.n29 Tryd.prog layTz_ren := {
 mixed := by kernel_rfl
 f29 := Tryd.func60.trans (congrArg some (by kernel_rfl))
 t0 := Tryd.underlying0
 a0 := Tryd.isAgg0
 z0 := Tryd.sizeOf0
 v0 := Tryd.zeroValue0
 i0 := by kernel_rfl
 t3 := Tryd.underlying3
 a3 := Tryd.isAgg3
 z3 := Tryd.sizeOf3
 v3 := Tryd.zeroValue3
 i3 := by kernel_rfl
 t4 := Tryd.underlying4
 a4 := Tryd.isAgg4
 z4 := Tryd.sizeOf4
 v4 := Tryd.zeroValue4
 i4 := by kernel_rfl
 t5 := Tryd.underlying5
 a5 := Tryd.isAgg5
 z5 := Tryd.sizeOf5
 v5 := Tryd.zeroValue5
 i5 := by kernel_rfl
 t22 := Tryd.underlying95
 a22 := Tryd.isAgg95
 z22 := Tryd.sizeOf95
 v22 := Tryd.zeroValue95
 i22 := by kernel_rfl
 t25 := Tryd.underlying70
 a25 := Tryd.isAgg70
 z25 := Tryd.sizeOf70
 v25 := Tryd.zeroValue70
 i25 := by kernel_rfl
 t54 := Tryd.underlying105
 a54 := Tryd.isAgg105
 z54 := Tryd.sizeOf105
 g1 := by kernel_rfl }
end Go.Proofs.YtfchdbghjeophaaDoor
namespace Go.Proofs.YtfchdbghjeophaaDoor
open Go.Shelf Go.RowKit Go.Lib
set_option linter.unusedVariables false
theorem flat_u8 : ∀ l : List Nat, flat (l.map fun k : Nat => MV.lit (.int .u8 (k : Int))) = l.map fun k : Nat => MV.lit (.int .u8 (k : Int))
 | [] => rfl
 | x :: l => by
  have := flat_u8 l
  unfold flat at this ⊢
  rw [List.map_cons, List.flatMap_cons, this]; rfl
theorem tab_at {E : Env} {h : MHeap} {w : World} (hr : HRel E h w) : TabAt 1 deBruijn64tab w := by
 have hv := hr.tab (.sl (deBruijn64tab.map fun k : Nat => .lit (.int .u8 (k : Int))), .slice (some ⟨1, 0, none⟩) 64 64) (List.mem_singleton.2 rfl)
 simp only at hv
 obtain ⟨es, hes⟩ : ∃ es, es = deBruijn64tab.map fun k : Nat => MV.lit (.int .u8 (k : Int)) := ⟨_, rfl⟩
 obtain ⟨v0, hv0⟩ : ∃ v0, v0 = Value.slice (some ⟨1, 0, none⟩) 64 64 := ⟨_, rfl⟩
 rw [← hes, ← hv0] at hv
 cases hv with
 | sl _ vs A cap sz h1 h2 h3 h4 h5 =>
  obtain ⟨b, off, e, hb, hc⟩ := h5 (by rw [hes]; decide)
  subst e
  simp only [Value.slice.injEq, Option.some.injEq, Addr.mk.injEq] at hv0
  obtain ⟨⟨rfl, rfl, -⟩, -, -⟩ := hv0
  intro j hj
  rw [hes, flat_u8] at h3 h4
  have hj2 : j < vs.length := by rw [← h3, List.length_map]; exact hj
  have h6 := h4 j (.lit (.int .u8 (deBruijn64tab.getD j 0 : Nat))) vs[j] (by rw [List.getElem?_map, List.getD_eq_getElem?_getD, List.getElem?_eq_getElem hj]; rfl) (List.getElem?_eq_getElem hj2)
  have h7 := hc j vs[j] (List.getElem?_eq_getElem hj2)
  rw [Nat.zero_add] at h7
  rw [h7, h6.lit_eq]
def tTz (f : Nat) (args : List MV) (h : MHeap) : Option (MV × MHeap) :=
 if f = 60 then match args with
  | [.lit (.int .u64 n)] => if 0 ≤ n ∧ n < 18446744073709551616 then some (.lit (.int .i64 (ctz 64 n.toNat)), h) else none
  | _ => none
 else none
theorem tTz_ok : SoundC Tryd.prog tTz := by
 intro f args h m h' he
 unfold tTz at he
 split at he
 case isFalse => cases he
 rename_i hf
 subst hf
 split at he
 case h_2 => cases he
 rename_i n
 split at he
 case isFalse => cases he
 rename_i hn
 cases he
 refine ⟨by kernel_rfl, fun E w vs hr hv => ?_⟩
 obtain ⟨x, us, rfl, h1, h2⟩ := hv.uncons
 obtain rfl : us = [] := List.length_eq_zero_iff.1 h2.1.symm
 obtain rfl := h1.lit_eq
 have hc := Any7.bits_TrailingZeros64 layTz n.toNat (by omega) w (fun _ => tab_at hr)
 rw [show ((n.toNat : Nat) : Int) = n by omega] at hc
 refine Calls.mono hc ?_
 rintro e w' ⟨rfl, rfl⟩
 exact ⟨_, E, rfl, .lit _, hr, Ext.refl _ _ _⟩
end Go.Proofs.YtfchdbghjeophaaDoor

/- The program answers by its text; copies of no elements and trailing zeros by contracts. -/
namespace Go.Proofs.YtfchdbghjeophaaDoor
open Go.RowKit
set_option linter.unusedVariables false
def tA (f : Nat) (args : List MV) (h : MHeap) : Option (MV × MHeap) := if f = 60 then tTz f args h else tCl f args h
theorem tA_ok : SoundO Tryd.prog tA := ⟨fun f args h m h' he => by
 unfold tA at he
 split at he
 ·exact tTz_ok f args h m h' he
 ·exact tCl_ok f args h m h' he, sorts_ok⟩
abbrev tI : Iter := noI
theorem tI_ok : SoundI Tryd.prog tI := noI_ok Tryd.prog
noncomputable abbrev MT : Tab := tabOf Tryd.prog
noncomputable abbrev orA (k : Nat) : Oracle := orZ MT tA tI 4000000 k
noncomputable abbrev itA (k : Nat) : Iter := orI MT tI (orA k) 4000000
theorem orA_ok (k : Nat) : SoundO Tryd.prog (orA k) := (orZ_ok (by kernel_rfl) (tabOf_ok Tryd.prog) tA_ok (tI_ok) k).1
theorem callA {k f : Nat} {args args' : List MV} {h : MHeap} {m : MV} {news : MHeap} (h1 : args.mapM (frz 0 [] h 8) = some args') (hT : tA f args' [] = none) (h2 : runZ MT (orA k) (itA k) 4000000 f args' [] = some (m, news))
  (h3 : okV (ltL 0 args) m = true) (h4 : okH (ltL 0 args) news = true) : orA (k + 1) f args h = some (shV h.length m, h ++ news) :=
 orZ_call h1 (by unfold tabZ; rw [hT]; exact h2) h3 h4
theorem callT {k f : Nat} {args args' : List MV} {h : MHeap} {m : MV} {news : MHeap} (h1 : args.mapM (frz 0 [] h 8) = some args') (hT : tA f args' [] = some (m, news))
  (h3 : okV (ltL 0 args) m = true) (h4 : okH (ltL 0 args) news = true) : orA (k + 1) f args h = some (shV h.length m, h ++ news) :=
 orZ_call h1 (by unfold tabZ; rw [hT]) h3 h4
end Go.Proofs.YtfchdbghjeophaaDoor

/- Contracts of small functions. -/
namespace Go.Proofs.YtfchdbghjeophaaDoor
open Go.RowKit
set_option linter.unusedVariables false
theorem callL {k f : Nat} {args args' : List MV} {h : MHeap} {v : Value} (h1 : args.mapM (frz 0 [] h 8) = some args') (hT : tA f args' [] = none) (h2 : runZ MT (orA k) (itA k) 4000000 f args' [] = some (.lit v, [])) : orA (k + 1) f args h = some (.lit v, h) := by
 have := callA h1 hT h2 (by simp [okV, ok1, MV.lt, MV.pure]) rfl
 simpa [shV, sh1] using this
theorem frz_lits {h : MHeap} : ∀ vs : List Value, (vs.map MV.lit).mapM (frz 0 [] h 8) = some (vs.map .lit)
 | [] => rfl
 | v :: vs => by
  rw [List.map_cons, List.mapM_cons, frz_lits vs]
  simp [frz, MV.lt]
theorem at_map {α β : Type} (f : α → β) (xs : List α) (i : Nat) (h : i < xs.length) : (xs.map f)[((i : Nat) : Int).toNat]? = some (f xs[i]) := by
 rw [Int.toNat_natCast, List.getElem?_map, List.getElem?_eq_getElem h]; rfl
theorem mf_Within : MT.mf 15 = some ⟨15, [(.tmp 6)], (.seq (.reg [gO 6 (.mv cF)]) (.seq (.reg [gO 7 (.mv (.s 1)), gO 8 (.mv (.s 0)), gO 9 (.bin .leq (.s 7) (.s 8)), gO 10 (.mv (.s 9)), ⟨some (10, true), some 11, .mv (.s 0)⟩, ⟨some (10, true), some 12, .mv (.s 2)⟩, ⟨some (10, true), some 13, .bin .leq (.s 11) (.s 12)⟩, gO 14 (.pick (.s 10) (.s 13) cF), gO 6 (.mv (.s 14))]) .ret))⟩ := by kernel_rfl
theorem Within_c (k : Nat) (a b c : Int) (h : MHeap) {t : Bool} (ht : inB a b c = t) : orA (k + 1) 15 [I64 a, I64 b, I64 c] h = some (Bo t, h) := by
 refine callL (frz_lits [.int .i64 a, .int .i64 b, .int .i64 c]) rfl (runZ_of mf_Within (by simp) ?_)
 simp only [argsL, List.map_cons, List.map_nil]
 repeat (first | apply ef_seq | (apply ef_mv; exact rfl; exact rfl) | (apply ef_bin; (iterate 3 exact rfl); (exact rfl)) | apply ef_nil | apply seqQ.normal)
 cases h1 : decide (b ≤ a)
 all_goals repeat (first | (apply ef_mv; exact rfl; exact rfl) | (apply ef_bin; (iterate 3 exact rfl); (exact rfl)) | (apply ef_gy; exact rfl; (exact (rfl : true = true))) | (apply ef_gn; exact rfl; (exact (rfl : false = false)); exact rfl) | (apply ef_pick; (iterate 3 exact rfl)) | apply ef_nil | apply seqQ.normal | apply ef_ret)
 ·(refine fin1 rfl (by exact rfl) rfl ?_)
  simp at h1; simp [inB] at ht; simp; rw [← ht]; simp; omega
 ·(refine fin1 rfl (by exact rfl) rfl ?_)
  simp at h1; simp [inB, h1] at ht; simp [← ht]
end Go.Proofs.YtfchdbghjeophaaDoor

/- Faster evaluation: slots in a tree. -/
namespace Go.Proofs.YtfchdbghjeophaaDoor
open Go.RowKit
set_option linter.unusedVariables false
def MX.gt (g : Nat → MV) : MX → MV
 | .s t => g t
 | .c v => v
def evOg : (Nat → Bool) → Oracle → (Nat → MV) → MHeap → MO → Option (MV × MHeap)
 | lk, O, s, h, .mv x => some (x.gt s, h)
 | lk, O, s, h, .nil0 sz => some (.arr h.length 0 0 0, h ++ [⟨0, true, sz, []⟩])
 | lk, O, s, h, .nilck x => match x.gt s with
  | .ptr id i off g => some (.ptr id i off g, h)
  | .rp e off => some (.rp e off, h)
  | .fn f k cs => some (.fn f k cs, h)
  | _ => none
 | lk, O, s, h, .pick c a b => match c.gt s with
  | .lit (.bool t) => some (if t then a.gt s else b.gt s, h)
  | _ => none
 | lk, O, s, h, .new z => some (.ptr h.length 0 0 0, h ++ [⟨0, false, z.cells.length, [z]⟩])
 | lk, O, s, h, .box sz x => if (x.gt s).cells.length = sz ∧ (x.gt s).cOk then some (.ptr h.length 0 0 0, h ++ [⟨0, false, sz, [x.gt s]⟩]) else none
 | lk, O, s, h, .build z parts => match fillM z (parts.map fun p => (p.1, (p.2.2.gt s).cells)) with
  | some cs => if parts.all (fun p => (p.2.2.gt s).cells.length == p.2.1 && (p.2.2.gt s).cOk) then some (.agg cs, h) else none
  | none => none
 | lk, O, s, h, .bsl z sz len parts => match setAtM (List.replicate len z) sz (parts.map fun p => (p.1, p.2.gt s)) with
  | some es => some (.arr h.length 0 len 0, h ++ [⟨0, false, sz, es⟩])
  | none => none
 | lk, O, s, h, .vsl z sz len parts => match setAtM (List.replicate len z) sz (parts.map fun p => (p.1, p.2.gt s)) with
  | some es => some (if es.isEmpty then .emp else .sl es, h)
  | none => none
 | lk, O, s, h, .ld agg x => match x.gt s with
  | .rp e off => (rdCells e.cells off agg).map fun v => (v, h)
  | .ptr id i off g => match h[id]? with
   | some o => if o.g = g then match o.es[i]? with
     | some e => (rdCells e.cells off agg).map fun v => (v, h)
     | none => none
    else none
   | none => none
  | _ => none
 | lk, O, s, h, .st sz a x => if (x.gt s).sOk sz then match a.gt s with
  | .ptr id i off g => match h[id]? with
   | some o => if o.g = g ∧ lk id = false then match o.es[i]? with
     | some e => match wrElem e off (x.gt s) with
      | some e' => some (.lit undef, h.set id { o with es := o.es.set i e' })
      | none => none
     | none => none
    else none
   | none => none
  | _ => none else none
 | lk, O, s, h, .bin op x y => match x.gt s, y.gt s with
  | .lit (.int k a), .lit (.int k' b) => if k = k' then (binI op k a b).map fun v => (.lit v, h) else none
  | _, _ => none
 | lk, O, s, h, .beq neg x y => match x.gt s, y.gt s with
  | .lit (.bool a), .lit (.bool b) => some (.lit (.bool (negIf neg (a == b))), h)
  | _, _ => none
 | lk, O, s, h, .seq neg x y => match x.gt s, y.gt s with
  | .lit (.string a), .lit (.string b) => some (.lit (.bool (negIf neg (a == b))), h)
  | _, _ => none
 | lk, O, s, h, .eqa n neg x y => match x.gt s, y.gt s with
  | .agg ps, .agg qs => (litEqK (kindsOf n) ps qs).map fun b => (.lit (.bool (negIf neg b)), h)
  | _, _ => none
 | lk, O, s, h, .eqn neg x => match x.gt s with
  | .arr id i n g => match h[id]? with
   | some o => if o.g = g ∧ i + n ≤ o.es.length then some (.lit (.bool (negIf neg o.nl)), h) else none
   | none => none
  | .lit (.slice A _ _) => some (.lit (.bool (negIf neg A.isNone)), h)
  | .sl (_ :: _) => some (.lit (.bool neg), h)
  | .emp => some (.lit (.bool neg), h)
  | _ => none
 | lk, O, s, h, .bad => none
 | lk, O, s, h, .un op x => match op, x.gt s with
  | .not, .lit (.bool b) => some (.lit (.bool !b), h)
  | .neg, .lit (.int k n) => some (.lit (.int k (k.wrap (0 - n))), h)
  | _, _ => none
 | lk, O, s, h, .cv k x => match x.gt s with
  | .lit (.int _ n) => some (.lit (.int k (k.wrap n)), h)
  | _ => none
 | lk, O, s, h, .mf f k caps => some (.fn f k (caps.map (MX.gt s)), h)
 | lk, O, s, h, .mks z n => match n.gt s with
  | .lit (.int .i64 n) => if 0 ≤ n ∧ n ≤ 1000000 then some (.arr h.length 0 n.toNat 0, h ++ [⟨0, false, z.cells.length, List.replicate n.toNat z⟩]) else none
  | _ => none
 | lk, O, s, h, .slc sz x lo hi => match (x.gt s), ((lo.map (MX.gt s)).map intOf?).getD (some 0), (hi.map (MX.gt s)).map intOf? with
  | .sl es, some l, some (some u) => if 0 ≤ l ∧ l ≤ u ∧ u ≤ es.length ∧ es.all (fun e => e.cells.length == sz) then some (.sl ((es.drop l.toNat).take (u - l).toNat), h) else none
  | .sl es, some l, none => if 0 ≤ l ∧ l ≤ es.length ∧ es.all (fun e => e.cells.length == sz) then some (.sl (es.drop l.toNat), h) else none
  | .arr id i n g, some l, some (some u) => if 0 ≤ l ∧ l ≤ u ∧ u ≤ n ∧ MHeap.ok h id g sz then some (.arr id (i + l.toNat) (u - l).toNat g, h) else none
  | .arr id i n g, some l, none => if 0 ≤ l ∧ l ≤ n ∧ MHeap.ok h id g sz then some (.arr id (i + l.toNat) (n - l.toNat) g, h) else none
  | _, _, _ => none
 | lk, O, s, h, .fa off x => match x.gt s with
  | .ptr id i o g => some (.ptr id i (o + off) g, h)
  | .rp e o => some (.rp e (o + off), h)
  | _ => none
 | lk, O, s, h, .fd off agg x => match x.gt s with
  | .agg cs => (rdCells cs off agg).map fun v => (v, h)
  | _ => none
 | lk, O, s, h, .ix agg sz len x i => match x.gt s, intOf? (i.gt s) with
  | .agg cs, some k => if 0 ≤ k ∧ k < len then (rdCells cs (k.toNat * sz) agg).map fun v => (v, h) else none
  | _, _ => none
 | lk, O, s, h, .ia sz x i => match x.gt s, intOf? (i.gt s) with
  | .sl es, some k => if 0 ≤ k then (es[k.toNat]?).bind fun e => if e.cells.length = sz then some (.rp e 0, h) else none else none
  | .arr id j n g, some k => if 0 ≤ k ∧ k < n ∧ MHeap.ok h id g sz then some (.ptr id (j + k.toNat) 0 g, h) else none
  | _, _ => none
 | lk, O, s, h, .iaa sz len x i => match x.gt s, intOf? (i.gt s) with
  | .ptr id j o g, some k => if 0 ≤ k ∧ k < len then some (.ptr id j (o + k.toNat * sz) g, h) else none
  | .rp e o, some k => if 0 ≤ k ∧ k < len then some (.rp e (o + k.toNat * sz), h) else none
  | _, _ => none
 | lk, O, s, h, .ext x i => match x.gt s with
  | .tup vs => (vs[i]?).map fun v => (v, h)
  | _ => none
 | lk, O, s, h, .call f args => O f (args.map (MX.gt s)) h
 | lk, O, s, h, .callv x args => match x.gt s with
  | .fn f k caps => O f (caps.take k ++ args.map (MX.gt s) ++ caps.drop k) h
  | _ => none
 | lk, O, s, h, .s2b x => match x.gt s with
  | .lit (.string b) => some (.sl (b.data.toList.map fun c => .lit (.int .u8 c.toNat)), h)
  | _ => none
 | lk, O, s, h, .sln x => match x.gt s with
  | .lit (.string b) => some (.lit (.int .i64 b.size), h)
  | _ => none
 | lk, O, s, h, .len x => match (x.gt s).slen with
  | some n => some (.lit (.int .i64 n), h)
  | none => none
 | lk, O, s, h, .app sz d x => match d.gt s, (x.gt s).elems h with
  | .arr id i n g, some xs => match h[id]? with
   | some o => if o.g = g ∧ i + n = o.es.length ∧ o.sz = sz then
     if xs = [] then some (.arr id i n g, h)
     else if o.es.length + xs.length ≤ 4000000 ∧ xs.all (MV.sOk sz) ∧ lk id = false then some (.arr id 0 (n + xs.length) (g + 1), h.set id ⟨g + 1, false, sz, o.es.drop i ++ xs⟩) else none
    else none
   | none => none
  | .lit (.slice none 0 0), some xs =>
   if xs = [] then some (.lit (.slice none 0 0), h)
   else if xs.length ≤ 4000000 ∧ xs.all (MV.sOk sz) then some (.arr h.length 0 xs.length 0, h ++ [⟨0, false, sz, xs⟩]) else none
  | .emp, some xs =>
   if xs = [] then some (.emp, h)
   else if xs.length ≤ 4000000 ∧ xs.all (MV.sOk sz) then some (.arr h.length 0 xs.length 0, h ++ [⟨0, false, sz, xs⟩]) else none
  | _, _ => none
 | lk, O, s, h, .mx x y => match x.gt s, y.gt s with
  | .lit (.int k a), .lit (.int _ b) => some (.lit (.int k (if b > a then b else a)), h)
  | _, _ => none
 | lk, O, s, h, .mn x y => match x.gt s, y.gt s with
  | .lit (.int k a), .lit (.int _ b) => some (.lit (.int k (if b < a then b else a)), h)
  | _, _ => none
 | lk, O, s, h, .ne x y => if neB (x.gt s) (y.gt s) then some (.lit undef, h) else none
 | lk, O, s, h, .mkm => some (.mp h.length 0, h ++ [⟨0, true, 1, [.tup []]⟩])
 | lk, O, s, h, .mlk n z ok x k => match k.gt s, (x.gt s).ents h with
  | .agg ps, some es => if ps.length = n then match mfind ps es 0 with
    | some r => some (mres z ok r, h)
    | none => none
   else none
  | _, _ => none
 | lk, O, s, h, .mup n m k x => match m.gt s, k.gt s, (m.gt s).ents h with
  | .mp id g, .agg ps, some es => if ps.length = n ∧ lk id = false then match mfind ps es 0 with
    | some r => some (.lit undef, h.set id ⟨g, true, 1, [.tup (mset es (.tup [.agg ps, x.gt s]) r)]⟩)
    | none => none
   else none
  | _, _, _ => none
 | lk, O, s, h, .shf op x y => match x.gt s, y.gt s with
  | .lit (.int k a), .lit (.int _ b) => (shfI op k a b).map fun v => (.lit v, h)
  | _, _ => none
 | lk, O, s, h, .sx x i => match x.gt s, intOf? (i.gt s) with
  | .lit (.string b), some k => if 0 ≤ k then (b.data.toList[k.toNat]?).map fun c => (.lit (.int .u8 c.toNat), h) else none
  | _, _ => none
 | lk, O, s, h, .cat x y => match x.gt s, y.gt s with
  | .lit (.string a), .lit (.string b) => if a.size + b.size ≤ 1000000000 then some (.lit (.string (a ++ b)), h) else none
  | _, _ => none
 | lk, O, s, h, .ssl x lo hi => match x.gt s, ((lo.map (MX.gt s)).map intOf?).getD (some 0), (hi.map (MX.gt s)).map intOf? with
  | .lit (.string b), some l, some (some u) => if 0 ≤ l ∧ l ≤ u ∧ u ≤ b.size then some (.lit (.string (b.extract l.toNat u.toNat)), h) else none
  | .lit (.string b), some l, none => if 0 ≤ l ∧ l ≤ b.size then some (.lit (.string (b.extract l.toNat b.size)), h) else none
  | _, _, _ => none
 | lk, O, s, h, .cpy d x => match d.gt s, (x.gt s).elems h with
  | .arr id i n g, some xs => match h[id]? with
   | some o => if o.g = g ∧ 0 < n ∧ i + n ≤ o.es.length ∧ o.sz = 1 ∧ xs ≠ [] ∧ xs.all (MV.sOk 1) = true ∧ lk id = false then
     some (.lit (.int .i64 (xs.take n).length), h.set id { o with es := o.es.take i ++ xs.take n ++ o.es.drop (i + (xs.take n).length) }) else none
   | none => none
  | _, _ => none
 | lk, O, s, h, .srt f cf x => match x.gt s with
  | .arr id i n g => match h[id]? with
   | some o => if o.g = g ∧ i + n ≤ o.es.length ∧ n ≤ 4000000 ∧ lk id = false then match sortKind f cf with
     | some k => match srtM k ((o.es.drop i).take n) with
      | some es => some (.lit (.tuple #[]), h.set id { o with es := o.es.take i ++ es ++ o.es.drop (i + n) })
      | none => none
     | none => none
    else none
   | none => none
  | _ => none
theorem gt_get {g : Nat → MV} {s : List MV} (hg : ∀ t, g t = s.getD t (.lit undef)) : MX.gt g = MX.get s := by
 funext x
 cases x with
 | s t => exact hg t
 | c v => rfl
theorem evOg_eq {lk : Nat → Bool} {O : Oracle} {g : Nat → MV} {s : List MV} {h : MHeap} (hg : ∀ t, g t = s.getD t (.lit undef)) (mo : MO) : evOg lk O g h mo = evO lk O s h mo := by
 have e := gt_get hg
 cases mo <;> simp only [evOg, evO, e] <;> rfl
inductive TS where
 | leaf (v : MV)
 | node (l r : TS)
noncomputable def tget (tr : TS) : Nat → MV :=
 TS.rec (motive := fun _ => Nat → MV) (fun v _ => v) (fun _ _ il ir t => Nat.rec (motive := fun _ => MV) (il (t / 2)) (fun _ _ => ir (t / 2)) (t % 2)) tr
noncomputable def tset (tr : TS) : Nat → MV → TS :=
 TS.rec (motive := fun _ => Nat → MV → TS) (fun _ _ v => .leaf v) (fun l r il ir t v => Nat.rec (motive := fun _ => TS) (.node (il (t / 2) v) r) (fun _ _ => .node l (ir (t / 2) v)) (t % 2)) tr
def fullT (v : MV) : Nat → TS
 | 0 => .leaf v
 | d + 1 => .node (fullT v d) (fullT v d)
def IsFull : Nat → TS → Prop
 | 0, .leaf _ => True
 | d + 1, .node l r => IsFull d l ∧ IsFull d r
 | _, _ => False
theorem tget_node (l r : TS) (t : Nat) : tget (.node l r) t = if t % 2 = 0 then tget l (t / 2) else tget r (t / 2) := by
 show Nat.rec (motive := fun _ => MV) (tget l (t / 2)) (fun _ _ => tget r (t / 2)) (t % 2) = _
 rcases Nat.mod_two_eq_zero_or_one t with h | h <;> rw [h] <;> rfl
theorem tset_node (l r : TS) (t : Nat) (v : MV) : tset (.node l r) t v = if t % 2 = 0 then .node (tset l (t / 2) v) r else .node l (tset r (t / 2) v) := by
 show Nat.rec (motive := fun _ => TS) (.node (tset l (t / 2) v) r) (fun _ _ => .node l (tset r (t / 2) v)) (t % 2) = _
 rcases Nat.mod_two_eq_zero_or_one t with h | h <;> rw [h] <;> rfl
theorem full_set : ∀ {d : Nat} {tr : TS} (t : Nat) (v : MV), IsFull d tr → IsFull d (tset tr t v)
 | 0, .leaf _, t, v, h => trivial
 | 0, .node _ _, t, v, h => h.elim
 | d + 1, .leaf _, t, v, h => h.elim
 | d + 1, .node l r, t, v, h => by
  rw [tset_node]
  split
  ·exact ⟨full_set _ _ h.1, h.2⟩
  ·exact ⟨h.1, full_set _ _ h.2⟩
theorem full_fullT (v : MV) : ∀ d, IsFull d (fullT v d)
 | 0 => trivial
 | d + 1 => ⟨full_fullT v d, full_fullT v d⟩
theorem get_fullT (v : MV) : ∀ d t, tget (fullT v d) t = v
 | 0, t => rfl
 | d + 1, t => by simp [fullT, tget_node, get_fullT v d]
theorem get_set : ∀ {d : Nat} {tr : TS} {t u : Nat} {v : MV}, IsFull d tr → t < 2 ^ d → u < 2 ^ d → tget (tset tr t v) u = if t = u then v else tget tr u
 | 0, .leaf _, t, u, v, h, h1, h2 => by
  have : t = u := by simp at h1 h2; omega
  simp [this]; rfl
 | 0, .node _ _, t, u, v, h, _, _ => h.elim
 | d + 1, .leaf _, t, u, v, h, _, _ => h.elim
 | d + 1, .node l r, t, u, v, h, h1, h2 => by
  have h1' : t / 2 < 2 ^ d := by rw [Nat.pow_succ] at h1; omega
  have h2' : u / 2 < 2 ^ d := by rw [Nat.pow_succ] at h2; omega
  rw [tset_node]
  split
  ·rename_i ht
   rw [tget_node, tget_node, get_set h.1 h1' h2']
   by_cases hu : u % 2 = 0
   ·simp only [hu, if_true]
    by_cases e : t / 2 = u / 2
    ·have : t = u := by omega
     simp [this]
    ·have : t ≠ u := fun e' => e (by rw [e'])
     simp [this, e]
   ·have : t ≠ u := fun e' => hu (by rw [← e']; exact ht)
    simp [hu, this]
  ·rename_i ht
   rw [tget_node, tget_node, get_set h.2 h1' h2']
   by_cases hu : u % 2 = 0
   ·have : t ≠ u := fun e' => ht (by rw [e']; exact hu)
    simp [hu, this]
   ·simp only [hu, if_false]
    by_cases e : t / 2 = u / 2
    ·have : t = u := by omega
     simp [this]
    ·have : t ≠ u := fun e' => e (by rw [e'])
     simp [this, e]
structure TR (n : Nat) (tr : TS) (s : List MV) : Prop where
 len : s.length = n
 small : n ≤ 2 ^ 8
 full : IsFull 8 tr
 get : ∀ t, t < n → s[t]? = some (tget tr t)
noncomputable def fget (n : Nat) (tr : TS) (t : Nat) : MV := Bool.rec (motive := fun _ => MV) (tget tr t) (.lit undef) (Nat.ble n t)
noncomputable def fset (n : Nat) (tr : TS) (t : Nat) (v : MV) : TS := Bool.rec (motive := fun _ => TS) (tset tr t v) tr (Nat.ble n t)
theorem TR.g {n : Nat} {tr : TS} {s : List MV} (h : TR n tr s) (t : Nat) : fget n tr t = s.getD t (.lit undef) := by
 unfold fget
 cases hb : Nat.ble n t
 ·have : t < n := by
   refine Nat.lt_of_not_le fun hle => ?_
   rw [Nat.ble_eq_true_of_le hle] at hb; cases hb
  simp [h.get t this]
 ·have : n ≤ t := Nat.le_of_ble_eq_true hb
  have : s[t]? = none := by rw [List.getElem?_eq_none_iff, h.len]; exact this
  simp [this]
theorem TR.set {n : Nat} {tr : TS} {s : List MV} (h : TR n tr s) (t : Nat) (v : MV) : TR n (fset n tr t v) (s.set t v) := by
 unfold fset
 cases hb : Nat.ble n t
 ·have hlt : t < n := by
   refine Nat.lt_of_not_le fun hle => ?_
   rw [Nat.ble_eq_true_of_le hle] at hb; cases hb
  refine ⟨by simp [h.len], h.small, full_set _ _ h.full, fun u hu => ?_⟩
  show _ = some (tget (tset tr t v) u)
  rw [get_set h.full (Nat.lt_of_lt_of_le hlt h.small) (Nat.lt_of_lt_of_le hu h.small), List.getElem?_set]
  by_cases e : t = u
  ·subst e; simp [h.len, hlt]
  ·simp [e, h.get u hu]
 ·have : n ≤ t := Nat.le_of_ble_eq_true hb
  have e : s.set t v = s := List.set_eq_of_length_le (by rw [h.len]; exact this)
  show TR n tr (s.set t v)
  rw [e]; exact h
end Go.Proofs.YtfchdbghjeophaaDoor

/- Faster evaluation: control; it comes to the same. -/
namespace Go.Proofs.YtfchdbghjeophaaDoor
open Go.RowKit
set_option linter.unusedVariables false
abbrev FS := TS × MHeap
def wantF (g : Nat → MV) : Option (Nat × Bool) → Option Bool
 | none => some true
 | some (t, b) => match g t with
  | .lit (.bool x) => some (x == b)
  | .lit (.tuple _) => some false
  | _ => none
noncomputable def putF (n : Nat) (tr : TS) (d : Option Nat) (v : MV) : TS :=
 match d with
 | some d => fset n tr d v
 | none => tr
noncomputable def evGF (lk : Nat → Bool) (O : Oracle) (n : Nat) (o : GO) (st : FS) : Option FS :=
 match wantF (fget n st.1) o.guard with
 | none => none
 | some t => if t then
   match evOg lk O (fget n st.1) st.2 o.op with
   | some (v, h) => some (putF n st.1 o.dst v, h)
   | none => none
  else some (putF n st.1 o.dst (.lit undef), st.2)
noncomputable def evRF (lk : Nat → Bool) (O : Oracle) (n : Nat) (l : List GO) : FS → Option FS :=
 List.rec (motive := fun _ => FS → Option FS) (fun st => some st) (fun o _ ih st => match evGF lk O n o st with
  | some st' => ih st'
  | none => none) l
def roundsF {σ : Type} (f : σ → Option (MX2 × σ)) : Nat → σ → Option (MX2 × σ)
 | 0, _ => none
 | n + 1, st => match f st with
  | some (.normal, st') => roundsF f n st'
  | r => r
noncomputable def strikeF (n : Nat) (keep : List Nat) (tr : TS) : TS := keep.foldl (fun acc k => fset n acc k (fget n tr k)) (fullT .junk 8)
noncomputable def headF (keep : List Nat) (nh n : Nat) (st : FS) : FS :=
 if st.2.length ≤ nh then (strikeF n keep st.1, st.2) else if keep.all (fun k => (fget n st.1 k).lt nh) && hltL nh (st.2.take nh) then (strikeF n keep st.1, st.2.take nh) else (strikeF n keep st.1, st.2)
noncomputable def putAllF (n : Nat) (tr : TS) : List Nat → List MV → TS
 | p :: ps, v :: vs => putAllF n (fset n tr p v) ps vs
 | _, _ => tr
noncomputable def evCF : Oracle → Iter → Nat → Nat → MC → (Nat → Bool) → FS → Option (MX2 × FS)
 | O, I, N, n, .skip, lk, st => some (.normal, st)
 | O, I, N, n, .reg ops, lk, st => match evRF lk O n ops st with
  | some st => some (.normal, st)
  | none => none
 | O, I, N, n, .seq a b, lk, st => match evCF O I N n a lk st with
  | some (.normal, st') => evCF O I N n b lk st'
  | r => r
 | O, I, N, n, .cond c a b, lk, st => match c.gt (fget n st.1) with
  | .lit (.bool t) => if t then evCF O I N n a lk st else evCF O I N n b lk st
  | _ => none
 | O, I, N, n, .block id b, lk, st => match evCF O I N n b lk st with
  | some (.exit k, st') => if k = id then some (.normal, st') else some (.exit k, st')
  | r => r
 | O, I, N, n, .loop keep b, lk, st => roundsF (fun st' => evCF O I N n b lk (headF keep st.2.length n st')) N st
 | O, I, N, n, .rf keep f ps a b, lk, st => match f.gt (fget n st.1) with
  | .fn g k caps => match I g k caps st.2 with
   | some xs => if xs.all (fun x => x.length == ps.length) then
    match overH (fun x h => match evCF O I N n a (fun id => lk id || (caps.flatMap (MV.ids st.2 6)).contains id) (putAllF n (headF keep st.2.length n (st.1, h)).1 ps x, (headF keep st.2.length n (st.1, h)).2) with
     | some (.normal, st2) => match evCF O I N n b (fun id => lk id || (caps.flatMap (MV.ids st.2 6)).contains id) st2 with
      | some (y, st3) => some (y, st3.2)
      | none => none
     | _ => none) xs st.2 with
    | some r => some (r.1, (st.1, r.2))
    | none => none
    else none
   | none => none
  | _ => none
 | O, I, N, n, .exit id, lk, st => some (.exit id, st)
 | O, I, N, n, .ret, lk, st => some (.ret, st)
 | O, I, N, n, .bad, lk, st => none
 | O, I, N, n, .give _ _, lk, st => none
theorem wantF_eq {g : Nat → MV} {s : List MV} (hg : ∀ t, g t = s.getD t (.lit undef)) (gd : Option (Nat × Bool)) : wantF g gd = wantM s gd := by
 cases gd with
 | none => rfl
 | some p => obtain ⟨t, b⟩ := p; simp only [wantF, wantM, hg]; rfl
theorem putF_TR {n : Nat} {tr : TS} {s : List MV} (h : TR n tr s) (d : Option Nat) (v : MV) : TR n (putF n tr d v) (putM s d v) := by
 cases d with
 | none => exact h
 | some d => exact h.set d v
theorem evGF_ok {lk : Nat → Bool} {O : Oracle} {n : Nat} {o : GO} {tr : TS} {s : List MV} {h : MHeap} (hT : TR n tr s) {st' : FS} (he : evGF lk O n o (tr, h) = some st') : ∃ s', evG lk O o ⟨s, h⟩ = some ⟨s', st'.2⟩ ∧ TR n st'.1 s' := by
 unfold evGF at he
 unfold evG
 simp only [wantF_eq hT.g, evOg_eq hT.g] at he
 split at he
 ·cases he
 ·rename_i t ht
  simp only [ht]
  cases t
  ·simp only [Bool.false_eq_true, if_false, Option.some.injEq] at he ⊢
   subst he
   exact ⟨_, rfl, putF_TR hT _ _⟩
  ·simp only [if_true] at he ⊢
   split at he
   ·rename_i v h' hev
    simp only [Option.some.injEq] at he
    subst he
    simp only [hev]
    exact ⟨_, rfl, putF_TR hT _ _⟩
   ·cases he
theorem evRF_ok {lk : Nat → Bool} {O : Oracle} {n : Nat} : ∀ {l : List GO} {tr : TS} {s : List MV} {h : MHeap} {st' : FS}, TR n tr s → evRF lk O n l (tr, h) = some st' → ∃ s', evR lk O l ⟨s, h⟩ = some ⟨s', st'.2⟩ ∧ TR n st'.1 s'
 | [], tr, s, h, st', hT, he => by
  have e : evRF lk O n [] (tr, h) = some (tr, h) := rfl
  rw [e] at he
  cases he
  exact ⟨s, rfl, hT⟩
 | o :: l, tr, s, h, st', hT, he => by
  have e : evRF lk O n (o :: l) (tr, h) = match evGF lk O n o (tr, h) with
   | some st' => evRF lk O n l st'
   | none => none := rfl
  rw [e] at he
  split at he
  case h_2 => cases he
  rename_i st1 h1
  obtain ⟨s1, k1, k2⟩ := evGF_ok hT h1
  obtain ⟨s2, j1, j2⟩ := evRF_ok k2 he
  exact ⟨s2, by simp only [evR, k1, Option.bind_some]; exact j1, j2⟩
theorem keepS_get {keep : List Nat} : ∀ (s : List MV) (i t : Nat), (keepS keep i s)[t]? = (s[t]?).map fun v => if keep.contains (i + t) then v else .junk
 | [], i, t => by simp [keepS]
 | v :: s, i, 0 => by simp [keepS]
 | v :: s, i, t + 1 => by
  simp only [keepS, List.getElem?_cons_succ]
  rw [keepS_get s (i + 1) t, show i + 1 + t = i + (t + 1) by omega]
theorem strikeF_TR {n : Nat} {keep : List Nat} {tr : TS} {s : List MV} (h : TR n tr s) : TR n (strikeF n keep tr) (keepS keep 0 s) := by
 have key : ∀ (l : List Nat) (acc : TS), IsFull 8 acc → IsFull 8 (l.foldl (fun acc k => fset n acc k (fget n tr k)) acc) ∧ ∀ t, t < n → tget (l.foldl (fun acc k => fset n acc k (fget n tr k)) acc) t = if t ∈ l then tget tr t else tget acc t := by
  intro l
  induction l with
  | nil => intro acc ha; exact ⟨ha, fun t _ => by simp⟩
  | cons k l ih =>
   intro acc ha
   simp only [List.foldl_cons]
   have hf : IsFull 8 (fset n acc k (fget n tr k)) := by
    unfold fset
    cases Nat.ble n k
    ·exact full_set _ _ ha
    ·exact ha
   obtain ⟨h1, h2⟩ := ih _ hf
   refine ⟨h1, fun t ht => ?_⟩
   rw [h2 t ht]
   by_cases hm : t ∈ l
   ·simp [hm]
   ·simp only [hm, if_false, List.mem_cons, or_false]
    unfold fset
    cases hb : Nat.ble n k
    ·have hk : k < n := by
      refine Nat.lt_of_not_le fun hle => ?_
      rw [Nat.ble_eq_true_of_le hle] at hb; cases hb
     show tget (tset acc k (fget n tr k)) t = _
     rw [get_set ha (Nat.lt_of_lt_of_le hk h.small) (Nat.lt_of_lt_of_le ht h.small)]
     by_cases e : k = t
     ·subst e
      simp [fget, hb]
     ·have e' : ¬ t = k := fun x => e x.symm
      simp [e, e']
    ·have hk : n ≤ k := Nat.le_of_ble_eq_true hb
     have : ¬ t = k := by omega
     simp only [this, if_false]
 obtain ⟨h1, h2⟩ := key keep (fullT .junk 8) (full_fullT _ _)
 refine ⟨by rw [keepS_len, h.len], h.small, h1, fun t ht => ?_⟩
 rw [keepS_get, h.get t ht]
 simp only [Option.map_some, Nat.zero_add, Option.some.injEq]
 unfold strikeF
 rw [h2 t ht, get_fullT]
 by_cases hm : t ∈ keep <;> simp [hm]
theorem ltL_iff {n : Nat} : ∀ {l : List MV}, ltL n l = true ↔ ∀ m ∈ l, m.lt n = true
 | [] => by simp [ltL]
 | v :: l => by simp [ltL, ltL_iff (l := l)]
theorem headF_TR {n nh : Nat} {keep : List Nat} {tr : TS} {s : List MV} {h : MHeap} (hT : TR n tr s) : TR n (headF keep nh n (tr, h)).1 (headM keep nh ⟨s, h⟩).s ∧ (headF keep nh n (tr, h)).2 = (headM keep nh ⟨s, h⟩).h := by
 have e : keep.all (fun k => (fget n tr k).lt nh) = ltL nh (keepS keep 0 s) := by
  rw [Bool.eq_iff_iff, ltL_iff, List.all_eq_true]
  constructor
  ·intro hk m hm
   obtain ⟨t, ht⟩ := List.getElem?_of_mem hm
   rw [keepS_get, Option.map_eq_some_iff] at ht
   obtain ⟨v, h1, rfl⟩ := ht
   simp only [Nat.zero_add]
   split
   ·rename_i hc
    have := hk t (by simpa using hc)
    rw [hT.g] at this
    simpa [h1] using this
   ·rfl
  ·intro hk k hkm
   rw [hT.g]
   by_cases hl : k < s.length
   ·have := hk s[k] (List.mem_of_getElem? (i := k) (by rw [keepS_get]; simp [hkm, hl]))
    simpa [hl] using this
   ·simp [Nat.not_lt.1 hl]; rfl
 unfold headF headM
 simp only [e]
 split
 ·exact ⟨strikeF_TR hT, rfl⟩
 ·split
  ·exact ⟨strikeF_TR hT, rfl⟩
  ·exact ⟨strikeF_TR hT, rfl⟩
theorem putAllF_TR {n : Nat} : ∀ {ps : List Nat} {vs : List MV} {tr : TS} {s : List MV}, TR n tr s → TR n (putAllF n tr ps vs) (putAll s ps vs)
 | [], vs, tr, s, h => by
  have e1 : putAllF n tr [] vs = tr := by cases vs <;> rfl
  have e2 : putAll s [] vs = s := by cases vs <;> rfl
  rw [e1, e2]; exact h
 | p :: ps, [], tr, s, h => h
 | p :: ps, v :: vs, tr, s, h => putAllF_TR (ps := ps) (vs := vs) (h.set p v)
theorem overH_mono {f f' : List MV → MHeap → Option (MX2 × MHeap)} (hf : ∀ x h r, f x h = some r → f' x h = some r) : ∀ {xs : List (List MV)} {h : MHeap} {r : MX2 × MHeap}, overH f xs h = some r → overH f' xs h = some r
 | [], h, r, he => by simpa [overH] using he
 | x :: xs, h, r, he => by
  simp only [overH] at he ⊢
  split at he
  ·rename_i h' h1
   rw [hf _ _ _ h1]
   exact overH_mono hf he
  ·rename_i y hne
   obtain ⟨y1, y2⟩ := r
   rw [hf _ _ _ he]
   split
   ·rename_i h3 e
    cases e
    exact absurd he (hne _)
   ·rfl
theorem evCF_ok {O : Oracle} {I : Iter} {N n : Nat} : ∀ (mc : MC) (lk : Nat → Bool) (tr : TS) (s : List MV) (h : MHeap) (x : MX2) (st' : FS), TR n tr s → evCF O I N n mc lk (tr, h) = some (x, st') → ∃ s', evC O I N mc lk ⟨s, h⟩ = some (x, ⟨s', st'.2⟩) ∧ TR n st'.1 s' := by
 intro mc
 induction mc with
 | skip => intro lk tr s h x st' hT he; simp only [evCF, Option.some.injEq, Prod.mk.injEq] at he; obtain ⟨rfl, rfl⟩ := he; exact ⟨s, rfl, hT⟩
 | exit id => intro lk tr s h x st' hT he; simp only [evCF, Option.some.injEq, Prod.mk.injEq] at he; obtain ⟨rfl, rfl⟩ := he; exact ⟨s, rfl, hT⟩
 | ret => intro lk tr s h x st' hT he; simp only [evCF, Option.some.injEq, Prod.mk.injEq] at he; obtain ⟨rfl, rfl⟩ := he; exact ⟨s, rfl, hT⟩
 | bad => intro lk tr s h x st' hT he; simp [evCF] at he
 | give t b _ => intro lk tr s h x st' hT he; simp [evCF] at he
 | reg ops =>
  intro lk tr s h x st' hT he
  simp only [evCF] at he
  split at he
  case h_2 => cases he
  rename_i st1 h1
  cases he
  obtain ⟨s', k1, k2⟩ := evRF_ok hT h1
  exact ⟨s', by simp only [evC, k1, Option.map_some], k2⟩
 | seq a b iha ihb =>
  intro lk tr s h x st' hT he
  simp only [evCF] at he
  split at he
  ·rename_i st1 h1
   obtain ⟨s1, k1, k2⟩ := iha lk tr s h _ _ hT h1
   obtain ⟨s2, j1, j2⟩ := ihb lk st1.1 s1 st1.2 _ _ k2 he
   exact ⟨s2, by simp only [evC, k1]; exact j1, j2⟩
  ·rename_i r hne
   obtain ⟨s1, k1, k2⟩ := iha lk tr s h _ _ hT he
   refine ⟨s1, ?_, k2⟩
   simp only [evC, k1]
   cases x with
   | normal => exact absurd he (hne _)
   | exit id => rfl
   | ret => rfl
 | cond c a b iha ihb =>
  intro lk tr s h x st' hT he
  simp only [evCF, gt_get hT.g] at he
  split at he
  case h_2 => cases he
  rename_i t ht
  simp only [evC, ht]
  cases t
  ·simp only [Bool.false_eq_true, if_false] at he ⊢
   exact ihb lk tr s h x st' hT he
  ·simp only [if_true] at he ⊢
   exact iha lk tr s h x st' hT he
 | block id b ih =>
  intro lk tr s h x st' hT he
  simp only [evCF] at he
  split at he
  ·rename_i k st1 h1
   obtain ⟨s1, k1, k2⟩ := ih lk tr s h _ _ hT h1
   simp only [evC, k1]
   split at he
   ·rename_i e
    cases he
    exact ⟨s1, by simp [e], k2⟩
   ·rename_i e
    cases he
    exact ⟨s1, by simp [e], k2⟩
  ·rename_i r hne
   obtain ⟨s1, k1, k2⟩ := ih lk tr s h _ _ hT he
   refine ⟨s1, ?_, k2⟩
   simp only [evC, k1]
   cases x with
   | normal => rfl
   | exit id => exact absurd he (hne _ _)
   | ret => rfl
 | loop keep b ih =>
  intro lk tr s h x st' hT he
  simp only [evCF] at he
  simp only [evC]
  have key : ∀ (M : Nat) (tr1 : TS) (s1 : List MV) (h1 : MHeap), TR n tr1 s1 → roundsF (fun st' => evCF O I N n b lk (headF keep h.length n st')) M (tr1, h1) = some (x, st') → ∃ s', rounds (fun st' => evC O I N b lk (headM keep h.length st')) M ⟨s1, h1⟩ = some (x, ⟨s', st'.2⟩) ∧ TR n st'.1 s' := by
   intro M
   induction M with
   | zero => intro tr1 s1 h1 _ he; simp [roundsF] at he
   | succ M ihM =>
    intro tr1 s1 h1 hT1 he
    obtain ⟨q1, q2⟩ := headF_TR (keep := keep) (nh := h.length) (h := h1) hT1
    have hpair : headF keep h.length n (tr1, h1) = ((headF keep h.length n (tr1, h1)).1, (headM keep h.length ⟨s1, h1⟩).h) := by rw [← q2]
    simp only [roundsF] at he
    rw [hpair] at he
    simp only [rounds]
    split at he
    ·rename_i st2 h2
     obtain ⟨s2, k1, k2⟩ := ih lk _ _ _ _ _ q1 h2
     have k1' : evC O I N b lk (headM keep h.length ⟨s1, h1⟩) = some (.normal, ⟨s2, st2.2⟩) := k1
     simp only [k1']
     exact ihM _ _ _ k2 he
    ·rename_i r hne
     obtain ⟨s2, k1, k2⟩ := ih lk _ _ _ _ _ q1 he
     have k1' : evC O I N b lk (headM keep h.length ⟨s1, h1⟩) = some (x, ⟨s2, st'.2⟩) := k1
     simp only [k1']
     refine ⟨s2, ?_, k2⟩
     cases x with
     | normal => exact absurd he (hne _)
     | exit id => rfl
     | ret => rfl
  exact key N tr s h hT he
 | rf keep f ps a b iha ihb =>
  intro lk tr s h x st' hT he
  simp only [evCF, gt_get hT.g] at he
  split at he
  case h_2 => cases he
  rename_i g k caps hf
  split at he
  case h_2 => cases he
  rename_i xs hxs
  split at he
  case isFalse => cases he
  rename_i hlen
  split at he
  case h_2 => cases he
  rename_i r hov
  simp only [Option.some.injEq, Prod.mk.injEq] at he
  obtain ⟨rfl, rfl⟩ := he
  simp only [evC, hf, hxs, if_pos hlen]
  refine ⟨s, ?_, hT⟩
  rw [overH_mono ?_ hov]
  ·rfl
  ·intro x1 h1 r1 he1
   obtain ⟨q1, q2⟩ := headF_TR (keep := keep) (nh := h.length) (h := h1) hT
   rw [q2] at he1
   split at he1
   ·rename_i st2 h2
    obtain ⟨s2, k1, k2⟩ := iha _ _ _ _ _ _ (putAllF_TR q1) h2
    simp only [k1]
    split at he1
    ·rename_i y st3 h3
     obtain ⟨s3, j1, j2⟩ := ihb _ st2.1 s2 st2.2 _ _ k2 h3
     have j1' : evC O I N b (fun id => lk id || (caps.flatMap (MV.ids h 6)).contains id) ⟨s2, st2.2⟩ = some (y, ⟨s3, st3.2⟩) := j1
     simp only [j1']
     exact he1
    ·cases he1
   ·cases he1
end Go.Proofs.YtfchdbghjeophaaDoor

/- Faster evaluation: functions; the oracle. -/
namespace Go.Proofs.YtfchdbghjeophaaDoor
open Go.RowKit
noncomputable def insF (tr : TS) (i : Nat) (args : List MV) : TS :=
 List.rec (motive := fun _ => TS → Nat → TS) (fun tr _ => tr) (fun v _ ih tr i => ih (tset tr i v) (i + 1)) args tr i
def resG (g : Nat → MV) (h : MHeap) : MRes → Option MV
 | .tmp t => some (g t)
 | .cell t ag => match g t with
  | .ptr id i off gn => match h[id]? with
   | some o => if o.g = gn then match o.es[i]? with
     | some e => rdCells e.cells off ag
     | none => none
    else none
   | none => none
  | _ => none
 | .cello t ag => match g t with
  | .ptr id i off gn => match h[id]? with
   | some o => if o.g = gn then match o.es[i]? with
     | some e => rdCells e.cells off ag
     | none => none
    else none
   | none => none
  | _ => none
noncomputable def runFf (O : Oracle) (I : Iter) (N : Nat) (m : MF) (args : List MV) (h : MHeap) : Option (MV × MHeap) :=
 if args.length ≤ m.ntmps ∧ m.ntmps ≤ 256 then
  match evCF O I N m.ntmps m.body (fun id => Nat.blt id h.length) (insF (fullT (.lit undef) 8) 0 args, h) with
  | some (x, st) => if outX x then match m.res.mapM (resG (fget m.ntmps st.1) st.2) with
    | some vs => if (impIds h.length (opn m.res vs)).Nodup then match expL h.length (impIds h.length (opn m.res vs)) st.2 (opn m.res vs) h.length with
      | some (vs', news) => some (clo m.res vs vs', h ++ news)
      | none => none
     else none
    | none => none
   else none
  | none => none
 else none
theorem insF_ok : ∀ (args : List MV) (tr : TS) (i : Nat), IsFull 8 tr → i + args.length ≤ 2 ^ 8 → IsFull 8 (insF tr i args) ∧ ∀ t, t < 2 ^ 8 → tget (insF tr i args) t = if i ≤ t ∧ t < i + args.length then args.getD (t - i) (.lit undef) else tget tr t
 | [], tr, i, hf, _ => ⟨hf, fun t _ => by
  have e : insF tr i [] = tr := rfl
  rw [e]
  simp only [List.length_nil, Nat.add_zero]
  split
  ·omega
  ·rfl⟩
 | v :: args, tr, i, hf, hl => by
  have e : insF tr i (v :: args) = insF (tset tr i v) (i + 1) args := rfl
  rw [e]
  simp only [List.length_cons] at hl
  obtain ⟨h1, h2⟩ := insF_ok args (tset tr i v) (i + 1) (full_set _ _ hf) (by omega)
  refine ⟨h1, fun t ht => ?_⟩
  rw [h2 t ht, get_set hf (by omega) ht]
  simp only [List.length_cons]
  by_cases e1 : i = t
  ·subst e1
   have : ¬ (i + 1 ≤ i ∧ i < i + 1 + args.length) := by omega
   simp [this]
  ·by_cases e2 : i + 1 ≤ t ∧ t < i + 1 + args.length
   ·have e3 : i ≤ t ∧ t < i + (args.length + 1) := by omega
    rw [if_pos e2, if_pos e3]
    obtain ⟨d, hd⟩ : ∃ d, t - i = d + 1 := ⟨t - i - 1, by omega⟩
    rw [hd]
    have : t - (i + 1) = d := by omega
    rw [this]
    simp
   ·have e3 : ¬ (i ≤ t ∧ t < i + (args.length + 1)) := by omega
    rw [if_neg e2, if_neg e3, if_neg e1]
theorem init_TR {n : Nat} {args : List MV} (h1 : args.length ≤ n) (h2 : n ≤ 256) : TR n (insF (fullT (.lit undef) 8) 0 args) (args ++ List.replicate (n - args.length) (.lit undef)) := by
 obtain ⟨k1, k2⟩ := insF_ok args (fullT (.lit undef) 8) 0 (full_fullT _ _) (by simpa using Nat.le_trans h1 h2)
 refine ⟨by simp; omega, h2, k1, fun t ht => ?_⟩
 rw [k2 t (Nat.lt_of_lt_of_le ht h2), get_fullT]
 by_cases e : t < args.length
 ·rw [List.getElem?_append_left e]; simp [e]
 ·have : ¬ (0 ≤ t ∧ t < 0 + args.length) := by omega
  rw [if_neg this, List.getElem?_append_right (by omega), List.getElem?_replicate]
  rw [if_pos (by omega)]
theorem resG_eq {g : Nat → MV} {s : List MV} (hg : ∀ t, g t = s.getD t (.lit undef)) (h : MHeap) : resG g h = resM s h := by
 funext r
 cases r with
 | tmp t => simp only [resG, resM, hg]
 | cell t ag => simp only [resG, resM, hg]; rfl
 | cello t ag => simp only [resG, resM, hg]; rfl
theorem runFf_ok {O : Oracle} {I : Iter} {N : Nat} {m : MF} {args : List MV} {h : MHeap} {r : MV × MHeap} (he : runFf O I N m args h = some r) : runF O I N m args h = some r := by
 unfold runFf at he
 split at he
 case isFalse => cases he
 rename_i hn
 split at he
 case h_2 => cases he
 rename_i x st hev
 have elk : (fun id => Nat.blt id h.length) = fun id => decide (id < h.length) := by
  funext id
  rw [Bool.eq_iff_iff, Nat.blt_eq]
  simp
 rw [elk] at hev
 obtain ⟨s', k1, k2⟩ := evCF_ok m.body _ _ _ _ _ _ (init_TR hn.1 hn.2) hev
 split at he
 case isFalse => cases he
 rename_i hx
 rw [resG_eq k2.g] at he
 unfold runF
 rw [k1]
 have hx' : x = .ret ∨ x = .normal := by cases x <;> simp [outX] at hx <;> simp
 simp only [if_pos hx']
 exact he
end Go.Proofs.YtfchdbghjeophaaDoor

/- Faster evaluation of closed calls: what it answers, the program answers. -/
namespace Go.Proofs.YtfchdbghjeophaaDoor
open Go.RowKit
set_option linter.unusedVariables false
def LeO (O O' : Oracle) : Prop := ∀ f as_ h r, O f as_ h = some r → O' f as_ h = some r
def LeI (I I' : Iter) : Prop := ∀ g k cs h r, I g k cs h = some r → I' g k cs h = some r
theorem evO_le {O O' : Oracle} (hO : LeO O O') {lk : Nat → Bool} {s : List MV} {h : MHeap} {mo : MO} {r : MV × MHeap} (he : evO lk O s h mo = some r) : evO lk O' s h mo = some r := by
 cases mo <;> first
  | exact he
  | (simp only [evO] at he ⊢; exact hO _ _ _ _ he)
  | skip
 simp only [evO] at he ⊢
 split at he
 ·exact hO _ _ _ _ he
 ·cases he
theorem evG_le {O O' : Oracle} (hO : LeO O O') {lk : Nat → Bool} {g : GO} {st st' : MSt} (he : evG lk O g st = some st') : evG lk O' g st = some st' := by
 unfold evG at he ⊢
 split at he
 ·cases he
 ·rename_i t ht
  cases t
  ·simpa using he
  ·simp only [if_true] at he ⊢
   split at he
   ·rename_i v h1 hev
    rw [evO_le hO hev]
    exact he
   ·cases he
theorem evR_le {O O' : Oracle} (hO : LeO O O') {lk : Nat → Bool} : ∀ {l : List GO} {st st' : MSt}, evR lk O l st = some st' → evR lk O' l st = some st'
 | [], st, st', he => he
 | o :: l, st, st', he => by
  simp only [evR, Option.bind_eq_some_iff] at he ⊢
  obtain ⟨st1, h1, h2⟩ := he
  exact ⟨st1, evG_le hO h1, evR_le hO h2⟩
theorem rounds_le {f f' : MSt → Option (MX2 × MSt)} (hf : ∀ st r, f st = some r → f' st = some r) : ∀ (n : Nat) (st : MSt) (r : MX2 × MSt), rounds f n st = some r → rounds f' n st = some r
 | 0, st, r, he => by simp [rounds] at he
 | n + 1, st, r, he => by
  simp only [rounds] at he ⊢
  split at he
  ·rename_i st1 h1
   rw [hf _ _ h1]
   exact rounds_le hf n st1 r he
  ·rename_i x hne
   rw [hf _ _ he]
   obtain ⟨y, st2⟩ := r
   cases y with
   | normal => exact absurd he (hne _)
   | exit id => rfl
   | ret => rfl
theorem evC_le {O O' : Oracle} {I I' : Iter} (hO : LeO O O') (hI : LeI I I') {N : Nat} : ∀ (mc : MC) (lk : Nat → Bool) (st : MSt) (r : MX2 × MSt), evC O I N mc lk st = some r → evC O' I' N mc lk st = some r := by
 intro mc
 induction mc with
 | skip => intro lk st r he; exact he
 | exit id => intro lk st r he; exact he
 | ret => intro lk st r he; exact he
 | bad => intro lk st r he; exact he
 | reg ops =>
  intro lk st r he
  simp only [evC, Option.map_eq_some_iff] at he ⊢
  obtain ⟨st1, h1, h2⟩ := he
  exact ⟨st1, evR_le hO h1, h2⟩
 | seq a b iha ihb =>
  intro lk st r he
  simp only [evC] at he ⊢
  split at he
  ·rename_i st1 h1
   rw [iha _ _ _ h1]
   exact ihb _ _ _ he
  ·rename_i x hne
   rw [iha _ _ _ he]
   obtain ⟨y, st2⟩ := r
   cases y with
   | normal => exact absurd he (hne _)
   | exit id => rfl
   | ret => rfl
 | cond c a b iha ihb =>
  intro lk st r he
  simp only [evC] at he ⊢
  split at he
  ·rename_i t ht
   cases t
   ·simp only [Bool.false_eq_true, if_false] at he ⊢; exact ihb _ _ _ he
   ·simp only [if_true] at he ⊢; exact iha _ _ _ he
  ·cases he
 | block id b ih =>
  intro lk st r he
  simp only [evC] at he ⊢
  split at he
  ·rename_i k st1 h1
   rw [ih _ _ _ h1]
   exact he
  ·rename_i x hne
   rw [ih _ _ _ he]
   obtain ⟨y, st2⟩ := r
   cases y with
   | normal => rfl
   | exit id => exact absurd he (hne _ _)
   | ret => rfl
 | loop keep b ih =>
  intro lk st r he
  simp only [evC] at he ⊢
  exact rounds_le (fun st r h => ih _ _ _ h) N st r he
 | rf keep f ps a b iha ihb =>
  intro lk st r he
  simp only [evC] at he ⊢
  split at he
  case h_2 => cases he
  rename_i g k caps hf
  split at he
  case h_2 => cases he
  rename_i xs hxs
  rw [hI _ _ _ _ _ hxs]
  simp only
  split at he
  case isFalse => cases he
  rename_i hlen
  rw [if_pos hlen]
  rw [Option.map_eq_some_iff] at he ⊢
  obtain ⟨r1, h1, h2⟩ := he
  refine ⟨r1, overH_mono (fun x h r he => ?_) h1, h2⟩
  split at he
  ·rename_i st2 h3
   rw [iha _ _ _ h3]
   simp only
   split at he
   ·rename_i y st3 h4
    rw [ihb _ _ _ h4]
    exact he
   ·cases he
  ·cases he
 | give t b ih =>
  intro lk st r he
  simp only [evC] at he ⊢
  split at he
  ·split at he
   ·exact ih _ _ _ he
   ·cases he
  ·split at he
   ·exact ih _ _ _ he
   ·cases he
theorem runF_le {O O' : Oracle} {I I' : Iter} (hO : LeO O O') (hI : LeI I I') {N : Nat} {m : MF} {as_ : List MV} {h : MHeap} {r : MV × MHeap} (he : runF O I N m as_ h = some r) : runF O' I' N m as_ h = some r := by
 unfold runF at he ⊢
 split at he
 ·rename_i x st h1
  rw [evC_le hO hI _ _ _ _ h1]
  exact he
 ·cases he
theorem frzCall_le {run run' : List MV → Option (MV × MHeap)} (hr : ∀ a r, run a = some r → run' a = some r) {as_ : List MV} {h : MHeap} {r : MV × MHeap} (he : frzCall run as_ h = some r) : frzCall run' as_ h = some r := by
 unfold frzCall at he ⊢
 split at he
 ·rename_i as' h1
  split at he
  ·rename_i m news h2
   rw [hr _ _ h2]
   exact he
  ·cases he
 ·cases he
noncomputable def orL (T : Oracle) (mf : Nat → Option MF) (N : Nat) : Nat → Oracle
 | 0, _, _, _ => none
 | k + 1, f, as_, h => frzCall (fun as' => match T f as' [] with
  | some r => some r
  | none => match mf f with
   | some m => runFf (orL T mf N k) noI N m as' []
   | none => none) as_ h
theorem orL_up {M : Tab} {T : Oracle} {I0 : Iter} {N : Nat} {mf : Nat → Option MF} (hmf : ∀ f m, mf f = some m → M.mf f = some m) (e : Nat) : ∀ k, LeO (orL T mf N k) (orZ M T I0 N (k + e))
 | 0 => fun f as_ h r he => by simp [orL] at he
 | k + 1 => fun f as_ h r he => by
  simp only [orL] at he
  rw [show k + 1 + e = (k + e) + 1 by omega]
  simp only [orZ]
  rw [frzCall_le (run' := tabZ M T (orZ M T I0 N (k + e)) (orI M I0 (orZ M T I0 N (k + e)) N) N f) (fun a r hr => ?_) he]
  unfold tabZ
  split at hr
  ·rename_i r0 hT
   first | exact hr | (rw [hT]; exact hr)
  ·rename_i hT
   split at hr
   ·rename_i m hm
    try rw [hT]
    show runZ M (orZ M T I0 N (k + e)) (orI M I0 (orZ M T I0 N (k + e)) N) N f a [] = some r
    unfold runZ
    rw [hmf f m hm]
    exact runF_le (orL_up hmf e k) (fun g k cs h r he => by cases he) (runFf_ok hr)
   ·cases hr
def OkT (M : Tab) (l : List (Nat × MF)) : Prop := ∀ p ∈ l, M.mf p.1 = some p.2
theorem OkT.nil {M : Tab} : OkT M [] := fun p hp => by cases hp
theorem OkT.cons {M : Tab} {k : Nat} {m : MF} {l : List (Nat × MF)} (h : M.mf k = some m) (hl : OkT M l) : OkT M ((k, m) :: l) := fun p hp => by
 rcases List.mem_cons.1 hp with rfl | hp
 ·exact h
 ·exact hl p hp
noncomputable def lookT (l : List (Nat × MF)) (f : Nat) : Option MF :=
 List.rec (motive := fun _ => Option MF) none (fun p _ ih => Bool.rec (motive := fun _ => Option MF) ih (some p.2) (Nat.beq f p.1)) l
theorem OkT.look {M : Tab} {f : Nat} {m : MF} : ∀ {l : List (Nat × MF)}, OkT M l → lookT l f = some m → M.mf f = some m
 | [], _, h => by cases h
 | p :: l, hl, h => by
  have e : lookT (p :: l) f = Bool.rec (motive := fun _ => Option MF) (lookT l f) (some p.2) (Nat.beq f p.1) := rfl
  rw [e] at h
  cases hb : Nat.beq f p.1
  ·rw [hb] at h
   exact OkT.look (fun q hq => hl q (List.mem_cons_of_mem _ hq)) h
  ·rw [hb] at h
   cases h
   rw [Nat.eq_of_beq_eq_true hb]
   exact hl p List.mem_cons_self
theorem runL_ok {M : Tab} {T : Oracle} {I0 : Iter} {N : Nat} {mf : Nat → Option MF} (hmf : ∀ f m, mf f = some m → M.mf f = some m) {k f : Nat} {m : MF} {as_ : List MV} {r : MV × MHeap} (hm : mf f = some m) (he : runFf (orL T mf N k) noI N m as_ [] = some r) (I : Iter) : runZ M (orZ M T I0 N k) I N f as_ [] = some r := by
 unfold runZ
 rw [hmf f m hm]
 exact runF_le (orL_up hmf 0 k) (fun g k cs h r he => by cases he) (runFf_ok he)
theorem runL_up {M : Tab} {T : Oracle} {I0 : Iter} {N : Nat} {mf : Nat → Option MF} (hmf : ∀ f m, mf f = some m → M.mf f = some m) {k f : Nat} {m : MF} {as_ : List MV} {r : MV × MHeap} (e : Nat) (hm : mf f = some m) (he : runFf (orL T mf N k) noI N m as_ [] = some r) (I : Iter) : runZ M (orZ M T I0 N (k + e)) I N f as_ [] = some r := by
 unfold runZ
 rw [hmf f m hm]
 exact runF_le (orL_up hmf e k) (fun g k cs h r he => by cases he) (runFf_ok he)
end Go.Proofs.YtfchdbghjeophaaDoor

/- The texts that the examples reach, as a table. -/
namespace Go.Proofs.YtfchdbghjeophaaDoor
open Go.RowKit
noncomputable def mfW_l9 : MF := ⟨33, [(.tmp 2), (.tmp 3), (.tmp 4)], (.seq (.reg [gO 1 (.box 2 (.s 0)), gO 2 (.nil0 1), gO 3 (.mv (cI 0)), gO 4 (.mv (cI 0))]) (.seq (.reg [gO 12 (.ld (some 2) (.s 1)), gO 13 (.call 22 [.s 12]), gO 11 (.mv (.s 13)), gO 14 (.ext (.s 11) 0), gO 15 (.ext (.s 11) 1), gO 16 (.ext (.s 11) 2), gO 17 (.ext (.s 11) 3), gO 5 (.new (.agg [(.lit (.slice none 0 0)), (.lit (.slice none 0 0))])), ⟨none, none, .st 2 (.s 5) (.s 14)⟩, gO 6 (.mv (.s 15)), gO 7 (.mv (.s 16)), gO 8 (.mv (.s 17))]) (.seq (.seq (.reg [gO 18 (.mv (.s 8)), gO 19 (.bin .neq (.s 18) (cI 0))]) (.cond (.s 19) (.seq (.reg [gO 20 (.mv (.s 8)), gO 2 (.nil0 1), gO 3 (.mv (cI 0)), gO 4 (.mv (.s 20))]) .ret) .skip)) (.seq (.reg [gO 22 (.fa 0 (.s 5)), gO 23 (.fa 0 (.s 22)), gO 24 (.ld none (.s 23)), gO 25 (.len (.s 24)), gO 26 (.mv (.s 6)), gO 27 (.bsl (.lit (.int .i64 0)) 1 1 [(0, (cI 0))]), gO 28 (.call 23 [.s 25, .s 26, .s 27]), gO 21 (.mv (.s 28)), gO 29 (.ext (.s 21) 0), gO 30 (.ext (.s 21) 1), gO 9 (.mv (.s 29)), gO 10 (.mv (.s 30))]) (.seq (.reg [gO 31 (.mv (.s 9)), gO 32 (.mv (.s 7)), gO 2 (.mv (.s 31)), gO 3 (.mv (.s 32)), gO 4 (.mv (cI 0))]) .ret)))))⟩
theorem mfW_q9 : MT.mf 9 = some mfW_l9 := by kernel_rfl
noncomputable def mfW_l17 : MF := ⟨91, [(.tmp 4), (.tmp 5)], (.seq (.reg [gO 2 (.box 2 (.s 0)), gO 4 (.mv (cI 0)), gO 5 (.mv (cI 0))]) (.seq (.reg [gO 18 (.ld (some 2) (.s 2)), gO 19 (.call 24 [.s 18]), gO 17 (.mv (.s 19)), gO 20 (.ext (.s 17) 0), gO 21 (.ext (.s 17) 1), gO 6 (.new (.agg [(.lit (.slice none 0 0)), (.lit (.slice none 0 0))])), ⟨none, none, .st 2 (.s 6) (.s 20)⟩, gO 7 (.mv (.s 21))]) (.seq (.reg [gO 22 (.mv (.s 7)), gO 23 (.mv (.s 1)), gO 24 (.len (.s 23)), gO 25 (.bin .gtr (.s 24) (cI 0)), gO 26 (.mv (.s 25)), ⟨some (26, true), some 27, .mv (.s 1)⟩, ⟨some (26, true), some 28, .len (.s 27)⟩, ⟨some (26, true), some 29, .bin .rem (.s 28) (cI 2)⟩, ⟨some (26, true), some 30, .bin .eql (.s 29) (cI 0)⟩, gO 31 (.pick (.s 26) (.s 30) cF), gO 32 (.call 29 [.s 31, (cI 10)]), gO 33 (.mv (.s 1)), gO 34 (.len (.s 33)), gO 35 (.bin .leq (.s 34) (cI 32)), gO 36 (.call 29 [.s 35, (cI 8)]), gO 37 (.bsl (.lit (.int .i64 0)) 1 3 [(0, (.s 22)), (1, (.s 32)), (2, (.s 36))]), gO 38 (.call 28 [.s 37]), gO 7 (.mv (.s 38))]) (.seq (.seq (.reg [gO 39 (.mv (.s 7)), gO 40 (.bin .neq (.s 39) (cI 0))]) (.cond (.s 40) (.seq (.reg [gO 41 (.mv (.s 7)), gO 4 (.mv (cI 0)), gO 5 (.mv (.s 41))]) .ret) .skip)) (.seq (.reg [gO 8 (.mv (cI (-1))), gO 9 (.mv (cI (-1))), gO 10 (.mv (cI 0))]) (.seq (.seq (.reg [gO 42 (.mv (.s 1)), gO 43 (.len (.s 42)), gO 44 (.mv (cI 0))]) (.block 0 (.loop [44, 43, 42, 2, 10, 9, 8] (.seq (.reg [gO 45 (.bin .lss (.s 44) (.s 43))]) (.seq (.cond (.s 45) .skip (.exit 0)) (.seq (.block 1 (.seq (.reg [gO 46 (.mv (.s 44)), gO 47 (.ia 1 (.s 42) (.s 44)), gO 48 (.ld none (.s 47)), gO 11 (.mv (.s 46)), gO 12 (.mv (.s 48))]) (.seq (.seq (.reg [gO 49 (.mv (.s 12)), gO 50 (.fa 1 (.s 2)), gO 51 (.ld none (.s 50)), gO 52 (.len (.s 51)), gO 53 (.bin .sub (.s 52) (cI 1)), gO 54 (.call 37 [.s 49, (cI 0), .s 53]), gO 55 (.un .not (.s 54))]) (.cond (.s 55) (.seq (.reg [gO 4 (.mv (cI 0)), gO 5 (.mv (cI 6))]) .ret) .skip)) (.seq (.reg [gO 56 (.fa 1 (.s 2)), gO 57 (.ld none (.s 56)), gO 58 (.mv (.s 12)), gO 59 (.ia 6 (.s 57) (.s 58)), gO 60 (.ld (some 6) (.s 59)), gO 13 (.new (.agg [(.lit (.int .i64 0)), (.lit (.int .i64 0)), (.lit (.int .i64 0)), (.lit (.int .i64 0)), (.lit (.int .i64 0)), (.lit (.int .i64 0))])), ⟨none, none, .st 6 (.s 13) (.s 60)⟩]) (.seq (.reg [gO 61 (.fa 0 (.s 13)), gO 62 (.ld none (.s 61)), gO 63 (.fa 1 (.s 13)), gO 64 (.ld none (.s 63)), gO 14 (.mv (.s 62)), gO 15 (.mv (.s 64)), gO 16 (.mv (cI 1))]) (.seq (.seq (.reg [gO 65 (.mv (.s 11)), gO 66 (.bin .rem (.s 65) (cI 2)), gO 67 (.bin .eql (.s 66) (cI 1))]) (.cond (.s 67) (.reg [gO 68 (.fa 1 (.s 13)), gO 69 (.ld none (.s 68)), gO 70 (.fa 0 (.s 13)), gO 71 (.ld none (.s 70)), gO 14 (.mv (.s 69)), gO 15 (.mv (.s 71)), gO 16 (.mv (cI (-1)))]) .skip)) (.seq (.seq (.reg [gO 72 (.mv (.s 11)), gO 73 (.bin .eql (.s 72) (cI 0))]) (.cond (.s 73) (.reg [gO 74 (.mv (.s 14)), gO 75 (.mv (.s 14)), gO 8 (.mv (.s 74)), gO 9 (.mv (.s 75))]) .skip)) (.seq (.seq (.reg [gO 76 (.mv (.s 14)), gO 77 (.mv (.s 9)), gO 78 (.bin .neq (.s 76) (.s 77))]) (.cond (.s 78) (.seq (.reg [gO 4 (.mv (cI 0)), gO 5 (.mv (cI 14))]) .ret) .skip)) (.reg [gO 79 (.mv (.s 15)), gO 80 (.mv (.s 10)), gO 81 (.mv (.s 16)), gO 82 (.fa 4 (.s 13)), gO 83 (.ld none (.s 82)), gO 84 (.bin .mul (.s 81) (.s 83)), gO 85 (.bin .add (.s 80) (.s 84)), gO 9 (.mv (.s 79)), gO 10 (.mv (.s 85))]))))))))) (.reg [gO 86 (.bin .add (.s 44) (cI 1)), gO 44 (.mv (.s 86))]))))))) (.seq (.seq (.reg [gO 87 (.mv (.s 9)), gO 88 (.mv (.s 8)), gO 89 (.bin .neq (.s 87) (.s 88))]) (.cond (.s 89) (.seq (.reg [gO 4 (.mv (cI 0)), gO 5 (.mv (cI 21))]) .ret) .skip)) (.seq (.reg [gO 90 (.mv (.s 10)), gO 4 (.mv (.s 90)), gO 5 (.mv (cI 0))]) .ret))))))))⟩
theorem mfW_q17 : MT.mf 17 = some mfW_l17 := by kernel_rfl
noncomputable def mfW_l22 : MF := ⟨66, [(.cell 2 (some 2)), (.tmp 3), (.tmp 4), (.tmp 5)], (.seq (.reg [gO 1 (.box 2 (.s 0)), gO 2 (.new (.agg [(.lit (.slice none 0 0)), (.lit (.slice none 0 0))])), gO 3 (.nil0 5), gO 4 (.mv (cI 0)), gO 5 (.mv (cI 0))]) (.seq (.reg [gO 15 (.ld (some 2) (.s 1)), gO 16 (.call 24 [.s 15]), gO 14 (.mv (.s 16)), gO 17 (.ext (.s 14) 0), gO 18 (.ext (.s 14) 1), gO 6 (.new (.agg [(.lit (.slice none 0 0)), (.lit (.slice none 0 0))])), ⟨none, none, .st 2 (.s 6) (.s 17)⟩, gO 7 (.mv (.s 18))]) (.seq (.seq (.reg [gO 19 (.mv (.s 7)), gO 20 (.bin .neq (.s 19) (cI 0))]) (.cond (.s 20) (.seq (.reg [gO 21 (.ld (some 2) (.s 6)), gO 22 (.mv (.s 7)), ⟨none, none, .st 2 (.s 2) (.s 21)⟩, gO 3 (.nil0 5), gO 4 (.mv (cI 0)), gO 5 (.mv (.s 22))]) .ret) .skip)) (.seq (.reg [gO 8 (.nil0 5)]) (.seq (.seq (.reg [gO 23 (.fa 1 (.s 1)), gO 24 (.ld none (.s 23)), gO 25 (.len (.s 24)), gO 26 (.mv (cI 0))]) (.block 0 (.loop [26, 25, 24, 8, 1, 6, 2] (.seq (.reg [gO 27 (.bin .lss (.s 26) (.s 25))]) (.seq (.cond (.s 27) .skip (.exit 0)) (.seq (.block 1 (.seq (.reg [gO 28 (.ia 6 (.s 24) (.s 26)), gO 29 (.ld (some 6) (.s 28)), gO 10 (.new (.agg [(.lit (.int .i64 0)), (.lit (.int .i64 0)), (.lit (.int .i64 0)), (.lit (.int .i64 0)), (.lit (.int .i64 0)), (.lit (.int .i64 0))])), ⟨none, none, .st 6 (.s 10) (.s 29)⟩]) (.reg [gO 30 (.mv (.s 8)), gO 31 (.fa 0 (.s 10)), gO 32 (.ld none (.s 31)), gO 33 (.fa 1 (.s 10)), gO 34 (.ld none (.s 33)), gO 35 (.build [(.lit (.int .i64 0)), (.lit (.int .i64 0)), (.lit (.int .i64 0)), (.lit (.int .i64 0)), (.lit (.int .i64 0))] [(0, (1, (.s 32))), (1, (1, (.s 34)))]), gO 36 (.fa 1 (.s 10)), gO 37 (.ld none (.s 36)), gO 38 (.fa 0 (.s 10)), gO 39 (.ld none (.s 38)), gO 40 (.build [(.lit (.int .i64 0)), (.lit (.int .i64 0)), (.lit (.int .i64 0)), (.lit (.int .i64 0)), (.lit (.int .i64 0))] [(0, (1, (.s 37))), (1, (1, (.s 39)))]), gO 41 (.bsl (.agg [(.lit (.int .i64 0)), (.lit (.int .i64 0)), (.lit (.int .i64 0)), (.lit (.int .i64 0)), (.lit (.int .i64 0))]) 5 2 [(0, (.s 35)), (1, (.s 40))]), gO 42 (.app 5 (.s 30) (.s 41)), gO 8 (.mv (.s 42))]))) (.reg [gO 43 (.bin .add (.s 26) (cI 1)), gO 26 (.mv (.s 43))]))))))) (.seq (.reg [gO 45 (.fa 0 (.s 1)), gO 46 (.ld none (.s 45)), gO 47 (.len (.s 46)), gO 48 (.mv (.s 8)), gO 49 (.bsl (.lit (.int .i64 0)) 1 1 [(0, (cI 0))]), gO 50 (.call 23 [.s 47, .s 48, .s 49]), gO 44 (.mv (.s 50)), gO 51 (.ext (.s 44) 0), gO 52 (.ext (.s 44) 1), gO 11 (.mv (.s 51)), gO 12 (.mv (.s 52))]) (.seq (.seq (.reg [gO 53 (.mv (.s 11)), gO 54 (.call 40 [.s 53]), gO 55 (.bin .eql (.s 54) (cI (-1099511627776)))]) (.cond (.s 55) (.seq (.reg [gO 56 (.ld (some 2) (.s 6)), ⟨none, none, .st 2 (.s 2) (.s 56)⟩, gO 3 (.nil0 5), gO 4 (.mv (cI 0)), gO 5 (.mv (cI 21))]) .ret) .skip)) (.seq (.reg [gO 57 (.ld (some 2) (.s 6)), gO 58 (.call 32 [.s 57]), gO 13 (.mv (.s 58))]) (.seq (.reg [gO 59 (.ld (some 2) (.s 6)), gO 60 (.ld (some 2) (.s 6)), gO 61 (.mv (.s 13)), gO 62 (.call 41 [.s 60, .s 61]), gO 63 (.ld (some 2) (.s 6)), gO 64 (.mv (.s 13)), gO 65 (.call 31 [.s 63, .s 64]), ⟨none, none, .st 2 (.s 2) (.s 59)⟩, gO 3 (.mv (.s 62)), gO 4 (.mv (.s 65)), gO 5 (.mv (cI 0))]) .ret)))))))))⟩
theorem mfW_q22 : MT.mf 22 = some mfW_l22 := by kernel_rfl
noncomputable def mfW_l23 : MF := ⟨125, [(.tmp 6), (.tmp 7)], (.seq (.reg [gO 6 (.nil0 1), gO 7 (.nil0 5)]) (.seq (.reg [gO 18 (.bsl (.lit (.int .i64 0)) 1 1 [(0, (cI (-1099511627776)))]), gO 19 (.mv (.s 0)), gO 20 (.call 42 [.s 18, .s 19]), gO 8 (.mv (.s 20))]) (.seq (.reg [gO 21 (.mv (.s 0)), gO 22 (.mks (.lit (.int .i64 0)) (.s 21)), gO 9 (.mv (.s 22))]) (.seq (.seq (.reg [gO 23 (.mv (.s 2)), gO 24 (.len (.s 23)), gO 25 (.mv (cI 0))]) (.block 0 (.loop [25, 24, 23, 8, 0, 1, 9] (.seq (.reg [gO 26 (.bin .lss (.s 25) (.s 24))]) (.seq (.cond (.s 26) .skip (.exit 0)) (.seq (.block 1 (.seq (.reg [gO 27 (.ia 1 (.s 23) (.s 25)), gO 28 (.ld none (.s 27)), gO 11 (.mv (.s 28))]) (.reg [gO 29 (.mv (.s 8)), gO 30 (.mv (.s 11)), gO 31 (.ia 1 (.s 29) (.s 30)), ⟨none, none, .st 1 (.s 31) (cI 0)⟩]))) (.reg [gO 32 (.bin .add (.s 25) (cI 1)), gO 25 (.mv (.s 32))]))))))) (.seq (.reg [gO 12 (.mv (cI (-1)))]) (.seq (.seq (.reg [gO 33 (.mv (.s 0)), gO 34 (.bin .add (.s 33) (cI 1)), gO 35 (.mv (cI 0))]) (.block 2 (.loop [35, 34, 1, 8, 9, 0, 12] (.seq (.reg [gO 36 (.bin .lss (.s 35) (.s 34))]) (.seq (.cond (.s 36) .skip (.exit 2)) (.seq (.block 3 (.seq (.reg [gO 12 (.mv (cI (-1)))]) (.seq (.seq (.reg [gO 37 (.mv (.s 1)), gO 38 (.len (.s 37)), gO 39 (.mv (cI 0))]) (.block 4 (.loop [39, 38, 37, 8, 9, 35, 34, 1, 0, 12] (.seq (.reg [gO 40 (.bin .lss (.s 39) (.s 38))]) (.seq (.cond (.s 40) .skip (.exit 4)) (.seq (.block 5 (.seq (.reg [gO 41 (.mv (.s 39)), gO 42 (.ia 5 (.s 37) (.s 39)), gO 43 (.ld (some 5) (.s 42)), gO 14 (.new (.agg [(.lit (.int .i64 0)), (.lit (.int .i64 0)), (.lit (.int .i64 0)), (.lit (.int .i64 0)), (.lit (.int .i64 0))])), gO 13 (.mv (.s 41)), ⟨none, none, .st 5 (.s 14) (.s 43)⟩]) (.seq (.reg [gO 44 (.mv (.s 8)), gO 45 (.fa 0 (.s 14)), gO 46 (.ld none (.s 45)), gO 47 (.ia 1 (.s 44) (.s 46)), gO 48 (.ld none (.s 47)), gO 49 (.fa 2 (.s 14)), gO 50 (.ld none (.s 49)), gO 51 (.bin .add (.s 48) (.s 50)), gO 15 (.mv (.s 51))]) (.seq (.reg [gO 52 (.mv (.s 8)), gO 53 (.fa 0 (.s 14)), gO 54 (.ld none (.s 53)), gO 55 (.ia 1 (.s 52) (.s 54)), gO 56 (.ld none (.s 55)), gO 57 (.bin .gtr (.s 56) (cI (-549755813888))), gO 58 (.mv (.s 57)), ⟨some (58, true), some 59, .mv (.s 15)⟩, ⟨some (58, true), some 60, .mv (.s 8)⟩, ⟨some (58, true), some 61, .fa 1 (.s 14)⟩, ⟨some (58, true), some 62, .ld none (.s 61)⟩, ⟨some (58, true), some 63, .ia 1 (.s 60) (.s 62)⟩, ⟨some (58, true), some 64, .ld none (.s 63)⟩, ⟨some (58, true), some 65, .bin .gtr (.s 59) (.s 64)⟩, gO 66 (.pick (.s 58) (.s 65) cF)]) (.cond (.s 66) (.reg [gO 67 (.mv (.s 8)), gO 68 (.fa 1 (.s 14)), gO 69 (.ld none (.s 68)), gO 70 (.mv (.s 9)), gO 71 (.fa 1 (.s 14)), gO 72 (.ld none (.s 71)), gO 73 (.mv (.s 15)), gO 74 (.mv (.s 13)), gO 75 (.fa 1 (.s 14)), gO 76 (.ld none (.s 75)), gO 77 (.ia 1 (.s 67) (.s 69)), ⟨none, none, .st 1 (.s 77) (.s 73)⟩, gO 78 (.ia 1 (.s 70) (.s 72)), ⟨none, none, .st 1 (.s 78) (.s 74)⟩, gO 12 (.mv (.s 76)), ⟨none, none, .ne (.s 71) (.s 77)⟩, ⟨none, none, .ne (.s 75) (.s 77)⟩, ⟨none, none, .ne (.s 75) (.s 78)⟩]) .skip))))) (.reg [gO 79 (.bin .add (.s 39) (cI 1)), gO 39 (.mv (.s 79))]))))))) (.seq (.reg [gO 80 (.mv (.s 12)), gO 81 (.bin .lss (.s 80) (cI 0))]) (.cond (.s 81) (.seq (.reg [gO 82 (.mv (.s 8)), gO 6 (.mv (.s 82)), gO 7 (.nil0 5)]) .ret) .skip))))) (.reg [gO 83 (.bin .add (.s 35) (cI 1)), gO 35 (.mv (.s 83))]))))))) (.seq (.seq (.reg [gO 84 (.mv (.s 0)), gO 85 (.mv (cI 0))]) (.block 6 (.loop [85, 84, 1, 9, 12, 8] (.seq (.reg [gO 86 (.bin .lss (.s 85) (.s 84))]) (.seq (.cond (.s 86) .skip (.exit 6)) (.seq (.block 7 (.reg [gO 87 (.mv (.s 1)), gO 88 (.mv (.s 9)), gO 89 (.mv (.s 12)), gO 90 (.ia 1 (.s 88) (.s 89)), gO 91 (.ld none (.s 90)), gO 92 (.ia 5 (.s 87) (.s 91)), gO 93 (.fa 0 (.s 92)), gO 94 (.ld none (.s 93)), gO 12 (.mv (.s 94))])) (.reg [gO 95 (.bin .add (.s 85) (cI 1)), gO 85 (.mv (.s 95))]))))))) (.seq (.reg [gO 16 (.nil0 5)]) (.seq (.seq (.reg [gO 96 (.mv (.s 12)), gO 17 (.mv (.s 96))]) (.block 8 (.loop [16, 17, 12, 1, 9, 8] (.seq (.seq (.reg [gO 97 (.mv (.s 16)), gO 98 (.len (.s 97)), gO 99 (.bin .eql (.s 98) (cI 0)), gO 100 (.mv (.s 99)), ⟨some (100, false), some 101, .mv (.s 17)⟩, ⟨some (100, false), some 102, .mv (.s 12)⟩, ⟨some (100, false), some 103, .bin .neq (.s 101) (.s 102)⟩, gO 104 (.pick (.s 100) cT (.s 103))]) (.cond (.s 104) .skip (.exit 8))) (.seq (.block 9 (.reg [gO 113 (.mv (.s 16)), gO 114 (.mv (.s 1)), gO 115 (.mv (.s 9)), gO 116 (.mv (.s 17)), gO 117 (.ia 1 (.s 115) (.s 116)), gO 118 (.ld none (.s 117)), gO 119 (.ia 5 (.s 114) (.s 118)), gO 120 (.ld (some 5) (.s 119)), gO 121 (.bsl (.agg [(.lit (.int .i64 0)), (.lit (.int .i64 0)), (.lit (.int .i64 0)), (.lit (.int .i64 0)), (.lit (.int .i64 0))]) 5 1 [(0, (.s 120))]), gO 122 (.app 5 (.s 113) (.s 121)), gO 16 (.mv (.s 122))])) (.reg [gO 105 (.mv (.s 1)), gO 106 (.mv (.s 9)), gO 107 (.mv (.s 17)), gO 108 (.ia 1 (.s 106) (.s 107)), gO 109 (.ld none (.s 108)), gO 110 (.ia 5 (.s 105) (.s 109)), gO 111 (.fa 0 (.s 110)), gO 112 (.ld none (.s 111)), gO 17 (.mv (.s 112))])))))) (.seq (.reg [gO 123 (.mv (.s 8)), gO 124 (.mv (.s 16)), gO 6 (.mv (.s 123)), gO 7 (.mv (.s 124))]) .ret))))))))))⟩
theorem mfW_q23 : MT.mf 23 = some mfW_l23 := by kernel_rfl
noncomputable def mfW_l24 : MF := ⟨14, [(.cell 2 (some 2)), (.tmp 3)], (.seq (.reg [gO 1 (.box 2 (.s 0)), gO 2 (.new (.agg [(.lit (.slice none 0 0)), (.lit (.slice none 0 0))])), gO 3 (.mv (cI 0))]) (.seq (.reg [gO 7 (.ld (some 2) (.s 1)), gO 8 (.call 43 [.s 7]), gO 6 (.mv (.s 8)), gO 9 (.ext (.s 6) 0), gO 10 (.ext (.s 6) 1), gO 4 (.mv (.s 9)), gO 5 (.mv (.s 10))]) (.seq (.reg [gO 11 (.ld (some 2) (.s 1)), gO 12 (.build [(.lit (.slice none 0 0)), (.lit (.slice none 0 0))] [(0, (2, (.s 11)))]), gO 13 (.mv (.s 5)), ⟨none, none, .st 2 (.s 2) (.s 12)⟩, gO 3 (.mv (.s 13))]) .ret)))⟩
theorem mfW_q24 : MT.mf 24 = some mfW_l24 := by kernel_rfl
noncomputable def mfW_l27 : MF := ⟨10, [(.tmp 4)], (.seq (.reg [gO 4 (.mv cF)]) (.seq (.reg [gO 5 (.mv (.s 0)), gO 6 (.mv (.s 1)), gO 7 (.un .neg (.s 6)), gO 8 (.mv (.s 1)), gO 9 (.call 37 [.s 5, .s 7, .s 8]), gO 4 (.mv (.s 9))]) .ret))⟩
theorem mfW_q27 : MT.mf 27 = some mfW_l27 := by kernel_rfl
noncomputable def mfW_l28 : MF := ⟨15, [(.tmp 2)], (.seq (.reg [gO 2 (.mv (cI 0))]) (.seq (.seq (.reg [gO 5 (.mv (.s 0)), gO 6 (.len (.s 5)), gO 7 (.mv (cI 0))]) (.block 0 (.loop [7, 6, 5] (.seq (.reg [gO 8 (.bin .lss (.s 7) (.s 6))]) (.seq (.cond (.s 8) .skip (.exit 0)) (.seq (.block 1 (.seq (.reg [gO 9 (.ia 1 (.s 5) (.s 7)), gO 10 (.ld none (.s 9)), gO 4 (.mv (.s 10))]) (.seq (.reg [gO 11 (.mv (.s 4)), gO 12 (.bin .neq (.s 11) (cI 0))]) (.cond (.s 12) (.seq (.reg [gO 13 (.mv (.s 4)), gO 2 (.mv (.s 13))]) .ret) .skip)))) (.reg [gO 14 (.bin .add (.s 7) (cI 1)), gO 7 (.mv (.s 14))]))))))) (.seq (.reg [gO 2 (.mv (cI 0))]) .ret)))⟩
theorem mfW_q28 : MT.mf 28 = some mfW_l28 := by kernel_rfl
noncomputable def mfW_l29 : MF := ⟨7, [(.tmp 4)], (.seq (.reg [gO 4 (.mv (cI 0))]) (.seq (.seq (.reg [gO 5 (.mv (.s 0))]) (.cond (.s 5) (.seq (.reg [gO 4 (.mv (cI 0))]) .ret) .skip)) (.seq (.reg [gO 6 (.mv (.s 1)), gO 4 (.mv (.s 6))]) .ret)))⟩
theorem mfW_q29 : MT.mf 29 = some mfW_l29 := by kernel_rfl
noncomputable def mfW_l31 : MF := ⟨28, [(.tmp 4)], (.seq (.reg [gO 2 (.box 2 (.s 0)), gO 4 (.mv (cI 0))]) (.seq (.reg [gO 5 (.mv (cI 0))]) (.seq (.seq (.reg [gO 8 (.fa 0 (.s 2)), gO 9 (.fa 1 (.s 8)), gO 10 (.ld none (.s 9)), gO 11 (.len (.s 10)), gO 12 (.mv (cI 0))]) (.block 0 (.loop [12, 11, 10, 5, 1] (.seq (.reg [gO 13 (.bin .lss (.s 12) (.s 11))]) (.seq (.cond (.s 13) .skip (.exit 0)) (.seq (.block 1 (.seq (.reg [gO 14 (.mv (.s 12)), gO 15 (.ia 6 (.s 10) (.s 12)), gO 16 (.ld (some 6) (.s 15)), gO 7 (.new (.agg [(.lit (.int .i64 0)), (.lit (.int .i64 0)), (.lit (.int .i64 0)), (.lit (.int .i64 0)), (.lit (.int .i64 0)), (.lit (.int .i64 0))])), gO 6 (.mv (.s 14)), ⟨none, none, .st 6 (.s 7) (.s 16)⟩]) (.reg [gO 17 (.mv (.s 5)), gO 18 (.mv (.s 1)), gO 19 (.mv (.s 6)), gO 20 (.ia 1 (.s 18) (.s 19)), gO 21 (.ld none (.s 20)), gO 22 (.fa 4 (.s 7)), gO 23 (.ld none (.s 22)), gO 24 (.bin .mul (.s 21) (.s 23)), gO 25 (.bin .add (.s 17) (.s 24)), gO 5 (.mv (.s 25))]))) (.reg [gO 26 (.bin .add (.s 12) (cI 1)), gO 12 (.mv (.s 26))]))))))) (.seq (.reg [gO 27 (.mv (.s 5)), gO 4 (.mv (.s 27))]) .ret))))⟩
theorem mfW_q31 : MT.mf 31 = some mfW_l31 := by kernel_rfl
noncomputable def mfW_l32 : MF := ⟨76, [(.tmp 2)], (.seq (.reg [gO 1 (.box 2 (.s 0)), gO 2 (.nil0 1)]) (.seq (.reg [gO 11 (.fa 0 (.s 1)), gO 12 (.fa 1 (.s 11)), gO 13 (.ld none (.s 12)), gO 14 (.len (.s 13)), gO 15 (.mks (.lit (.int .i64 0)) (.s 14)), gO 3 (.mv (.s 15))]) (.block 0 (.loop [1, 3] (.block 1 (.seq (.reg [gO 17 (.fa 0 (.s 1)), gO 18 (.fa 0 (.s 17)), gO 19 (.ld none (.s 18)), gO 20 (.len (.s 19)), gO 21 (.ld (some 2) (.s 1)), gO 22 (.mv (.s 3)), gO 23 (.call 41 [.s 21, .s 22]), gO 24 (.ld (some 2) (.s 1)), gO 25 (.call 47 [.s 24]), gO 26 (.call 23 [.s 20, .s 23, .s 25]), gO 16 (.mv (.s 26)), gO 27 (.ext (.s 16) 0), gO 28 (.ext (.s 16) 1), gO 4 (.mv (.s 27)), gO 5 (.mv (.s 28))]) (.seq (.seq (.reg [gO 29 (.mv (.s 5)), gO 30 (.eqn false (.s 29))]) (.cond (.s 30) (.seq (.reg [gO 31 (.mv (.s 3)), gO 2 (.mv (.s 31))]) .ret) .skip)) (.seq (.reg [gO 6 (.mv (cI 20))]) (.seq (.seq (.reg [gO 32 (.mv (.s 5)), gO 33 (.len (.s 32)), gO 34 (.mv (cI 0))]) (.block 2 (.loop [34, 33, 32, 6, 1, 3, 5] (.seq (.reg [gO 35 (.bin .lss (.s 34) (.s 33))]) (.seq (.cond (.s 35) .skip (.exit 2)) (.seq (.block 3 (.seq (.reg [gO 36 (.ia 5 (.s 32) (.s 34)), gO 37 (.ld (some 5) (.s 36)), gO 8 (.new (.agg [(.lit (.int .i64 0)), (.lit (.int .i64 0)), (.lit (.int .i64 0)), (.lit (.int .i64 0)), (.lit (.int .i64 0))])), ⟨none, none, .st 5 (.s 8) (.s 37)⟩]) (.reg [gO 38 (.mv (.s 6)), gO 39 (.fa 0 (.s 1)), gO 40 (.fa 1 (.s 39)), gO 41 (.ld none (.s 40)), gO 42 (.fa 3 (.s 8)), gO 43 (.ld none (.s 42)), gO 44 (.ia 6 (.s 41) (.s 43)), gO 45 (.fa 5 (.s 44)), gO 46 (.ld none (.s 45)), gO 47 (.fa 4 (.s 8)), gO 48 (.ld none (.s 47)), gO 49 (.mv (.s 3)), gO 50 (.fa 3 (.s 8)), gO 51 (.ld none (.s 50)), gO 52 (.ia 1 (.s 49) (.s 51)), gO 53 (.ld none (.s 52)), gO 54 (.bin .mul (.s 48) (.s 53)), gO 55 (.bin .sub (.s 46) (.s 54)), gO 56 (.mn (.s 38) (.s 55)), gO 6 (.mv (.s 56))]))) (.reg [gO 57 (.bin .add (.s 34) (cI 1)), gO 34 (.mv (.s 57))]))))))) (.seq (.reg [gO 58 (.mv (.s 5)), gO 59 (.len (.s 58)), gO 60 (.mv (cI 0))]) (.block 4 (.loop [60, 59, 58, 3, 6, 1] (.seq (.reg [gO 61 (.bin .lss (.s 60) (.s 59))]) (.seq (.cond (.s 61) .skip (.exit 4)) (.seq (.block 5 (.seq (.reg [gO 62 (.ia 5 (.s 58) (.s 60)), gO 63 (.ld (some 5) (.s 62)), gO 10 (.new (.agg [(.lit (.int .i64 0)), (.lit (.int .i64 0)), (.lit (.int .i64 0)), (.lit (.int .i64 0)), (.lit (.int .i64 0))])), ⟨none, none, .st 5 (.s 10) (.s 63)⟩]) (.reg [gO 64 (.mv (.s 3)), gO 65 (.fa 3 (.s 10)), gO 66 (.ld none (.s 65)), gO 67 (.ia 1 (.s 64) (.s 66)), gO 68 (.ld none (.s 67)), gO 69 (.fa 4 (.s 10)), gO 70 (.ld none (.s 69)), gO 71 (.mv (.s 6)), gO 72 (.bin .mul (.s 70) (.s 71)), gO 73 (.bin .add (.s 68) (.s 72)), gO 74 (.ia 1 (.s 64) (.s 66)), ⟨none, none, .st 1 (.s 74) (.s 73)⟩]))) (.reg [gO 75 (.bin .add (.s 60) (cI 1)), gO 60 (.mv (.s 75))]))))))))))))))))⟩
theorem mfW_q32 : MT.mf 32 = some mfW_l32 := by kernel_rfl
noncomputable def mfW_l37 : MF := ⟨15, [(.tmp 6)], (.seq (.reg [gO 6 (.mv cF)]) (.seq (.reg [gO 7 (.mv (.s 1)), gO 8 (.mv (.s 0)), gO 9 (.bin .leq (.s 7) (.s 8)), gO 10 (.mv (.s 9)), ⟨some (10, true), some 11, .mv (.s 0)⟩, ⟨some (10, true), some 12, .mv (.s 2)⟩, ⟨some (10, true), some 13, .bin .leq (.s 11) (.s 12)⟩, gO 14 (.pick (.s 10) (.s 13) cF), gO 6 (.mv (.s 14))]) .ret))⟩
theorem mfW_q37 : MT.mf 37 = some mfW_l37 := by kernel_rfl
noncomputable def mfW_l40 : MF := ⟨25, [(.tmp 2)], (.seq (.reg [gO 2 (.mv (cI 0))]) (.seq (.seq (.reg [gO 5 (.mv (.s 0)), gO 6 (.len (.s 5)), gO 7 (.bin .lss (.s 6) (cI 1))]) (.cond (.s 7) (.reg [gO 8 (.bad), ⟨none, none, .bad⟩]) .skip)) (.seq (.reg [gO 9 (.mv (.s 0)), gO 10 (.ia 1 (.s 9) (cI 0)), gO 11 (.ld none (.s 10)), gO 3 (.mv (.s 11))]) (.seq (.seq (.reg [gO 4 (.mv (cI 1))]) (.block 0 (.loop [4, 0, 3] (.seq (.seq (.reg [gO 12 (.mv (.s 4)), gO 13 (.mv (.s 0)), gO 14 (.len (.s 13)), gO 15 (.bin .lss (.s 12) (.s 14))]) (.cond (.s 15) .skip (.exit 0))) (.seq (.block 1 (.reg [gO 18 (.mv (.s 3)), gO 19 (.mv (.s 0)), gO 20 (.mv (.s 4)), gO 21 (.ia 1 (.s 19) (.s 20)), gO 22 (.ld none (.s 21)), gO 23 (.mn (.s 18) (.s 22)), gO 3 (.mv (.s 23))])) (.reg [gO 16 (.mv (.s 4)), gO 17 (.bin .add (.s 16) (cI 1)), gO 4 (.mv (.s 17))])))))) (.seq (.reg [gO 24 (.mv (.s 3)), gO 2 (.mv (.s 24))]) .ret)))))⟩
theorem mfW_q40 : MT.mf 40 = some mfW_l40 := by kernel_rfl
noncomputable def mfW_l41 : MF := ⟨57, [(.tmp 4)], (.seq (.reg [gO 2 (.box 2 (.s 0)), gO 4 (.nil0 5)]) (.seq (.reg [gO 5 (.nil0 5)]) (.seq (.seq (.reg [gO 8 (.fa 0 (.s 2)), gO 9 (.fa 1 (.s 8)), gO 10 (.ld none (.s 9)), gO 11 (.len (.s 10)), gO 12 (.mv (cI 0))]) (.block 0 (.loop [12, 11, 10, 1, 5] (.seq (.reg [gO 13 (.bin .lss (.s 12) (.s 11))]) (.seq (.cond (.s 13) .skip (.exit 0)) (.seq (.block 1 (.seq (.reg [gO 14 (.mv (.s 12)), gO 15 (.ia 6 (.s 10) (.s 12)), gO 16 (.ld (some 6) (.s 15)), gO 7 (.new (.agg [(.lit (.int .i64 0)), (.lit (.int .i64 0)), (.lit (.int .i64 0)), (.lit (.int .i64 0)), (.lit (.int .i64 0)), (.lit (.int .i64 0))])), gO 6 (.mv (.s 14)), ⟨none, none, .st 6 (.s 7) (.s 16)⟩]) (.seq (.seq (.reg [gO 17 (.mv (.s 1)), gO 18 (.mv (.s 6)), gO 19 (.ia 1 (.s 17) (.s 18)), gO 20 (.ld none (.s 19)), gO 21 (.fa 5 (.s 7)), gO 22 (.ld none (.s 21)), gO 23 (.bin .lss (.s 20) (.s 22))]) (.cond (.s 23) (.reg [gO 24 (.mv (.s 5)), gO 25 (.fa 1 (.s 7)), gO 26 (.ld none (.s 25)), gO 27 (.fa 0 (.s 7)), gO 28 (.ld none (.s 27)), gO 29 (.fa 4 (.s 7)), gO 30 (.ld none (.s 29)), gO 31 (.mv (.s 6)), gO 32 (.build [(.lit (.int .i64 0)), (.lit (.int .i64 0)), (.lit (.int .i64 0)), (.lit (.int .i64 0)), (.lit (.int .i64 0))] [(0, (1, (.s 26))), (1, (1, (.s 28))), (2, (1, (.s 30))), (3, (1, (.s 31))), (4, (1, (cI 1)))]), gO 33 (.bsl (.agg [(.lit (.int .i64 0)), (.lit (.int .i64 0)), (.lit (.int .i64 0)), (.lit (.int .i64 0)), (.lit (.int .i64 0))]) 5 1 [(0, (.s 32))]), gO 34 (.app 5 (.s 24) (.s 33)), gO 5 (.mv (.s 34))]) .skip)) (.seq (.reg [gO 35 (.mv (.s 1)), gO 36 (.mv (.s 6)), gO 37 (.ia 1 (.s 35) (.s 36)), gO 38 (.ld none (.s 37)), gO 39 (.fa 5 (.s 7)), gO 40 (.ld none (.s 39)), gO 41 (.un .neg (.s 40)), gO 42 (.bin .gtr (.s 38) (.s 41))]) (.cond (.s 42) (.reg [gO 43 (.mv (.s 5)), gO 44 (.fa 0 (.s 7)), gO 45 (.ld none (.s 44)), gO 46 (.fa 1 (.s 7)), gO 47 (.ld none (.s 46)), gO 48 (.fa 4 (.s 7)), gO 49 (.ld none (.s 48)), gO 50 (.un .neg (.s 49)), gO 51 (.mv (.s 6)), gO 52 (.build [(.lit (.int .i64 0)), (.lit (.int .i64 0)), (.lit (.int .i64 0)), (.lit (.int .i64 0)), (.lit (.int .i64 0))] [(0, (1, (.s 45))), (1, (1, (.s 47))), (2, (1, (.s 50))), (3, (1, (.s 51))), (4, (1, (cI (-1))))]), gO 53 (.bsl (.agg [(.lit (.int .i64 0)), (.lit (.int .i64 0)), (.lit (.int .i64 0)), (.lit (.int .i64 0)), (.lit (.int .i64 0))]) 5 1 [(0, (.s 52))]), gO 54 (.app 5 (.s 43) (.s 53)), gO 5 (.mv (.s 54))]) .skip))))) (.reg [gO 55 (.bin .add (.s 12) (cI 1)), gO 12 (.mv (.s 55))]))))))) (.seq (.reg [gO 56 (.mv (.s 5)), gO 4 (.mv (.s 56))]) .ret))))⟩
theorem mfW_q41 : MT.mf 41 = some mfW_l41 := by kernel_rfl
noncomputable def mfW_l42 : MF := ⟨48, [(.tmp 4)], (.seq (.reg [gO 4 (.nil0 1)]) (.seq (.seq (.reg [gO 9 (.mv (.s 1)), gO 10 (.bin .lss (.s 9) (cI 0))]) (.cond (.s 10) (.reg [gO 11 (.bad), ⟨none, none, .bad⟩]) .skip)) (.seq (.reg [gO 13 (.mv (.s 0)), gO 14 (.len (.s 13)), gO 15 (.cv .u64 (.s 14)), gO 16 (.mv (.s 1)), gO 17 (.cv .u64 (.s 16)), gO 18 (.call 54 [.s 15, .s 17]), gO 12 (.mv (.s 18)), gO 19 (.ext (.s 12) 0), gO 20 (.ext (.s 12) 1), gO 5 (.mv (.s 19)), gO 6 (.mv (.s 20))]) (.seq (.seq (.reg [gO 21 (.mv (.s 5)), gO 22 (.bin .gtr (.s 21) (.c (.lit (.int .u64 0)))), gO 23 (.mv (.s 22)), ⟨some (23, false), some 24, .mv (.s 6)⟩, ⟨some (23, false), some 25, .bin .gtr (.s 24) (.c (.lit (.int .u64 9223372036854775807)))⟩, gO 26 (.pick (.s 23) cT (.s 25))]) (.cond (.s 26) (.reg [gO 27 (.bad), ⟨none, none, .bad⟩]) .skip)) (.seq (.reg [gO 28 (.mv (.s 6)), gO 29 (.cv .i64 (.s 28)), gO 30 (.mks (.lit (.int .i64 0)) (.s 29)), gO 7 (.mv (.s 30))]) (.seq (.reg [gO 31 (.mv (.s 7)), gO 32 (.mv (.s 0)), gO 33 (.cpy (.s 31) (.s 32)), gO 8 (.mv (.s 33))]) (.seq (.block 0 (.loop [8, 7] (.seq (.seq (.reg [gO 34 (.mv (.s 8)), gO 35 (.mv (.s 7)), gO 36 (.len (.s 35)), gO 37 (.bin .lss (.s 34) (.s 36))]) (.cond (.s 37) .skip (.exit 0))) (.block 1 (.reg [gO 38 (.mv (.s 8)), gO 39 (.mv (.s 7)), gO 40 (.mv (.s 8)), gO 41 (.slc 1 (.s 39) (some (.s 40)) none), gO 42 (.mv (.s 7)), gO 43 (.mv (.s 8)), gO 44 (.slc 1 (.s 42) none (some (.s 43))), gO 45 (.cpy (.s 41) (.s 44)), gO 46 (.bin .add (.s 38) (.s 45)), gO 8 (.mv (.s 46))]))))) (.seq (.reg [gO 47 (.mv (.s 7)), gO 4 (.mv (.s 47))]) .ret))))))))⟩
theorem mfW_q42 : MT.mf 42 = some mfW_l42 := by kernel_rfl
noncomputable def mfW_l43 : MF := ⟨84, [(.tmp 2), (.tmp 3)], (.seq (.reg [gO 1 (.box 2 (.s 0)), gO 2 (.mv (cI 0)), gO 3 (.mv (cI 0))]) (.seq (.reg [gO 13 (.fa 0 (.s 1)), gO 14 (.ld none (.s 13)), gO 15 (.len (.s 14)), gO 16 (.bin .leq (.s 15) (cI 8)), gO 17 (.mv (.s 16)), ⟨some (17, true), some 18, .fa 1 (.s 1)⟩, ⟨some (17, true), some 19, .ld none (.s 18)⟩, ⟨some (17, true), some 20, .len (.s 19)⟩, ⟨some (17, true), some 21, .bin .leq (.s 20) (cI 16)⟩, gO 22 (.pick (.s 17) (.s 21) cF), gO 4 (.mv (.s 22))]) (.seq (.seq (.reg [gO 23 (.fa 0 (.s 1)), gO 24 (.ld none (.s 23)), gO 25 (.len (.s 24)), gO 26 (.bin .gtr (.s 25) (cI 0)), gO 27 (.call 29 [.s 26, (cI 10)]), gO 28 (.mv (.s 4)), gO 29 (.call 29 [.s 28, (cI 8)]), gO 30 (.bsl (.lit (.int .i64 0)) 1 2 [(0, (.s 27)), (1, (.s 29))]), gO 31 (.call 28 [.s 30]), gO 5 (.mv (.s 31))]) (.seq (.reg [gO 32 (.mv (.s 5)), gO 33 (.bin .neq (.s 32) (cI 0))]) (.cond (.s 33) (.seq (.reg [gO 34 (.mv (.s 5)), gO 2 (.mv (cI 0)), gO 3 (.mv (.s 34))]) .ret) .skip))) (.seq (.seq (.reg [gO 35 (.fa 0 (.s 1)), gO 36 (.ld none (.s 35)), gO 37 (.len (.s 36)), gO 38 (.mv (cI 0))]) (.block 0 (.loop [38, 37, 36, 1] (.seq (.reg [gO 39 (.bin .lss (.s 38) (.s 37))]) (.seq (.cond (.s 39) .skip (.exit 0)) (.seq (.block 1 (.seq (.reg [gO 40 (.mv (.s 38)), gO 41 (.ia 2 (.s 36) (.s 38)), gO 42 (.ld (some 2) (.s 41)), gO 7 (.new (.agg [(.lit (.string ⟨#[]⟩)), (.lit (.bool false))])), gO 6 (.mv (.s 40)), ⟨none, none, .st 2 (.s 7) (.s 42)⟩]) (.seq (.reg [gO 43 (.fa 0 (.s 1)), gO 44 (.ld none (.s 43)), gO 45 (.mv (.s 6)), gO 46 (.slc 2 (.s 44) none (some (.s 45))), gO 47 (.mf 56 0 [.s 7]), gO 48 (.call 55 [.s 46, .s 47]), gO 8 (.mv (.s 48))]) (.seq (.reg [gO 49 (.fa 0 (.s 7)), gO 50 (.ld none (.s 49)), gO 51 (.call 57 [.s 50]), gO 52 (.call 29 [.s 51, (cI 4)]), gO 53 (.mv (.s 8)), gO 54 (.un .not (.s 53)), gO 55 (.call 29 [.s 54, (cI 5)]), gO 56 (.bsl (.lit (.int .i64 0)) 1 2 [(0, (.s 52)), (1, (.s 55))]), gO 57 (.call 28 [.s 56]), gO 9 (.mv (.s 57))]) (.seq (.reg [gO 58 (.mv (.s 9)), gO 59 (.bin .neq (.s 58) (cI 0))]) (.cond (.s 59) (.seq (.reg [gO 60 (.mv (.s 6)), gO 61 (.mv (.s 9)), gO 2 (.mv (.s 60)), gO 3 (.mv (.s 61))]) .ret) .skip)))))) (.reg [gO 62 (.bin .add (.s 38) (cI 1)), gO 38 (.mv (.s 62))]))))))) (.seq (.seq (.reg [gO 63 (.fa 1 (.s 1)), gO 64 (.ld none (.s 63)), gO 65 (.len (.s 64)), gO 66 (.mv (cI 0))]) (.block 2 (.loop [66, 65, 64, 1] (.seq (.reg [gO 67 (.bin .lss (.s 66) (.s 65))]) (.seq (.cond (.s 67) .skip (.exit 2)) (.seq (.block 3 (.seq (.reg [gO 68 (.mv (.s 66)), gO 69 (.ia 6 (.s 64) (.s 66)), gO 70 (.ld (some 6) (.s 69)), gO 11 (.new (.agg [(.lit (.int .i64 0)), (.lit (.int .i64 0)), (.lit (.int .i64 0)), (.lit (.int .i64 0)), (.lit (.int .i64 0)), (.lit (.int .i64 0))])), gO 10 (.mv (.s 68)), ⟨none, none, .st 6 (.s 11) (.s 70)⟩]) (.seq (.reg [gO 71 (.fa 0 (.s 1)), gO 72 (.ld none (.s 71)), gO 73 (.fa 1 (.s 1)), gO 74 (.ld none (.s 73)), gO 75 (.mv (.s 10)), gO 76 (.slc 6 (.s 74) none (some (.s 75))), gO 77 (.ld (some 6) (.s 11)), gO 78 (.call 58 [.s 72, .s 76, .s 77]), gO 12 (.mv (.s 78))]) (.seq (.reg [gO 79 (.mv (.s 12)), gO 80 (.bin .neq (.s 79) (cI 0))]) (.cond (.s 80) (.seq (.reg [gO 81 (.mv (.s 10)), gO 82 (.mv (.s 12)), gO 2 (.mv (.s 81)), gO 3 (.mv (.s 82))]) .ret) .skip))))) (.reg [gO 83 (.bin .add (.s 66) (cI 1)), gO 66 (.mv (.s 83))]))))))) (.seq (.reg [gO 2 (.mv (cI 0)), gO 3 (.mv (cI 0))]) .ret))))))⟩
theorem mfW_q43 : MT.mf 43 = some mfW_l43 := by kernel_rfl
noncomputable def mfW_l47 : MF := ⟨18, [(.tmp 2)], (.seq (.reg [gO 1 (.box 2 (.s 0)), gO 2 (.nil0 1)]) (.seq (.reg [gO 3 (.nil0 1)]) (.seq (.seq (.reg [gO 5 (.fa 0 (.s 1)), gO 6 (.fa 0 (.s 5)), gO 7 (.ld none (.s 6)), gO 8 (.len (.s 7)), gO 9 (.mv (cI 0))]) (.block 0 (.loop [9, 8, 3] (.seq (.reg [gO 10 (.bin .lss (.s 9) (.s 8))]) (.seq (.cond (.s 10) .skip (.exit 0)) (.seq (.block 1 (.seq (.reg [gO 11 (.mv (.s 9)), gO 4 (.mv (.s 11))]) (.reg [gO 12 (.mv (.s 3)), gO 13 (.mv (.s 4)), gO 14 (.bsl (.lit (.int .i64 0)) 1 1 [(0, (.s 13))]), gO 15 (.app 1 (.s 12) (.s 14)), gO 3 (.mv (.s 15))]))) (.reg [gO 16 (.bin .add (.s 9) (cI 1)), gO 9 (.mv (.s 16))]))))))) (.seq (.reg [gO 17 (.mv (.s 3)), gO 2 (.mv (.s 17))]) .ret))))⟩
theorem mfW_q47 : MT.mf 47 = some mfW_l47 := by kernel_rfl
noncomputable def mfW_l54 : MF := ⟨30, [(.tmp 4), (.tmp 5)], (.seq (.reg [gO 4 (.mv (.c (.lit (.int .u64 0)))), gO 5 (.mv (.c (.lit (.int .u64 0))))]) (.seq (.cond cF (.seq (.reg [gO 11 (.mv (.s 0)), gO 12 (.cv .u32 (.s 11)), gO 13 (.mv (.s 1)), gO 14 (.cv .u32 (.s 13)), gO 15 (.call 61 [.s 12, .s 14]), gO 10 (.mv (.s 15)), gO 16 (.ext (.s 10) 0), gO 17 (.ext (.s 10) 1), gO 6 (.mv (.s 16)), gO 7 (.mv (.s 17))]) (.seq (.reg [gO 18 (.mv (.s 6)), gO 19 (.cv .u64 (.s 18)), gO 20 (.mv (.s 7)), gO 21 (.cv .u64 (.s 20)), gO 4 (.mv (.s 19)), gO 5 (.mv (.s 21))]) .ret)) .skip) (.seq (.reg [gO 23 (.mv (.s 0)), gO 24 (.mv (.s 1)), gO 25 (.call 62 [.s 23, .s 24]), gO 22 (.mv (.s 25)), gO 26 (.ext (.s 22) 0), gO 27 (.ext (.s 22) 1), gO 8 (.mv (.s 26)), gO 9 (.mv (.s 27))]) (.seq (.reg [gO 28 (.mv (.s 8)), gO 29 (.mv (.s 9)), gO 4 (.mv (.s 28)), gO 5 (.mv (.s 29))]) .ret))))⟩
theorem mfW_q54 : MT.mf 54 = some mfW_l54 := by kernel_rfl
noncomputable def mfW_l55 : MF := ⟨9, [(.tmp 4)], (.seq (.reg [gO 4 (.mv cF)]) (.seq (.reg [gO 5 (.mv (.s 0)), gO 6 (.mv (.s 1)), gO 7 (.call 63 [.s 5, .s 6]), gO 8 (.bin .geq (.s 7) (cI 0)), gO 4 (.mv (.s 8))]) .ret))⟩
theorem mfW_q55 : MT.mf 55 = some mfW_l55 := by kernel_rfl
noncomputable def mfW_l56 : MF := ⟨9, [(.tmp 3)], (.seq (.reg [gO 2 (.box 2 (.s 0)), gO 3 (.mv cF)]) (.seq (.reg [gO 4 (.fa 0 (.s 2)), gO 5 (.ld none (.s 4)), gO 6 (.fa 0 (.s 1)), gO 7 (.ld none (.s 6)), gO 8 (.seq false (.s 5) (.s 7)), gO 3 (.mv (.s 8))]) .ret))⟩
theorem mfW_q56 : MT.mf 56 = some mfW_l56 := by kernel_rfl
noncomputable def mfW_l57 : MF := ⟨38, [(.tmp 2)], (.seq (.reg [gO 2 (.mv cF)]) (.seq (.seq (.reg [gO 6 (.mv (.s 0)), gO 7 (.s2b (.s 6)), gO 8 (.len (.s 7)), gO 9 (.mv (cI 0))]) (.block 0 (.loop [9, 8, 7, 0] (.seq (.reg [gO 10 (.bin .lss (.s 9) (.s 8))]) (.seq (.cond (.s 10) .skip (.exit 0)) (.seq (.block 1 (.seq (.reg [gO 11 (.mv (.s 9)), gO 12 (.ia 1 (.s 7) (.s 9)), gO 13 (.ld none (.s 12)), gO 3 (.mv (.s 11)), gO 4 (.mv (.s 13))]) (.seq (.reg [gO 14 (.mv (.s 4)), gO 15 (.bin .or (.s 14) (.c (.lit (.int .u8 32)))), gO 16 (.cv .i64 (.s 15)), gO 17 (.call 37 [.s 16, (cI 97), (cI 122)]), gO 5 (.mv (.s 17))]) (.seq (.reg [gO 18 (.mv (.s 5)), gO 19 (.un .not (.s 18)), gO 20 (.mv (.s 19)), ⟨some (20, true), some 21, .mv (.s 3)⟩, ⟨some (20, true), some 22, .bin .eql (.s 21) (cI 0)⟩, ⟨some (20, true), some 23, .mv (.s 22)⟩, ⟨some (23, false), some 24, .mv (.s 4)⟩, ⟨some (23, false), some 25, .bin .neq (.s 24) (.c (.lit (.int .u8 45)))⟩, ⟨some (23, false), some 26, .mv (.s 25)⟩, ⟨some (26, true), some 27, .mv (.s 4)⟩, ⟨some (26, true), some 28, .cv .i64 (.s 27)⟩, ⟨some (26, true), some 29, .call 37 [.s 28, (cI 48), (cI 57)]⟩, ⟨some (26, true), some 30, .un .not (.s 29)⟩, ⟨some (23, false), some 31, .pick (.s 26) (.s 30) cF⟩, ⟨some (20, true), some 32, .pick (.s 23) cT (.s 31)⟩, gO 33 (.pick (.s 20) (.s 32) cF)]) (.cond (.s 33) (.seq (.reg [gO 2 (.mv cF)]) .ret) .skip))))) (.reg [gO 34 (.bin .add (.s 9) (cI 1)), gO 9 (.mv (.s 34))]))))))) (.seq (.reg [gO 35 (.mv (.s 0)), gO 36 (.sln (.s 35)), gO 37 (.call 37 [.s 36, (cI 1), (cI 12)]), gO 2 (.mv (.s 37))]) .ret)))⟩
theorem mfW_q57 : MT.mf 57 = some mfW_l57 := by kernel_rfl
noncomputable def mfW_l58 : MF := ⟨69, [(.tmp 6)], (.seq (.reg [gO 5 (.box 6 (.s 2)), gO 6 (.mv (cI 0))]) (.seq (.seq (.reg [gO 9 (.fa 0 (.s 5)), gO 10 (.ld none (.s 9)), gO 11 (.mv (.s 0)), gO 12 (.len (.s 11)), gO 13 (.bin .sub (.s 12) (cI 1)), gO 14 (.call 37 [.s 10, (cI 0), .s 13]), gO 15 (.un .not (.s 14)), gO 16 (.mv (.s 15)), ⟨some (16, false), some 17, .fa 1 (.s 5)⟩, ⟨some (16, false), some 18, .ld none (.s 17)⟩, ⟨some (16, false), some 19, .mv (.s 0)⟩, ⟨some (16, false), some 20, .len (.s 19)⟩, ⟨some (16, false), some 21, .bin .sub (.s 20) (cI 1)⟩, ⟨some (16, false), some 22, .call 37 [.s 18, (cI 0), .s 21]⟩, ⟨some (16, false), some 23, .un .not (.s 22)⟩, gO 24 (.pick (.s 16) cT (.s 23))]) (.cond (.s 24) (.seq (.reg [gO 6 (.mv (cI 6))]) .ret) .skip)) (.seq (.reg [gO 25 (.fa 2 (.s 5)), gO 26 (.ld none (.s 25)), gO 27 (.call 64 [.s 26]), gO 28 (.mv (.s 27)), ⟨some (28, true), some 29, .fa 3 (.s 5)⟩, ⟨some (28, true), some 30, .ld none (.s 29)⟩, ⟨some (28, true), some 31, .call 64 [.s 30]⟩, gO 32 (.pick (.s 28) (.s 31) cF), gO 33 (.mv (.s 32)), ⟨some (33, true), some 34, .fa 4 (.s 5)⟩, ⟨some (33, true), some 35, .ld none (.s 34)⟩, ⟨some (33, true), some 36, .call 27 [.s 35, (cI 10000)]⟩, gO 37 (.pick (.s 33) (.s 36) cF), gO 38 (.mv (.s 37)), ⟨some (38, true), some 39, .fa 5 (.s 5)⟩, ⟨some (38, true), some 40, .ld none (.s 39)⟩, ⟨some (38, true), some 41, .call 37 [.s 40, (cI 1), (cI 10)]⟩, gO 42 (.pick (.s 38) (.s 41) cF), gO 7 (.mv (.s 42))]) (.seq (.reg [gO 43 (.mv (.s 1)), gO 44 (.mf 66 0 [.s 5]), gO 45 (.call 65 [.s 43, .s 44]), gO 8 (.mv (.s 45))]) (.seq (.reg [gO 46 (.mv (.s 0)), gO 47 (.fa 0 (.s 5)), gO 48 (.ld none (.s 47)), gO 49 (.ia 2 (.s 46) (.s 48)), gO 50 (.fa 1 (.s 49)), gO 51 (.ld none (.s 50)), gO 52 (.un .not (.s 51)), gO 53 (.mv (.s 52)), ⟨some (53, true), some 54, .mv (.s 0)⟩, ⟨some (53, true), some 55, .fa 1 (.s 5)⟩, ⟨some (53, true), some 56, .ld none (.s 55)⟩, ⟨some (53, true), some 57, .ia 2 (.s 54) (.s 56)⟩, ⟨some (53, true), some 58, .fa 1 (.s 57)⟩, ⟨some (53, true), some 59, .ld none (.s 58)⟩, gO 60 (.pick (.s 53) (.s 59) cF), gO 61 (.call 29 [.s 60, (cI 15)]), gO 62 (.mv (.s 7)), gO 63 (.call 29 [.s 62, (cI 2)]), gO 64 (.mv (.s 8)), gO 65 (.un .not (.s 64)), gO 66 (.call 29 [.s 65, (cI 23)]), gO 67 (.bsl (.lit (.int .i64 0)) 1 3 [(0, (.s 61)), (1, (.s 63)), (2, (.s 66))]), gO 68 (.call 28 [.s 67]), gO 6 (.mv (.s 68))]) .ret)))))⟩
theorem mfW_q58 : MT.mf 58 = some mfW_l58 := by kernel_rfl
noncomputable def mfW_l61 : MF := ⟨17, [(.tmp 4), (.tmp 5)], (.seq (.reg [gO 4 (.mv (.c (.lit (.int .u32 0)))), gO 5 (.mv (.c (.lit (.int .u32 0))))]) (.seq (.reg [gO 7 (.mv (.s 0)), gO 8 (.cv .u64 (.s 7)), gO 9 (.mv (.s 1)), gO 10 (.cv .u64 (.s 9)), gO 11 (.bin .mul (.s 8) (.s 10)), gO 6 (.mv (.s 11))]) (.seq (.reg [gO 12 (.mv (.s 6)), gO 13 (.shf .shr (.s 12) (.c (.lit (.int .u64 32)))), gO 14 (.cv .u32 (.s 13)), gO 15 (.mv (.s 6)), gO 16 (.cv .u32 (.s 15)), gO 4 (.mv (.s 14)), gO 5 (.mv (.s 16))]) .ret)))⟩
theorem mfW_q61 : MT.mf 61 = some mfW_l61 := by kernel_rfl
noncomputable def mfW_l62 : MF := ⟨51, [(.tmp 4), (.tmp 5)], (.seq (.reg [gO 4 (.mv (.c (.lit (.int .u64 0)))), gO 5 (.mv (.c (.lit (.int .u64 0))))]) (.seq (.reg [gO 14 (.mv (.s 0)), gO 15 (.bin .and (.s 14) (.c (.lit (.int .u64 4294967295)))), gO 6 (.mv (.s 15))]) (.seq (.reg [gO 16 (.mv (.s 0)), gO 17 (.shf .shr (.s 16) (.c (.lit (.int .u64 32)))), gO 7 (.mv (.s 17))]) (.seq (.reg [gO 18 (.mv (.s 1)), gO 19 (.bin .and (.s 18) (.c (.lit (.int .u64 4294967295)))), gO 8 (.mv (.s 19))]) (.seq (.reg [gO 20 (.mv (.s 1)), gO 21 (.shf .shr (.s 20) (.c (.lit (.int .u64 32)))), gO 9 (.mv (.s 21))]) (.seq (.reg [gO 22 (.mv (.s 6)), gO 23 (.mv (.s 8)), gO 24 (.bin .mul (.s 22) (.s 23)), gO 10 (.mv (.s 24))]) (.seq (.reg [gO 25 (.mv (.s 7)), gO 26 (.mv (.s 8)), gO 27 (.bin .mul (.s 25) (.s 26)), gO 28 (.mv (.s 10)), gO 29 (.shf .shr (.s 28) (.c (.lit (.int .u64 32)))), gO 30 (.bin .add (.s 27) (.s 29)), gO 11 (.mv (.s 30))]) (.seq (.reg [gO 31 (.mv (.s 11)), gO 32 (.bin .and (.s 31) (.c (.lit (.int .u64 4294967295)))), gO 12 (.mv (.s 32))]) (.seq (.reg [gO 33 (.mv (.s 11)), gO 34 (.shf .shr (.s 33) (.c (.lit (.int .u64 32)))), gO 13 (.mv (.s 34))]) (.seq (.reg [gO 35 (.mv (.s 12)), gO 36 (.mv (.s 6)), gO 37 (.mv (.s 9)), gO 38 (.bin .mul (.s 36) (.s 37)), gO 39 (.bin .add (.s 35) (.s 38)), gO 12 (.mv (.s 39))]) (.seq (.reg [gO 40 (.mv (.s 7)), gO 41 (.mv (.s 9)), gO 42 (.bin .mul (.s 40) (.s 41)), gO 43 (.mv (.s 13)), gO 44 (.bin .add (.s 42) (.s 43)), gO 45 (.mv (.s 12)), gO 46 (.shf .shr (.s 45) (.c (.lit (.int .u64 32)))), gO 47 (.bin .add (.s 44) (.s 46)), gO 4 (.mv (.s 47))]) (.seq (.reg [gO 48 (.mv (.s 0)), gO 49 (.mv (.s 1)), gO 50 (.bin .mul (.s 48) (.s 49)), gO 5 (.mv (.s 50))]) .ret))))))))))))⟩
theorem mfW_q62 : MT.mf 62 = some mfW_l62 := by kernel_rfl
noncomputable def mfW_l63 : MF := ⟨19, [(.tmp 4)], (.seq (.reg [gO 4 (.mv (cI 0))]) (.seq (.seq (.reg [gO 6 (.mv (.s 0)), gO 7 (.len (.s 6)), gO 8 (.mv (cI 0))]) (.block 0 (.loop [8, 7, 1, 0] (.seq (.reg [gO 9 (.bin .lss (.s 8) (.s 7))]) (.seq (.cond (.s 9) .skip (.exit 0)) (.seq (.block 1 (.seq (.reg [gO 10 (.mv (.s 8)), gO 5 (.mv (.s 10))]) (.seq (.reg [gO 11 (.mv (.s 1)), gO 12 (.mv (.s 0)), gO 13 (.mv (.s 5)), gO 14 (.ia 2 (.s 12) (.s 13)), gO 15 (.ld (some 2) (.s 14)), gO 16 (.callv (.s 11) [.s 15])]) (.cond (.s 16) (.seq (.reg [gO 17 (.mv (.s 5)), gO 4 (.mv (.s 17))]) .ret) .skip)))) (.reg [gO 18 (.bin .add (.s 8) (cI 1)), gO 8 (.mv (.s 18))]))))))) (.seq (.reg [gO 4 (.mv (cI (-1)))]) .ret)))⟩
theorem mfW_q63 : MT.mf 63 = some mfW_l63 := by kernel_rfl
noncomputable def mfW_l64 : MF := ⟨5, [(.tmp 2)], (.seq (.reg [gO 2 (.mv cF)]) (.seq (.reg [gO 3 (.mv (.s 0)), gO 4 (.call 37 [.s 3, (cI 0), (cI 1000000)]), gO 2 (.mv (.s 4))]) .ret))⟩
theorem mfW_q64 : MT.mf 64 = some mfW_l64 := by kernel_rfl
noncomputable def mfW_l65 : MF := ⟨9, [(.tmp 4)], (.seq (.reg [gO 4 (.mv cF)]) (.seq (.reg [gO 5 (.mv (.s 0)), gO 6 (.mv (.s 1)), gO 7 (.call 67 [.s 5, .s 6]), gO 8 (.bin .geq (.s 7) (cI 0)), gO 4 (.mv (.s 8))]) .ret))⟩
theorem mfW_q65 : MT.mf 65 = some mfW_l65 := by kernel_rfl
noncomputable def mfW_l66 : MF := ⟨30, [(.tmp 3)], (.seq (.reg [gO 2 (.box 6 (.s 0)), gO 3 (.mv cF)]) (.seq (.reg [gO 4 (.fa 0 (.s 2)), gO 5 (.ld none (.s 4)), gO 6 (.fa 0 (.s 1)), gO 7 (.ld none (.s 6)), gO 8 (.bin .eql (.s 5) (.s 7)), gO 9 (.mv (.s 8)), ⟨some (9, true), some 10, .fa 2 (.s 2)⟩, ⟨some (9, true), some 11, .ld none (.s 10)⟩, ⟨some (9, true), some 12, .fa 2 (.s 1)⟩, ⟨some (9, true), some 13, .ld none (.s 12)⟩, ⟨some (9, true), some 14, .bin .eql (.s 11) (.s 13)⟩, gO 15 (.pick (.s 9) (.s 14) cF), gO 16 (.mv (.s 15)), ⟨some (16, false), some 17, .fa 1 (.s 2)⟩, ⟨some (16, false), some 18, .ld none (.s 17)⟩, ⟨some (16, false), some 19, .fa 1 (.s 1)⟩, ⟨some (16, false), some 20, .ld none (.s 19)⟩, ⟨some (16, false), some 21, .bin .eql (.s 18) (.s 20)⟩, ⟨some (16, false), some 22, .mv (.s 21)⟩, ⟨some (22, true), some 23, .fa 3 (.s 2)⟩, ⟨some (22, true), some 24, .ld none (.s 23)⟩, ⟨some (22, true), some 25, .fa 3 (.s 1)⟩, ⟨some (22, true), some 26, .ld none (.s 25)⟩, ⟨some (22, true), some 27, .bin .eql (.s 24) (.s 26)⟩, ⟨some (16, false), some 28, .pick (.s 22) (.s 27) cF⟩, gO 29 (.pick (.s 16) cT (.s 28)), gO 3 (.mv (.s 29))]) .ret))⟩
theorem mfW_q66 : MT.mf 66 = some mfW_l66 := by kernel_rfl
noncomputable def mfW_l67 : MF := ⟨19, [(.tmp 4)], (.seq (.reg [gO 4 (.mv (cI 0))]) (.seq (.seq (.reg [gO 6 (.mv (.s 0)), gO 7 (.len (.s 6)), gO 8 (.mv (cI 0))]) (.block 0 (.loop [8, 7, 1, 0] (.seq (.reg [gO 9 (.bin .lss (.s 8) (.s 7))]) (.seq (.cond (.s 9) .skip (.exit 0)) (.seq (.block 1 (.seq (.reg [gO 10 (.mv (.s 8)), gO 5 (.mv (.s 10))]) (.seq (.reg [gO 11 (.mv (.s 1)), gO 12 (.mv (.s 0)), gO 13 (.mv (.s 5)), gO 14 (.ia 6 (.s 12) (.s 13)), gO 15 (.ld (some 6) (.s 14)), gO 16 (.callv (.s 11) [.s 15])]) (.cond (.s 16) (.seq (.reg [gO 17 (.mv (.s 5)), gO 4 (.mv (.s 17))]) .ret) .skip)))) (.reg [gO 18 (.bin .add (.s 8) (cI 1)), gO 8 (.mv (.s 18))]))))))) (.seq (.reg [gO 4 (.mv (cI (-1)))]) .ret)))⟩
theorem mfW_q67 : MT.mf 67 = some mfW_l67 := by kernel_rfl
noncomputable def mfW_t : List (Nat × MF) := [(9, mfW_l9), (17, mfW_l17), (22, mfW_l22), (23, mfW_l23), (24, mfW_l24), (27, mfW_l27), (28, mfW_l28), (29, mfW_l29), (31, mfW_l31), (32, mfW_l32), (37, mfW_l37), (40, mfW_l40), (41, mfW_l41), (42, mfW_l42), (43, mfW_l43), (47, mfW_l47), (54, mfW_l54), (55, mfW_l55), (56, mfW_l56), (57, mfW_l57), (58, mfW_l58), (61, mfW_l61), (62, mfW_l62), (63, mfW_l63), (64, mfW_l64), (65, mfW_l65), (66, mfW_l66), (67, mfW_l67)]
theorem mfW_k : OkT MT mfW_t := OkT.cons mfW_q9 (OkT.cons mfW_q17 (OkT.cons mfW_q22 (OkT.cons mfW_q23 (OkT.cons mfW_q24 (OkT.cons mfW_q27 (OkT.cons mfW_q28 (OkT.cons mfW_q29 (OkT.cons mfW_q31 (OkT.cons mfW_q32 (OkT.cons mfW_q37 (OkT.cons mfW_q40 (OkT.cons mfW_q41 (OkT.cons mfW_q42 (OkT.cons mfW_q43 (OkT.cons mfW_q47 (OkT.cons mfW_q54 (OkT.cons mfW_q55 (OkT.cons mfW_q56 (OkT.cons mfW_q57 (OkT.cons mfW_q58 (OkT.cons mfW_q61 (OkT.cons mfW_q62 (OkT.cons mfW_q63 (OkT.cons mfW_q64 (OkT.cons mfW_q65 (OkT.cons mfW_q66 (OkT.cons mfW_q67 (OkT.nil))))))))))))))))))))))))))))
noncomputable def mfW : Nat → Option MF := lookT mfW_t
theorem mfW_ok (f : Nat) (m : MF) (h : mfW f = some m) : MT.mf f = some m := mfW_k.look h
abbrev stB (c : UInt8) : MV := .lit (.string ⟨#[c]⟩)
abbrev netX : MV := .agg [.sl [.agg [stB 97, Bo false], .agg [stB 98, Bo false], .agg [stB 116, Bo true], .agg [stB 117, Bo true]],
 .sl [.agg [I64 0, I64 2, I64 10, I64 10, I64 3, I64 1], .agg [I64 0, I64 3, I64 20, I64 5, I64 5, I64 1], .agg [I64 1, I64 2, I64 10, I64 20, I64 1, I64 1], .agg [I64 1, I64 3, I64 20, I64 15, I64 4, I64 1]]]
end Go.Proofs.YtfchdbghjeophaaDoor

/- From arguments as they are read to open values; from an answer to a law's statement. -/
namespace Go.Proofs.YtfchdbghjeophaaDoor
open Go.RowKit Go.ChangeShapes Go.WideShapes Go.ChangeAt
set_option linter.unusedVariables false
inductive Sh where
 | int (k : IntKind)
 | bool
 | str
 | agg (fs : List Sh)
 | slice (e : Sh)
mutual
def Sh.size : Sh → Nat
 | .int _ | .bool | .str | .slice _ => 1
 | .agg fs => sizeL fs
def sizeL : List Sh → Nat
 | [] => 0
 | s :: ss => s.size + sizeL ss
end
mutual
def Sh.has (P : Program) : Sh → TypeId → Bool
 | .int k, t => (match P.underlying t with | some (.int k') => k' == k | _ => false)
 | .bool, t => (match P.underlying t with | some .bool => true | _ => false)
 | .str, t => (match P.underlying t with | some .string => true | _ => false)
 | .agg ss, t => (match P.underlying t with | some (.struct fs) => P.cellsOf t == sizeL ss && hasL P ss 0 fs.toList | _ => false)
 | .slice s, t => (match P.underlying t with | some (.slice e) => P.cellsOf e == s.size && Nat.blt 0 s.size && s.has P e | _ => false)
def hasL (P : Program) : List Sh → Nat → List Field → Bool
 | [], _, [] => true
 | s :: ss, off, f :: fs => f.offset == off && P.cellsOf f.type == s.size && s.has P f.type && hasL P ss (off + s.size) fs
 | _, _, _ => false
end
mutual
def Fits : Sh → MV → Prop
 | .int k, m => ∃ n, m = .lit (.int k n) ∧ (Lit.int k n).wf = true
 | .bool, m => ∃ b, m = .lit (.bool b)
 | .str, m => ∃ s : ByteArray, m = .lit (.string s) ∧ s.size ≤ maxLen
 | .agg ss, m => ∃ ms, FitsL ss ms ∧ m = .agg (ms.flatMap MV.cells)
 | .slice s, m => ∃ es, m = .sl es ∧ es.length ≤ maxLen ∧ ∀ e ∈ es, Fits s e
def FitsL : List Sh → List MV → Prop
 | [], ms => ms = []
 | s :: ss, ms => ∃ m r, ms = m :: r ∧ Fits s m ∧ FitsL ss r
end
def baseE (w : World) : Env := { S := fun b => b < w.heap.size, K := fun _ => False, ρ := fun _ => 0, bo := fun _ => 0, cp := fun _ => 0, sz := fun _ => 0, gn := fun _ => 0, ln := fun _ => 0, nl := fun _ => false, top := 0, yl := 0 }
theorem baseE_rel (w : World) (hT : ∀ p ∈ TABS, V (baseE w) w p.1 p.2) : HRel (baseE w) [] w := ⟨fun _ h => h.elim, Nat.le_refl _, fun _ h => h.elim, fun _ _ h => h.elim, fun _ h => h.elim, fun _ h => h, hT⟩
section
variable {H : Type} {enc : TypeId × Value → H} {P : Program} {w : World} {spare : Nat → Bool} {held : Bool}
theorem vs_one {E : Env} {w : World} {m : MV} {v : Value} (h : V E w m v) : Vs E w [m] [v] := Vs.cons h ⟨rfl, fun i c v hc => by simp at hc⟩
mutual
theorem lift_ok : ∀ (s : Sh) (t : TypeId) (fuel : Nat) (cs : List Value) (x : DataW H × List MemPlace), s.has P t = true → DataW.trod enc P w 0 spare held fuel t cs = some x →
  ∃ m, Fits s m ∧ Vs (baseE w) w m.cells cs ∧ m.cells.length = s.size
 | .int k, t, fuel, cs, x, hs, h => by
  simp only [Sh.has] at hs
  split at hs
  case h_2 => cases hs
  rename_i k' ht
  have : k' = k := by simpa using hs
  subst this
  obtain ⟨n, rfl, -, hw⟩ := DataW.trod_int ht h
  exact ⟨.lit (.int k' n), ⟨n, rfl, hw⟩, vs_one (.lit _), rfl⟩
 | .bool, t, fuel, cs, x, hs, h => by
  simp only [Sh.has] at hs
  split at hs
  case h_2 => cases hs
  rename_i ht
  obtain ⟨b, rfl, -⟩ := DataW.trod_bool ht h
  exact ⟨.lit (.bool b), ⟨b, rfl⟩, vs_one (.lit _), rfl⟩
 | .str, t, fuel, cs, x, hs, h => by
  simp only [Sh.has] at hs
  split at hs
  case h_2 => cases hs
  rename_i ht
  obtain ⟨b, rfl, -, hb⟩ := DataW.trod_string ht h
  exact ⟨.lit (.string b), ⟨b, rfl, hb⟩, vs_one (.lit _), rfl⟩
 | .agg ss, t, fuel, cs, x, hs, h => by
  simp only [Sh.has] at hs
  split at hs
  case h_2 => cases hs
  rename_i fs ht
  simp only [Bool.and_eq_true, beq_iff_eq] at hs
  obtain ⟨xs, n, -, -, hl, hlen, hf⟩ := DataW.trod_struct ht h
  obtain ⟨ms, h1, h2, h3⟩ := liftL_ok ss 0 fs.toList n cs hs.2 (by rw [hl, hs.1]; omega) fun i f hi => by
   have := hf i f (by simpa using hi)
   have hix : i < xs.length := by rw [hlen]; have := (List.getElem?_eq_some_iff.1 hi).1; simpa using this
   exact ⟨xs[i], by rw [this]; simp [hix]⟩
  exact ⟨.agg (ms.flatMap MV.cells), ⟨ms, h1, rfl⟩, by simpa [MV.cells] using h2, by simp only [MV.cells]; exact h3⟩
 | .slice s, t, fuel, cs, x, hs, h => by
  simp only [Sh.has] at hs
  split at hs
  case h_2 => cases hs
  rename_i e ht
  simp only [Bool.and_eq_true, beq_iff_eq] at hs
  obtain ⟨⟨hc, hpos⟩, hse⟩ := hs
  have hpos' : 0 < s.size := by simpa [Nat.blt_eq] using hpos
  rcases DataW.trod_slice ht h with ⟨rfl, -⟩ | ⟨a, len, cap, elems, rest, n, -, rfl, -, -, hle, hmx, hel, hE, -, -⟩
  ·exact ⟨.sl [], ⟨[], rfl, by simp, fun e he => by cases he⟩, vs_one (.sl [] [] none 0 s.size (Nat.le_refl _) (fun e he => by cases he) rfl (fun i c v hc => by simp [flat] at hc) (fun h0 => absurd h0 (by simp))), rfl⟩
  ·have key : ∀ i, i < len → ∃ m cs', Fits s m ∧ Vs (baseE w) w m.cells cs' ∧ m.cells.length = s.size ∧ cs'.length = s.size ∧ ∀ j, j < s.size → w.cell? ((a.add (i * s.size)).add j) = cs'[j]? := fun i hi => by
    have h1 := hE i hi
    have h2 : elems[i]? = some (elems[i]'(by rw [hel]; exact hi)) := by simp [hel, hi]
    rw [h2, Option.bind_eq_some_iff, hc] at h1
    obtain ⟨cs', h3, h4⟩ := h1
    obtain ⟨-, h5, h6⟩ := World.cells?_some h3
    obtain ⟨m, k1, k2, k3⟩ := lift_ok s e n cs' _ hse h4
    exact ⟨m, cs', k1, k2, k3, h5, h6⟩
   obtain ⟨F, hF⟩ : ∃ F : Nat → MV × List Value, ∀ i, i < len → Fits s (F i).1 ∧ Vs (baseE w) w (F i).1.cells (F i).2 ∧ (F i).1.cells.length = s.size ∧ (F i).2.length = s.size ∧ ∀ j, j < s.size → w.cell? ((a.add (i * s.size)).add j) = (F i).2[j]? :=
    ⟨fun i => if hi : i < len then ((key i hi).choose, (key i hi).choose_spec.choose) else default, fun i hi => by simp only [dif_pos hi]; exact (key i hi).choose_spec.choose_spec⟩
   have hmem : ∀ e ∈ (List.range len).map fun i => (F i).1, Fits s e ∧ e.cells.length = s.size := fun e he => by
    obtain ⟨i, hi, rfl⟩ := List.mem_map.1 he
    have hi' := List.mem_range.1 hi
    exact ⟨(hF i hi').1, (hF i hi').2.2.1⟩
   refine ⟨.sl ((List.range len).map fun i => (F i).1), ⟨_, rfl, by simp; omega, fun e he => (hmem e he).1⟩, vs_one ?_, rfl⟩
   have hflen : (flat ((List.range len).map fun i => (F i).1)).length = len * s.size := by rw [flat_len fun e he => (hmem e he).2]; simp
   have hcell : ∀ k, k < len * s.size → ∃ i j, i < len ∧ j < s.size ∧ k = i * s.size + j := fun k hk => ⟨k / s.size, k % s.size, Nat.div_lt_of_lt_mul (by rw [Nat.mul_comm]; exact hk), Nat.mod_lt _ hpos', (Nat.div_add_mod' k s.size).symm⟩
   have hspot : 0 < len → ∃ b off, a = ⟨b, off, none⟩ := fun h0 => by
    obtain ⟨b, off, spot⟩ := a
    have h1 := (hF 0 h0).2.2.2.2 0 hpos'
    rw [List.getElem?_eq_getElem (by rw [(hF 0 h0).2.2.2.1]; exact hpos')] at h1
    have hsp : spot = none := by simpa [Addr.add] using World.cell?_spot h1
    exact ⟨b, off, by rw [hsp]⟩
   by_cases h0 : 0 < len
   ·obtain ⟨b, off, rfl⟩ := hspot h0
    have hb : b < w.heap.size := by
     have h1 := (hF 0 h0).2.2.2.2 0 hpos'
     rw [List.getElem?_eq_getElem (by rw [(hF 0 h0).2.2.2.1]; exact hpos')] at h1
     have := cell_lt h1
     simpa [Addr.add] using this
    have hval : ∀ i j, i < len → j < s.size → w.cell? ⟨b, off + (i * s.size + j), none⟩ = (F i).2[j]? := fun i j hi hj => by
     rw [← (hF i hi).2.2.2.2 j hj]
     simp [Go.WideShapes.add_plain, Nat.add_assoc]
    have hl2 : ((List.range len).map fun i => (F i).1).length = len := by simp
    have := V.sl (E := baseE w) (w := w) ((List.range len).map fun i => (F i).1) ((List.range (len * s.size)).map fun k => (w.cell? ⟨b, off + k, none⟩).getD undef) (some ⟨b, off, none⟩) cap s.size (by rw [hl2]; exact hle) (fun e he => (hmem e he).2) (by rw [hflen]; simp)
     (fun k c v hk hv => by
      obtain ⟨i, j, e, rfl, hj, he, hcj⟩ := (flat_iff fun e he => (hmem e he).2).1 hk
      have hi : i < len := by have := (List.getElem?_eq_some_iff.1 he).1; simpa using this
      have he' : (F i).1 = e := by simpa [hi] using he
      subst he'
      have hlt : i * s.size + j < len * s.size := by
       have := Nat.mul_le_mul_right s.size (show i + 1 ≤ len from hi)
       rw [Nat.add_mul, Nat.one_mul] at this
       omega
      rw [List.getElem?_map, List.getElem?_range hlt, Option.map_some, hval i j hi hj] at hv
      have hj2 : j < (F i).2.length := by rw [(hF i hi).2.2.2.1]; exact hj
      rw [List.getElem?_eq_getElem hj2, Option.getD_some, Option.some.injEq] at hv
      exact (hF i hi).2.1.2 j c v hcj (by rw [List.getElem?_eq_getElem hj2, hv]))
     (fun _ => ⟨b, off, rfl, hb, fun k v hk => by
      have hlt : k < len * s.size := by have := (List.getElem?_eq_some_iff.1 hk).1; simpa using this
      obtain ⟨i, j, hi, hj, rfl⟩ := hcell k hlt
      rw [List.getElem?_map, List.getElem?_range hlt, Option.map_some] at hk
      have hj2 : j < (F i).2.length := by rw [(hF i hi).2.2.2.1]; exact hj
      have h9 := hval i j hi hj
      rw [List.getElem?_eq_getElem hj2] at h9
      rw [h9, Option.getD_some, Option.some.injEq] at hk
      rw [h9, hk]⟩)
    rw [hl2] at this
    exact this
   ·have hl0 : len = 0 := by omega
    subst hl0
    exact .sl [] [] (some a) cap s.size (by simp) (fun e he => by cases he) rfl (fun i c v hc => by simp [flat] at hc) (fun h0 => absurd h0 (by simp))
theorem liftL_ok : ∀ (ss : List Sh) (off : Nat) (fs : List Field) (n : Nat) (cs : List Value), hasL P ss off fs = true → cs.length = off + sizeL ss → (∀ (i : Nat) (f : Field), fs[i]? = some f → ∃ x, DataW.trod enc P w 0 spare held n f.type ((cs.drop f.offset).take (P.cellsOf f.type)) = some x) →
  ∃ ms, FitsL ss ms ∧ Vs (baseE w) w (ms.flatMap MV.cells) (cs.drop off) ∧ (ms.flatMap MV.cells).length = sizeL ss
 | [], off, fs, n, cs, hs, hl, hf => ⟨[], rfl, by
   have : cs.drop off = [] := List.drop_eq_nil_of_le (by simp [sizeL] at hl; omega)
   rw [this]; exact ⟨rfl, fun i c v hc => by simp at hc⟩, rfl⟩
 | s :: ss, off, [], n, cs, hs, hl, hf => by simp [hasL] at hs
 | s :: ss, off, f :: fs, n, cs, hs, hl, hf => by
  simp only [hasL, Bool.and_eq_true, beq_iff_eq] at hs
  obtain ⟨⟨⟨h1, h2⟩, h3⟩, h4⟩ := hs
  obtain ⟨x, hx⟩ := hf 0 f rfl
  rw [h1, h2] at hx
  obtain ⟨m, k1, k2, k3⟩ := lift_ok s f.type n _ x h3 hx
  obtain ⟨ms, j1, j2, j3⟩ := liftL_ok ss (off + s.size) fs n cs h4 (by simp only [sizeL] at hl; omega) fun i f' hi => hf (i + 1) f' (by simpa using hi)
  refine ⟨m :: ms, ⟨m, ms, rfl, k1, j1⟩, ?_, by simp only [List.flatMap_cons, List.length_append, sizeL, k3, j3]⟩
  have e : cs.drop off = (cs.drop off).take s.size ++ cs.drop (off + s.size) := by
   rw [← List.drop_drop]; exact (List.take_append_drop _ _).symm
  rw [e, List.flatMap_cons]
  exact k2.append j2
end
end
end Go.Proofs.YtfchdbghjeophaaDoor

/- From an answer to a law's statement. -/
namespace Go.Proofs.YtfchdbghjeophaaDoor
open Go.RowKit Go.ChangeShapes Go.WideShapes Go.ChangeAt
set_option linter.unusedVariables false
theorem Tryd.own : ownKnob Tryd.prog.godebug = none := by kernel_rfl
theorem Tryd.laidOut : laidOutB Tryd.prog = true := by kernel_rfl
section
variable {H : Type} {enc : TypeId × Value → H} {P : Program} {w : World} {spare : Nat → Bool} {held : Bool}
theorem lift_val {s : Sh} {t : TypeId} {v : Value} {d : DataW H} {p : List MemPlace} {r : Reach} {b : Nat} (hs : s.has P t = true) (hv : Value.okWide P w r b t v) (h : DataW.Trod enc P w 0 spare held t v d p) : ∃ m, Fits s m ∧ V (baseE w) w m v := by
 obtain ⟨fuel, h⟩ := h
 obtain ⟨m, h1, h2, h3⟩ := lift_ok s t fuel _ _ hs h
 refine ⟨m, h1, ?_⟩
 have one : m.cells = [m] → v.cells = #[v] → V (baseE w) w m v := fun e1 e2 => by
  rw [e1, e2] at h2
  exact h2.2 0 m v rfl rfl
 cases s with
 | int k =>
  simp only [Fits] at h1
  obtain ⟨n, rfl, -⟩ := h1
  simp only [Sh.has] at hs
  split at hs
  case h_2 => cases hs
  rename_i k' ht
  obtain ⟨n', rfl⟩ := okWide_int ht hv
  exact one rfl rfl
 | bool =>
  simp only [Fits] at h1
  obtain ⟨n, rfl⟩ := h1
  simp only [Sh.has] at hs
  split at hs
  case h_2 => cases hs
  rename_i ht
  obtain ⟨n', rfl⟩ := okWide_bool ht hv
  exact one rfl rfl
 | str =>
  simp only [Fits] at h1
  obtain ⟨n, rfl, -⟩ := h1
  simp only [Sh.has] at hs
  split at hs
  case h_2 => cases hs
  rename_i ht
  obtain ⟨n', rfl⟩ := okWide_string ht hv
  exact one rfl rfl
 | slice s =>
  simp only [Fits] at h1
  obtain ⟨es, rfl, -⟩ := h1
  simp only [Sh.has] at hs
  split at hs
  case h_2 => cases hs
  rename_i e ht
  obtain ⟨a, len, cap, rfl⟩ := okWide_slice ht hv
  exact one rfl rfl
 | agg ss =>
  simp only [Fits] at h1
  obtain ⟨ms, -, rfl⟩ := h1
  simp only [Sh.has] at hs
  split at hs
  case h_2 => cases hs
  rename_i fs ht
  obtain ⟨cs, rfl, -⟩ := okWide_struct ht hv
  have h4 : Vs (baseE w) w (ms.flatMap MV.cells) cs.toList := by simpa [MV.cells, Value.cells] using h2
  have := V.agg (E := baseE w) (w := w) _ _ h4.1 h4.2
  simpa using this
def hasAll (P : Program) : List Sh → List TypeId → Bool
 | [], [] => true
 | s :: ss, t :: ts => s.has P t && hasAll P ss ts
 | _, _ => false
theorem lift_all {r : Reach} {b : Nat} : ∀ (ss : List Sh) (ts : List TypeId) (vs : List Value) (ds : List (DataW H)) (ps : List MemPlace), hasAll P ss ts = true → DataW.TrodAll enc P w 0 spare held ts vs ds ps →
  (∀ (j : Nat) t v, ts[j]? = some t → vs[j]? = some v → Value.okWide P w r b t v) → ∃ ms, FitsL ss ms ∧ Vs (baseE w) w ms vs ∧ ds.length = ss.length
 | [], [], [], [], ps, _, _, _ => ⟨[], rfl, ⟨rfl, fun i c v hc => by simp at hc⟩, rfl⟩
 | [], [], [], _ :: _, ps, _, h, _ => by simp [DataW.TrodAll] at h
 | [], [], _ :: _, _, ps, _, h, _ => by simp [DataW.TrodAll] at h
 | s :: ss, t :: ts, [], _, ps, _, h, _ => by simp [DataW.TrodAll] at h
 | s :: ss, t :: ts, _ :: _, [], ps, _, h, _ => by simp [DataW.TrodAll] at h
 | s :: ss, t :: ts, v :: vs, d :: ds, ps, hs, h, hv => by
  simp only [hasAll, Bool.and_eq_true] at hs
  obtain ⟨p, q, h1, h2, -⟩ := h
  obtain ⟨m, k1, k2⟩ := lift_val hs.1 (hv 0 t v rfl rfl) h1
  obtain ⟨ms, j1, j2, j3⟩ := lift_all ss ts vs ds q hs.2 h2 fun j t' v' ht hv' => hv (j + 1) t' v' (by simpa using ht) (by simpa using hv')
  exact ⟨m :: ms, ⟨m, ms, rfl, k1, j1⟩, Vs.cons k2 j2, by simp [j3]⟩
 | [], _ :: _, _, _, _, hs, _, _ => by simp [hasAll] at hs
 | _ :: _, [], _, _, _, hs, _, _ => by simp [hasAll] at hs
theorem stay_all (hl : laidOutB P = true) {W' : World} (hb : Below w.heap.size w W') : ∀ (ts : List TypeId) (vs : List Value) (ds : List (DataW H)) (ps : List MemPlace), DataW.TrodAll enc P w 0 (fun _ => true) true ts vs ds ps → (ts.all fun t => P.readableRec t && decide (t < P.types.size)) = true → (∀ x ∈ ps, x.block < w.heap.size) →
  DataW.TrodAll enc P W' 0 (fun b => decide (b < w.heap.size)) true ts vs ds ps
 | [], [], [], ps, h, _, _ => h
 | [], [], _ :: _, ps, h, _, _ => by simp [DataW.TrodAll] at h
 | [], _ :: _, _, ps, h, _, _ => by simp [DataW.TrodAll] at h
 | t :: ts, [], _, ps, h, _, _ => by simp [DataW.TrodAll] at h
 | t :: ts, _ :: _, [], ps, h, _, _ => by simp [DataW.TrodAll] at h
 | t :: ts, v :: vs, d :: ds, ps, h, hr, hlt => by
  obtain ⟨p, q, h1, h2, rfl⟩ := h
  simp only [List.all_cons, Bool.and_eq_true, decide_eq_true_eq] at hr
  exact ⟨p, q, Below.trod hl hr.1.1 hr.1.2 h1 hb (fun x hx => hlt x (List.mem_append_left _ hx)), stay_all hl hb ts vs ds q h2 (by simpa using hr.2) (fun x hx => hlt x (List.mem_append_right _ hx)), rfl⟩
end
theorem below_ext {w w' : World} {E E' : Env} (hK : ∀ id, ¬ E.K id) (hx : Ext (fun _ => true) E w E' w') : Below w.heap.size w w' :=
 ext_below (n := 0) (hx.mono fun id hk _ => rfl) (fun id hk => absurd hk (hK id))
theorem law_calls {O : Oracle} (hO : SoundO Tryd.prog O ∧ AppO O) {f : Nat} {args : List MV} {vs : List Value} {w : World} (hz : runZ MT O (itA 14) 4000000 f args [] = some (.lit (.bool true), [])) (hv : Vs (baseE w) w args vs) (hT : ∀ p ∈ TABS, V (baseE w) w p.1 p.2) :
  Calls Tryd.prog f vs.toArray w fun e w' => e = .returned (.bool true) ∧ Below w.heap.size w w' := by
 have hI : SoundI Tryd.prog (itA 14) := orI_ok (by kernel_rfl) (tabOf_ok Tryd.prog) tI_ok (orA_ok 14) (orZ_ok (by kernel_rfl) (tabOf_ok Tryd.prog) tA_ok tI_ok 14).2
 refine ((runZ_ok (by kernel_rfl) (tabOf_ok Tryd.prog) hO.1 hO.2 hI hz).2 (baseE w) w vs (baseE_rel w hT) hv).mono ?_
 rintro e w' ⟨v, E', rfl, h1, -, h3⟩
 exact ⟨by rw [h1.lit_eq], below_ext (fun id hk => hk) h3⟩
set_option maxRecDepth 100000 in
theorem law_contractT {H : Type} {enc : TypeId × Value → H} {f : Nat} {fn : Func} {s : ChangeSpec} {O : Oracle} (hO : SoundO Tryd.prog O ∧ AppO O) (shs : List Sh) (hp : hasAll Tryd.prog shs fn.params.toList = true) (hrd : (fn.params.toList.all fun t => Tryd.prog.readableRec t && decide (t < Tryd.prog.types.size)) = true) (hr : fn.resultTypes = #[4])
  (hsv : s.vars = []) (hspec : ∀ ds : List (DataW H), ds.length = shs.length → (s.fn H (ds ++ [])).results = [.lit (.bool true)] ∧ (s.fn H (ds ++ [])).args = ds ∧ (s.fn H (ds ++ [])).vars = [])
  (hz : ∀ ms, FitsL shs ms → runZ MT O (itA 14) 4000000 f ms [] = some (.lit (.bool true), []))
  (W : World) (base : Nat) (args : Array Value) (ds gs : List (DataW H)) (before : List MemPlace) (hval : ∀ (j : Nat) t v, fn.params[j]? = some t → args[j]? = some v → Value.okWide Tryd.prog W .any base t v)
  (hW : DataW.Whole enc Tryd.prog fn.params.toList s.vars false W args.toList ds gs before) (hT : ∀ p ∈ TABS, V (baseE W) W p.1 p.2) :
  Calls Tryd.prog f args W fun e W' => ∃ v, e = .returned v ∧ s.post enc Tryd.prog fn false true false false W args v W' := by
 have hW' := hW
 obtain ⟨p, q, hA, hV, rfl, hfz, hnd⟩ := hW
 rw [hsv] at hV
 obtain ⟨rfl, rfl⟩ := trodVars_none hV
 have hv2 : ∀ (j : Nat) (t : TypeId) (v : Value), fn.params.toList[j]? = some t → args.toList[j]? = some v → Value.okWide Tryd.prog W .any base t v := fun j t v ht hv => hval j t v (by rw [Array.getElem?_toList] at ht; exact ht) (by rw [Array.getElem?_toList] at hv; exact hv)
 obtain ⟨ms, h1, h2, h3⟩ := lift_all (P := Tryd.prog) (w := W) shs fn.params.toList args.toList ds p hp hA hv2
 have hc := law_calls hO (hz ms h1) h2 hT
 rw [Array.toArray_toList] at hc
 refine hc.mono ?_
 rintro e W' ⟨rfl, hb⟩
 obtain ⟨e1, e2, e3⟩ := hspec ds h3
 have hlt : ∀ x ∈ p ++ [], x.block < W.heap.size := fun x hx => by simpa using hW'.lt x hx
 refine ⟨_, rfl, ds, [], p ++ [], [], p, [], hW', ?_, ?_, ?_, hb.frame _, fun h => by cases h⟩
 ·rw [e1, hr]
  exact trodAll_mk1 (shut_bool Tryd.underlying4 true)
 ·rw [e2]
  exact stay_all Tryd.laidOut hb _ _ _ _ hA hrd fun x hx => hlt x (by simpa using hx)
 ·rw [e3, hsv]; rfl
theorem laidVars_mem {P : Program} {w : World} : ∀ {l : List (String × DataW Unit)} {ps : List MemPlace}, DataW.LaidVars P w l ps → ∀ n d, (n, d) ∈ l → ∃ g t cs fuel p, P.globalNamed n = some g ∧ (P.globals[g]?).map (·.type) = some t ∧ w.var? P n = some cs ∧ DataW.trod (fun _ => ()) P w 0 (fun _ => true) false fuel t cs.toList = some (d, p)
 | [], ps, _, n, d, hm => by cases hm
 | (n', d') :: r, ps, h, n, d, hm => by
  obtain ⟨g, t, cs, fuel, p, q, h1, h2, h3, h4, h5, -⟩ := h
  rcases List.mem_cons.1 hm with e | hm
  ·cases e; exact ⟨g, t, cs, fuel, p, h1, h2, h3, h4⟩
  ·exact laidVars_mem h5 n d hm
abbrev tabD : List Nat := [0, 1, 56, 2, 57, 49, 28, 3, 61, 58, 42, 50, 38, 29, 17, 4, 62, 47, 59, 36, 45, 43, 51, 22, 53, 39, 33, 30, 24, 18, 12, 5, 63, 55, 48, 27, 60, 41, 37, 16, 46, 35, 44, 21, 52, 32, 23, 11, 54, 26, 40, 15, 34, 20, 31, 10, 25, 14, 19, 9, 13, 8, 7, 6]
theorem tabs_laid {l : List (String × DataW Unit)} {W : World} (h : laidMetH Tryd.prog l W) (hm : ("math/bits.deBruijn64tab", DataW.agg (tabD.map fun k : Nat => DataW.lit (.int .u8 (k : Int)))) ∈ l) : ∀ p ∈ TABS, V (baseE W) W p.1 p.2 := by
 obtain ⟨⟨ps, hl, -, -⟩, -⟩ := laidMetH_iff.1 h
 obtain ⟨g, t, cs, fuel, p, hg, ht, hv, hd⟩ := laidVars_mem hl _ _ (List.mem_filter.2 ⟨hm, rfl⟩)
 obtain rfl := Option.some.inj ((show Tryd.prog.globalNamed "math/bits.deBruijn64tab" = some 1 by kernel_rfl).symm.trans hg)
 obtain rfl := Option.some.inj ((show (Tryd.prog.globals[1]?).map (·.type) = some 105 by kernel_rfl).symm.trans ht)
 obtain ⟨xs, m, rfl, hx, -, hxl, hxi⟩ := DataW.trod_array Tryd.underlying105 hd
 rw [show Tryd.prog.cellsOf 5 = 1 by kernel_rfl] at hxi
 have hx1 : (tabD.map fun k : Nat => (DataW.lit (.int .u8 (k : Int)) : DataW Unit)) = xs.map (·.1) := by
  have := congrArg Prod.fst hx
  simpa only [DataW.agg.injEq] using this
 have hcell : ∀ i (hi : i < 64), W.cell? ⟨1, i, none⟩ = some (.int .u8 (tabD.getD i 0 : Nat)) := fun i hi => by
  have h1 := hxi i hi
  rw [Nat.mul_one, List.getElem?_eq_getElem (by omega)] at h1
  obtain ⟨n, h2, h3, -⟩ := DataW.trod_int Tryd.underlying5 h1
  have h4 : (xs.map (·.1))[i]? = some (DataW.lit (.int .u8 n)) := by rw [List.getElem?_map, List.getElem?_eq_getElem (by omega), h3]; rfl
  rw [← hx1, List.getElem?_map, List.getElem?_eq_getElem hi] at h4
  simp only [Option.map_some, Option.some.injEq, DataW.lit.injEq, Lit.int.injEq, true_and] at h4
  have h5 : cs[i]? = some (.int .u8 n) := by
   have : ((cs.toList.drop i).take 1)[0]? = some (.int .u8 n) := by rw [h2]; rfl
   rw [List.getElem?_take_of_lt (by omega), List.getElem?_drop, Nat.add_zero, Array.getElem?_toList] at this
   exact this
  rw [World.var?_cell hg hv, h5, ← h4, List.getD_eq_getElem?_getD, List.getElem?_eq_getElem hi]; rfl
 intro p hp
 obtain rfl := List.mem_singleton.1 hp
 have hfl : flat (tabD.map fun k : Nat => MV.lit (.int .u8 (k : Int))) = tabD.map fun k : Nat => MV.lit (.int .u8 (k : Int)) := flat_u8 _
 refine V.sl _ (tabD.map fun k : Nat => Value.int .u8 (k : Int)) _ 64 1 (Nat.le_refl _) (fun e he => ?_) (by rw [hfl]; rfl) (fun i c v hc hv' => ?_) fun _ => ⟨_, 0, rfl, cell_lt (hcell 0 (by omega)), fun i v hi => ?_⟩
 ·obtain ⟨k, -, rfl⟩ := List.mem_map.1 he; rfl
 ·rw [hfl, List.getElem?_map] at hc
  rw [List.getElem?_map] at hv'
  cases hk : tabD[i]? with
  | none => rw [hk] at hc; cases hc
  | some k =>
   rw [hk] at hc hv'
   cases hc; cases hv'
   exact .lit _
 ·rw [List.getElem?_map] at hi
  cases hk : tabD[i]? with
  | none => rw [hk] at hi; cases hi
  | some k =>
   rw [hk] at hi
   cases hi
   have hlt : i < 64 := (List.getElem?_eq_some_iff.1 hk).1
   rw [Nat.zero_add, hcell i hlt, List.getD_eq_getElem?_getD, hk]; rfl
end Go.Proofs.YtfchdbghjeophaaDoor

/- Open values of common shapes. -/
namespace Go.Proofs.YtfchdbghjeophaaDoor
open Go.ChangeShapes Go.WideShapes Go.ChangeAt Go.RowKit
theorem fits_ints {m : MV} (h : Fits (.slice (.int .i64)) m) : ∃ xs : List Int, m = .sl (xs.map I64) ∧ xs.length ≤ maxLen ∧ ∀ n ∈ xs, (Lit.int .i64 n).wf = true := by
 simp only [Fits] at h
 obtain ⟨es, rfl, hl, he⟩ := h
 induction es with
 | nil => exact ⟨[], rfl, by simp, fun n hn => by cases hn⟩
 | cons e es ih =>
  obtain ⟨n, rfl, hw⟩ := he e List.mem_cons_self
  obtain ⟨xs, h1, h2, h3⟩ := ih (by simp at hl; omega) fun e h => he e (List.mem_cons_of_mem _ h)
  refine ⟨n :: xs, by simpa using h1, ?_, fun k hk => ?_⟩
  ·have : es = xs.map I64 := by simpa using h1
   subst this
   simpa using hl
  ·rcases List.mem_cons.1 hk with rfl | hk
   ·exact hw
   ·exact h3 k hk
theorem maxLen_le : maxLen ≤ 9223372036854775807 := by decide
theorem fits_int {k : IntKind} {m : MV} (h : Fits (.int k) m) : ∃ n, m = .lit (.int k n) ∧ (Lit.int k n).wf = true := by
 simp only [Fits] at h; exact h
theorem fits_agg {ss : List Sh} {m : MV} (h : Fits (.agg ss) m) : ∃ ms, FitsL ss ms ∧ m = .agg (ms.flatMap MV.cells) := by
 simp only [Fits] at h; exact h
theorem fitsL_cons {s : Sh} {ss : List Sh} {ms : List MV} (h : FitsL (s :: ss) ms) : ∃ m r, ms = m :: r ∧ Fits s m ∧ FitsL ss r := by
 simp only [FitsL] at h; exact h
theorem fitsL_nil {ms : List MV} (h : FitsL [] ms) : ms = [] := by
 simp only [FitsL] at h; exact h
end Go.Proofs.YtfchdbghjeophaaDoor

/- Rows of integers. -/
namespace Go.Proofs.YtfchdbghjeophaaDoor
open Go.RowKit
set_option linter.unusedVariables false
theorem ltL_lits {n : Nat} {α : Type} {f : α → MV} (hf : ∀ a, (f a).lt n = true) : ∀ xs : List α, ltL n (xs.map f) = true
 | [] => rfl
 | x :: xs => by simp [ltL, hf x, ltL_lits hf xs]
theorem pureL_lits {α : Type} {f : α → MV} (hf : ∀ a, (f a).pure = true) : ∀ xs : List α, pureL (xs.map f) = true
 | [] => rfl
 | x :: xs => by simp [pureL, hf x, pureL_lits hf xs]
theorem ltL_I (n : Nat) (xs : List Int) : ltL n (xs.map I64) = true := ltL_lits (fun _ => rfl) xs
theorem pureL_I (xs : List Int) : pureL (xs.map I64) = true := pureL_lits (fun _ => rfl) xs
theorem frz_arr {h : MHeap} {id i k g : Nat} {o : MObj} {es : List MV} (ho : h[id]? = some o) (hg : o.g = g) (hk : i + k ≤ o.es.length) (hl : ltL 0 o.es = true) (he : (o.es.drop i).take k = es) : frz 0 [] h 8 (.arr id i k g) = some (.sl es) := by
 simp [frz, MV.lt, ho, hg, hk, hl, he]
theorem frz_sl {h : MHeap} {es : List MV} (hl : ltL 0 es = true) : frz 0 [] h 8 (.sl es) = some (.sl es) := by
 simp [frz, MV.lt, hl]
def FzS (H : MHeap) (v : MV) (es : List MV) : Prop := v.slen = some es.length ∧ ∀ t, frz 0 [] (H ++ t) 8 v = some (.sl es)
theorem FzS.now {H : MHeap} {v : MV} {es : List MV} (h : FzS H v es) : frz 0 [] H 8 v = some (.sl es) := by have := h.2 []; rwa [List.append_nil] at this
theorem fz_arr {h : MHeap} {id k : Nat} {o : MObj} {es : List MV} (ho : h[id]? = some o) (hg : o.g = 0) (hk : k = es.length) (hl : ltL 0 es = true) (he : o.es = es) : FzS h (.arr id 0 k 0) es := by
 subst he hk
 refine ⟨rfl, fun t => frz_arr (o := o) ?_ hg (by simp) hl (by simp)⟩
 rw [List.getElem?_append_left (List.getElem?_eq_some_iff.1 ho).1]; exact ho
theorem mf_Ints : MT.mf 18 = some ⟨26, [(.tmp 4)], (.seq (.reg [gO 4 (.mv cF)]) (.seq (.seq (.reg [gO 6 (.mv (.s 0)), gO 7 (.len (.s 6)), gO 8 (.mv (.s 1)), gO 9 (.len (.s 8)), gO 10 (.bin .neq (.s 7) (.s 9))]) (.cond (.s 10) (.seq (.reg [gO 4 (.mv cF)]) .ret) .skip)) (.seq (.seq (.reg [gO 5 (.mv (cI 0))]) (.block 0 (.loop [5, 0, 1] (.seq (.seq (.reg [gO 11 (.mv (.s 5)), gO 12 (.mv (.s 0)), gO 13 (.len (.s 12)), gO 14 (.bin .lss (.s 11) (.s 13))]) (.cond (.s 14) .skip (.exit 0))) (.seq (.block 1 (.seq (.reg [gO 17 (.mv (.s 0)), gO 18 (.mv (.s 5)), gO 19 (.ia 1 (.s 17) (.s 18)), gO 20 (.ld none (.s 19)), gO 21 (.mv (.s 1)), gO 22 (.mv (.s 5)), gO 23 (.ia 1 (.s 21) (.s 22)), gO 24 (.ld none (.s 23)), gO 25 (.bin .neq (.s 20) (.s 24))]) (.cond (.s 25) (.seq (.reg [gO 4 (.mv cF)]) .ret) .skip))) (.reg [gO 15 (.mv (.s 5)), gO 16 (.bin .add (.s 15) (cI 1)), gO 5 (.mv (.s 16))])))))) (.seq (.reg [gO 4 (.mv cT)]) .ret))))⟩ := by kernel_rfl
theorem bInts_z (k : Nat) (xs ys : List Int) (hx : xs.length < 1000000) : runZ MT (orA k) (itA k) 4000000 18 [.sl (xs.map I64), .sl (ys.map I64)] [] = some (Bo (xs == ys), []) := by
 have hl1 : (xs.map I64).length = xs.length := by simp
 have hl2 : (ys.map I64).length = ys.length := by simp
 refine runZ_of mf_Ints (by simp) ?_
 simp only [argsL]
 by_cases hlen : xs.length = ys.length
 ·repeat (first | apply ef_seq | (apply ef_mv; exact rfl; exact rfl) | (apply ef_bin; (iterate 3 exact rfl); (exact cmp_f rfl (by simp only [cmpP]; omega))) | (apply ef_len; exact rfl; exact rfl; (exact rfl)) | apply ef_nil | apply seqQ.normal | apply ef_block | apply ef_skip | (apply ef_condf; exact rfl; (exact (rfl : false = false))))
  refine ef_loop (α := Nat) (fun i => i ≤ xs.length ∧ (xs == ys) = (xs.drop i == ys.drop i)) (fun i => [(5, I64 (i : Int)), (0, .sl (xs.map I64)), (1, .sl (ys.map I64))]) (fun _ => []) (fun i => xs.length - i) 0 [5, 0, 1] (fun _ => rfl) rfl ⟨by omega, by simp⟩ (by simp; omega) (by ((repeat (refine Hold.cons (by exact rfl) ?_)); exact Hold.nil)) rfl ?_
  rintro i ⟨hi, hz⟩
  by_cases hlt : i < xs.length
  ·have e1 := at_map I64 xs i hlt
   have e2 := at_map I64 ys i (by omega)
   have HD := Lib.hid (drop_at xs i hlt)
   have HD2 := Lib.hid (drop_at ys i (by omega))
   have HZ := Lib.hid hz
   clear hz
   generalize xs[i] = p at e1 HD
   generalize ys[i] = q at e2 HD2
   by_cases hpq : p = q
   ·subst hpq
    repeat (first | apply ef_seq | (apply ef_mv; exact rfl; exact rfl) | (apply ef_bin; (iterate 3 exact rfl); (first | exact cmp_t rfl (by first | exact rfl | (simp only [cmpP]; omega)) | exact cmp_f rfl (by simp only [cmpP]; omega) | ((with_reducible refine bin_add (wrap_of ?_ ?_)) <;> omega))) | (apply ef_len; exact rfl; exact rfl; (exact rfl)) | (apply ef_ldr; exact rfl; exact rfl; (exact rfl)) | (apply ef_ias; (iterate 3 exact rfl); (omega); assumption; exact rfl) | apply ef_nil | apply seqQ.normal | apply blockQ.normal | apply ef_block | apply ef_skip | (apply ef_condt; exact rfl; (exact (rfl : true = true))) | (apply ef_condf; exact rfl; (exact (rfl : false = false))))
    (refine loopQ.normal _ _ ⟨i + 1, ⟨hlt, by rw [HZ.out, HD.out, HD2.out]; simp⟩, (by first | (simp only; omega) | omega), by ((repeat (refine Hold.cons (by exact rfl) ?_)); exact Hold.nil), .inl (Nat.le_refl _), (by first | exact List.take_length | exact rfl)⟩)
   ·repeat (first | apply ef_seq | (apply ef_mv; exact rfl; exact rfl) | (apply ef_bin; (iterate 3 exact rfl); (exact cmp_t rfl (by first | exact rfl | (simp only [cmpP]; omega)))) | (apply ef_len; exact rfl; exact rfl; (exact rfl)) | (apply ef_ldr; exact rfl; exact rfl; (exact rfl)) | (apply ef_ias; (iterate 3 exact rfl); (omega); assumption; exact rfl) | apply ef_nil | apply seqQ.normal | apply loopQ.ret | apply ef_ret | apply seqQ.ret | apply blockQ.ret | apply ef_block | apply ef_skip | (apply ef_condt; exact rfl; (exact (rfl : true = true))))
    (refine fin1 rfl (by exact rfl) rfl ?_)
    rw [HZ.out, HD.out, HD2.out]
    simp [hpq]
  ·repeat (first | apply ef_seq | (apply ef_mv; exact rfl; exact rfl) | (apply ef_bin; (iterate 3 exact rfl); (exact cmp_f rfl (by simp only [cmpP]; omega))) | (apply ef_len; exact rfl; exact rfl; (exact rfl)) | apply ef_nil | apply seqQ.normal | apply loopQ.exit | apply ef_ret | apply ef_exit | apply seqQ.exit | apply blockQ.here | (apply ef_condf; exact rfl; (exact (rfl : false = false))))
   (refine fin1 rfl (by exact rfl) rfl ?_)
   rw [hz, List.drop_eq_nil_of_le (by omega), List.drop_eq_nil_of_le (by omega)]; rfl
 ·repeat (first | apply ef_seq | (apply ef_mv; exact rfl; exact rfl) | (apply ef_bin; (iterate 3 exact rfl); (exact cmp_t rfl (by first | exact rfl | (simp only [cmpP]; omega)))) | (apply ef_len; exact rfl; exact rfl; (exact rfl)) | apply ef_nil | apply seqQ.normal | apply ef_ret | apply seqQ.ret | (apply ef_condt; exact rfl; (exact (rfl : true = true))))
  (refine fin1 rfl (by exact rfl) rfl ?_)
  have : (xs == ys) = false := by
   rw [beq_eq_false_iff_ne]; exact fun e => hlen (by rw [e])
  rw [this]
theorem bInts_c (k : Nat) (xs ys : List Int) (h : MHeap) {v w : MV} (hx : xs.length < 1000000) (hv : frz 0 [] h 8 v = some (.sl (xs.map I64))) (hw : frz 0 [] h 8 w = some (.sl (ys.map I64))) {t : Bool} (ht : (xs == ys) = t) : orA (k + 1) 18 [v, w] h = some (Bo t, h) :=
 callL (args' := [.sl (xs.map I64), .sl (ys.map I64)]) (by simp [List.mapM_cons, hv, hw]) rfl (by rw [← ht]; exact bInts_z k xs ys hx)
theorem callTT {k f : Nat} {args args' : List MV} {h : MHeap} {a b : Value} (h1 : args.mapM (frz 0 [] h 8) = some args') (hT : tA f args' [] = none) (h2 : runZ MT (orA k) (itA k) 4000000 f args' [] = some (.tup [.lit a, .lit b], [])) : orA (k + 1) f args h = some (.tup [.lit a, .lit b], h) := by
 have := callA h1 hT h2 (by simp [okV, ok1, MV.lt, MV.pure]) rfl
 simpa [shV, sh1] using this
theorem frz_lt {h : MHeap} {m : MV} (hl : m.lt 0 = true) : frz 0 [] h 8 m = some m := by simp [frz, hl]
theorem frzL_lt {h : MHeap} : ∀ {ms : List MV}, ltL 0 ms = true → ms.mapM (frz 0 [] h 8) = some ms
 | [], _ => rfl
 | m :: ms, hl => by
  simp only [ltL, Bool.and_eq_true] at hl
  rw [List.mapM_cons, frz_lt hl.1, frzL_lt hl.2]; rfl
theorem impIds_lt0 : ∀ {v w : MV}, v.lt 0 = true → w.lt 0 = true → impIds 0 [v, w] = [] := fun {v w} h1 h2 => by
 cases v <;> first | (simp [MV.lt] at h1; done) | (cases w <;> first | (simp [MV.lt] at h2; done) | simp [impIds])
theorem fin_res2 {x : MX2} {A : Sl} {h : MHeap} {r1 r2 : MRes} {v w : MV} (hx : outX x = true) (h1 : ResV A h r1 v) (h2 : ResV A h r2 w) (l1 : v.lt 0 = true) (l2 : w.lt 0 = true) : FinF [r1, r2] (.tup [v, w]) [] x A h := by
 have hi := impIds_lt0 l1 l2
 refine ⟨hx, [v, w], [v, w], ⟨v, [w], rfl, h1, w, [], rfl, h2, rfl⟩, by rw [hi]; simp, ?_, rfl⟩
 rw [hi]
 cases v <;> first | (simp [MV.lt] at l1; done) | (cases w <;> first | (simp [MV.lt] at l2; done) | simp [expL, frz, l1, l2])
end Go.Proofs.YtfchdbghjeophaaDoor

/- Nets: what the document says of them, without a program. -/
namespace Go.Proofs.YtfchdbghjeophaaDoor
open Go.RowKit
set_option linter.unusedVariables false
def fIxG {α : Type} (P : α → Bool) : List α → Nat → Int
 | [], _ => -1
 | z :: zs, i => if P z then i else fIxG P zs (i + 1)
theorem fIxG_spec {α : Type} (P : α → Bool) : ∀ (zs : List α) (s : Nat), (fIxG P zs s = -1 ∧ ∀ z ∈ zs, P z = false) ∨ ∃ (i : Nat) (h : i < zs.length), fIxG P zs s = ((s + i : Nat) : Int) ∧ P zs[i] = true
 | [], s => .inl ⟨rfl, fun z h => by cases h⟩
 | z :: zs, s => by
  by_cases hz : P z = true
  ·exact .inr ⟨0, by simp, by simp [fIxG, hz], hz⟩
  ·rcases fIxG_spec P zs (s + 1) with ⟨h1, h2⟩ | ⟨i, hi, h1, h2⟩
   ·refine .inl ⟨by simp [fIxG, hz, h1], fun w hw => ?_⟩
    rcases List.mem_cons.1 hw with rfl | hw
    ·simpa using hz
    ·exact h2 w hw
   ·refine .inr ⟨i + 1, by simpa using hi, ?_, by simpa using h2⟩
    simp only [fIxG, hz]
    rw [if_neg (by simp), h1]
    congr 1; omega
theorem fIxG_any {α : Type} (P : α → Bool) (zs : List α) : MV.lit (.bool (decide (fIxG P zs 0 ≥ 0))) = Bo (zs.any P) := by
 rcases fIxG_spec P zs 0 with ⟨h1, h2⟩ | ⟨i, hi, h1, h2⟩
 ·rw [h1]
  have : zs.any P = false := by rw [List.any_eq_false]; intro z hz; simp [h2 z hz]
  rw [this]; rfl
 ·rw [h1]
  have : zs.any P = true := List.any_eq_true.2 ⟨zs[i], List.getElem_mem _, h2⟩
  rw [this]; simp
structure Cr where
 ln : Int
 ti : Int
 pa : Int
 pt : Int
 df : Int
 wt : Int
instance : Inhabited Cr := ⟨⟨0, 0, 0, 0, 0, 0⟩⟩
abbrev Ln := ByteArray × Bool
structure Nt where
 ls : List Ln
 cs : List Cr
abbrev encB (c : UInt8) : MV := .lit (.int .u8 c.toNat)
abbrev encLn (l : Ln) : MV := .agg [.lit (.string l.1), Bo l.2]
abbrev encCr (c : Cr) : MV := .agg [I64 c.ln, I64 c.ti, I64 c.pa, I64 c.pt, I64 c.df, I64 c.wt]
abbrev encN (n : Nt) : MV := .agg [.sl (n.ls.map encLn), .sl (n.cs.map encCr)]
def letB (c : UInt8) : Bool := (decide (97 ≤ c.toNat) && decide (c.toNat ≤ 122)) || (decide (65 ≤ c.toNat) && decide (c.toNat ≤ 90))
def nbB (i : Nat) (c : UInt8) : Bool := letB c || (decide (i ≠ 0) && (decide (c.toNat = 45) || (decide (48 ≤ c.toNat) && decide (c.toNat ≤ 57))))
def allNb : Nat → List UInt8 → Bool
 | _, [] => true
 | i, c :: cs => nbB i c && allNb (i + 1) cs
def nmB (s : ByteArray) : Bool := allNb 0 s.data.toList && inB s.size 1 12
def scanE {α : Type} (f : List α → α → Int) (pre : List α) : List α → Int × Int
 | [] => (0, 0)
 | x :: xs => if f pre x = 0 then scanE f (pre ++ [x]) xs else ((pre.length : Int), f pre x)
theorem scanE_nil {α : Type} (f : List α → α → Int) (pre : List α) : scanE f pre [] = (0, 0) := rfl
theorem scanE_step {α : Type} {f : List α → α → Int} {xs : List α} {i : Nat} (h : i < xs.length) (h0 : f (xs.take i) xs[i] = 0) : scanE f (xs.take i) (xs.drop i) = scanE f (xs.take (i + 1)) (xs.drop (i + 1)) := by
 rw [List.drop_eq_getElem_cons h, scanE, if_pos h0, List.take_add_one, List.getElem?_eq_getElem h]; rfl
theorem scanE_bad {α : Type} {f : List α → α → Int} {xs : List α} {i : Nat} (h : i < xs.length) (h0 : f (xs.take i) xs[i] ≠ 0) : scanE f (xs.take i) (xs.drop i) = ((i : Int), f (xs.take i) xs[i]) := by
 rw [List.drop_eq_getElem_cons h, scanE, if_neg h0, List.length_take, Nat.min_eq_left (Nat.le_of_lt h)]
theorem scanE_ok {α : Type} {f : List α → α → Int} {xs : List α} : ∀ {pre : List α}, (scanE f pre xs).2 = 0 → scanE f pre xs = (0, 0) ∧ ∀ (i : Nat) (h : i < xs.length), f (pre ++ xs.take i) xs[i] = 0 := by
 induction xs with
 | nil => exact fun _ => ⟨rfl, fun i h => absurd h (by simp)⟩
 | cons x xs ih =>
  intro pre h
  rw [scanE] at h ⊢
  by_cases h0 : f pre x = 0
  ·rw [if_pos h0] at h ⊢
   obtain ⟨h1, h2⟩ := ih h
   refine ⟨h1, fun i hi => ?_⟩
   cases i with
   | zero => simpa using h0
   | succ i =>
    have := h2 i (by simpa using hi)
    simpa using this
  ·rw [if_neg h0] at h
   exact absurd h h0
def lineE (pre : List Ln) (l : Ln) : Int := firstE [unl (nmB l.1) 4, unl (!(pre.any fun o => o.1 == l.1)) 5]
def tieOf (ls : List Ln) (i : Int) : Bool := (ls.getD i.toNat (⟨#[]⟩, false)).2
def dblB (c o : Cr) : Bool := (decide (o.ln = c.ln) && decide (o.pa = c.pa)) || (decide (o.ti = c.ti) && decide (o.pt = c.pt))
def rngB (c : Cr) : Bool := inB c.pa 0 1000000 && (inB c.pt 0 1000000 && (inB c.df (-10000) 10000 && inB c.wt 1 10))
def crossE (ls : List Ln) (pre : List Cr) (c : Cr) : Int :=
 if inB c.ln 0 ((ls.length : Int) - 1) && inB c.ti 0 ((ls.length : Int) - 1) then
  firstE [unl (!tieOf ls c.ln && tieOf ls c.ti) 15, unl (rngB c) 2, unl (!(pre.any (dblB c))) 23]
 else 6
def netF (n : Nt) : Int × Int :=
 if n.ls.length = 0 then (0, 10) else if 8 < n.ls.length ∨ 16 < n.cs.length then (0, 8)
 else if (scanE lineE [] n.ls).2 = 0 then scanE (crossE n.ls) [] n.cs else scanE lineE [] n.ls
end Go.Proofs.YtfchdbghjeophaaDoor

/- Open values of nets. -/
namespace Go.Proofs.YtfchdbghjeophaaDoor
open Go.ChangeShapes Go.WideShapes Go.ChangeAt Go.RowKit
abbrev i64Sh : Sh := .int .i64
def lineSh : Sh := .agg [.str, .bool]
def crossSh : Sh := .agg [i64Sh, i64Sh, i64Sh, i64Sh, i64Sh, i64Sh]
def netSh : Sh := .agg [.slice lineSh, .slice crossSh]
theorem fits_list {α : Type} {s : Sh} (enc : α → MV) (H : ∀ m, Fits s m → ∃ a, m = enc a) {m : MV} (h : Fits (.slice s) m) : ∃ xs : List α, m = .sl (xs.map enc) ∧ xs.length ≤ 9223372036854775807 := by
 rw [Fits] at h
 obtain ⟨es, rfl, hl, he⟩ := h
 replace hl := Nat.le_trans hl maxLen_le
 induction es with
 | nil => exact ⟨[], rfl, by simp⟩
 | cons e es ih =>
  obtain ⟨a, rfl⟩ := H e (he e List.mem_cons_self)
  obtain ⟨xs, h1, h2⟩ := ih (fun e h => he e (List.mem_cons_of_mem _ h)) (by simp at hl; omega)
  have e1 : es = xs.map enc := by simpa using h1
  subst e1
  exact ⟨a :: xs, rfl, by simpa using hl⟩
theorem fits_line {m : MV} (h : Fits lineSh m) : ∃ l : Ln, m = encLn l := by
 obtain ⟨ms, h', rfl⟩ := fits_agg h
 obtain ⟨m1, r1, rfl, h1, h⟩ := fitsL_cons h'
 obtain ⟨m2, r2, rfl, h2, h⟩ := fitsL_cons h
 obtain rfl := fitsL_nil h
 simp only [Fits] at h1 h2
 obtain ⟨s, rfl, -⟩ := h1
 obtain ⟨b, rfl⟩ := h2
 exact ⟨(s, b), rfl⟩
theorem fits_cross {m : MV} (h : Fits crossSh m) : ∃ x : Cr, m = encCr x := by
 obtain ⟨ms, h', rfl⟩ := fits_agg h
 obtain ⟨m1, r1, rfl, h1, h⟩ := fitsL_cons h'
 obtain ⟨m2, r2, rfl, h2, h⟩ := fitsL_cons h
 obtain ⟨m3, r3, rfl, h3, h⟩ := fitsL_cons h
 obtain ⟨m4, r4, rfl, h4, h⟩ := fitsL_cons h
 obtain ⟨m5, r5, rfl, h5, h⟩ := fitsL_cons h
 obtain ⟨m6, r6, rfl, h6, h⟩ := fitsL_cons h
 obtain rfl := fitsL_nil h
 obtain ⟨a1, rfl, -⟩ := fits_int h1
 obtain ⟨a2, rfl, -⟩ := fits_int h2
 obtain ⟨a3, rfl, -⟩ := fits_int h3
 obtain ⟨a4, rfl, -⟩ := fits_int h4
 obtain ⟨a5, rfl, -⟩ := fits_int h5
 obtain ⟨a6, rfl, -⟩ := fits_int h6
 exact ⟨⟨a1, a2, a3, a4, a5, a6⟩, rfl⟩
theorem fits_net {m : MV} (h : Fits netSh m) : ∃ n : Nt, m = encN n ∧ n.ls.length ≤ 9223372036854775807 ∧ n.cs.length ≤ 9223372036854775807 := by
 obtain ⟨ms, h', rfl⟩ := fits_agg h
 obtain ⟨m1, r1, rfl, h1, h⟩ := fitsL_cons h'
 obtain ⟨m2, r2, rfl, h2, h⟩ := fitsL_cons h
 obtain rfl := fitsL_nil h
 obtain ⟨ls, rfl, q1⟩ := fits_list encLn (fun _ => fits_line) h1
 obtain ⟨cs, rfl, q2⟩ := fits_list encCr (fun _ => fits_cross) h2
 exact ⟨⟨ls, cs⟩, rfl, q1, q2⟩
end Go.Proofs.YtfchdbghjeophaaDoor

/- Contracts of the program: the words of the chapter. -/
namespace Go.Proofs.YtfchdbghjeophaaDoor
open Go.RowKit
set_option linter.unusedVariables false
theorem mf_pwithin : MT.mf 37 = some mfW_l37 := mfW_q37
theorem within_c (k : Nat) (a b c : Int) (h : MHeap) {t : Bool} (ht : inB a b c = t) : orA (k + 1) 37 [I64 a, I64 b, I64 c] h = some (Bo t, h) := by
 refine callL (frz_lits [.int .i64 a, .int .i64 b, .int .i64 c]) rfl (runZ_of mf_pwithin (by simp) ?_)
 simp only [argsL, List.map_cons, List.map_nil]
 by_cases h1 : b ≤ a
 all_goals repeat (first | apply ef_seq | (apply ef_mv; exact rfl; exact rfl) | (apply ef_bin; (iterate 3 exact rfl); (first | exact cmp_t rfl (by first | exact rfl | (simp only [cmpP]; omega)) | exact cmp_f rfl (by simp only [cmpP]; omega) | exact rfl)) | (apply ef_gy; exact rfl; (exact (rfl : true = true))) | (apply ef_gn; exact rfl; (exact (rfl : false = false)); exact rfl) | (apply ef_pick; (iterate 3 exact rfl)) | apply ef_nil | apply seqQ.normal | apply ef_ret)
 ·(refine fin1 rfl (by exact rfl) rfl ?_)
  simp [inB, h1] at ht; simp [← ht]
 ·(refine fin1 rfl (by exact rfl) rfl ?_)
  simp [inB, h1] at ht; simp [← ht]
theorem mf_unless : MT.mf 29 = some mfW_l29 := mfW_q29
theorem unless_c (k : Nat) (b : Bool) (n : Int) (h : MHeap) {e : Int} (he : unl b n = e) : orA (k + 1) 29 [Bo b, I64 n] h = some (I64 e, h) := by
 subst he
 refine callL (frz_lits [.bool b, .int .i64 n]) rfl (runZ_of mf_unless (by simp) ?_)
 simp only [argsL, List.map_cons, List.map_nil]
 cases b
 all_goals repeat (first | apply ef_seq | (apply ef_mv; exact rfl; exact rfl) | apply ef_nil | apply seqQ.normal | apply ef_ret | apply seqQ.ret | apply ef_skip | (apply ef_condt; exact rfl; (exact (rfl : true = true))) | (apply ef_condf; exact rfl; (exact (rfl : false = false))))
 all_goals (refine fin1 rfl (by exact rfl) rfl ?_)
 all_goals rfl
theorem mf_first : MT.mf 28 = some mfW_l28 := mfW_q28
theorem first_z (k : Nat) (xs : List Int) (hx : xs.length ≤ 1000) : runZ MT (orA k) (itA k) 4000000 28 [.sl (xs.map I64)] [] = some (I64 (firstE xs), []) := by
 have hl : (MV.sl (xs.map I64)).slen = some xs.length := by simp [MV.slen]
 refine runZ_of mf_first (by simp) ?_
 simp only [argsL]
 repeat (first | apply ef_seq | (apply ef_mv; exact rfl; exact rfl) | (apply ef_len; exact rfl; exact rfl; (assumption)) | apply ef_nil | apply seqQ.normal | apply ef_block)
 refine ef_loop (α := Nat) (fun i => i ≤ xs.length ∧ firstE xs = firstE (xs.drop i)) (fun i => [(7, I64 (i : Int)), (6, I64 (xs.length : Int)), (5, .sl (xs.map I64))]) (fun _ => []) (fun i => xs.length - i) 0 [7, 6, 5] (fun _ => rfl) rfl ⟨by omega, rfl⟩ (by simp; omega) (by ((repeat (refine Hold.cons (by exact rfl) ?_)); exact Hold.nil)) rfl ?_
 rintro i ⟨hi, hz⟩
 by_cases hlt : i < xs.length
 ·have e1 := at_map I64 xs i hlt
  have HD := Lib.hid (drop_at xs i hlt)
  have HZ := Lib.hid hz
  clear hz
  generalize xs[i] = x at e1 HD
  by_cases h0 : x = 0
  ·subst h0
   repeat (first | apply ef_seq | (apply ef_mv; exact rfl; exact rfl) | (apply ef_bin; (iterate 3 exact rfl); (first | exact cmp_t rfl (by first | exact rfl | (simp only [cmpP]; omega)) | exact cmp_f rfl (by simp only [cmpP]; omega) | ((with_reducible refine bin_add (wrap_of ?_ ?_)) <;> omega))) | (apply ef_ldr; exact rfl; exact rfl; (exact rfl)) | (apply ef_ias; (iterate 3 exact rfl); (omega); assumption; exact rfl) | apply ef_nil | apply seqQ.normal | apply blockQ.normal | apply ef_block | apply ef_skip | (apply ef_condt; exact rfl; (exact (rfl : true = true))) | (apply ef_condf; exact rfl; (exact (rfl : false = false))))
   (refine loopQ.normal _ _ ⟨i + 1, ⟨hlt, by rw [HZ.out, HD.out]; simp [firstE]⟩, (by first | (simp only; omega) | omega), by ((repeat (refine Hold.cons (by exact rfl) ?_)); exact Hold.nil), .inl (Nat.le_refl _), (by first | exact List.take_length | exact rfl)⟩)
  ·repeat (first | apply ef_seq | (apply ef_mv; exact rfl; exact rfl) | (apply ef_bin; (iterate 3 exact rfl); (exact cmp_t rfl (by first | exact rfl | (simp only [cmpP]; omega)))) | (apply ef_ldr; exact rfl; exact rfl; (exact rfl)) | (apply ef_ias; (iterate 3 exact rfl); (omega); assumption; exact rfl) | apply ef_nil | apply seqQ.normal | apply loopQ.ret | apply ef_ret | apply seqQ.ret | apply blockQ.ret | apply ef_block | apply ef_skip | (apply ef_condt; exact rfl; (exact (rfl : true = true))))
   (refine fin1 rfl (by exact rfl) rfl ?_)
   rw [HZ.out, HD.out]; simp [firstE, h0]
 ·repeat (first | apply ef_seq | (apply ef_mv; exact rfl; exact rfl) | (apply ef_bin; (iterate 3 exact rfl); (exact cmp_f rfl (by simp only [cmpP]; omega))) | apply ef_nil | apply seqQ.normal | apply loopQ.exit | apply ef_ret | apply ef_exit | apply seqQ.exit | apply blockQ.here | (apply ef_condf; exact rfl; (exact (rfl : false = false))))
  (refine fin1 rfl (by exact rfl) rfl ?_)
  rw [hz, List.drop_eq_nil_of_le (by omega)]; rfl
theorem first_c (k : Nat) (xs : List Int) (h : MHeap) {v : MV} {e : Int} (hv : frz 0 [] h 8 v = some (.sl (xs.map I64))) (he : firstE xs = e) (hx : xs.length ≤ 1000 := by simp) : orA (k + 1) 28 [v] h = some (I64 e, h) :=
 callL (args' := [.sl (xs.map I64)]) (by simp [List.mapM_cons, hv]) rfl (by rw [← he]; exact first_z k xs hx)
theorem first2_c {k id : Nat} {a0 a1 e : Int} {h : MHeap} {o : MObj} (ho : h[id]? = some o) (hg : o.g = 0) (hes : o.es = [I64 a0, I64 a1]) (he : firstE [a0, a1] = e) : orA (k + 1) 28 [.arr id 0 2 0] h = some (I64 e, h) :=
 first_c k [a0, a1] h (fz_arr ho hg rfl rfl hes).now he
theorem first3_c {k id : Nat} {a0 a1 a2 e : Int} {h : MHeap} {o : MObj} (ho : h[id]? = some o) (hg : o.g = 0) (hes : o.es = [I64 a0, I64 a1, I64 a2]) (he : firstE [a0, a1, a2] = e) : orA (k + 1) 28 [.arr id 0 3 0] h = some (I64 e, h) :=
 first_c k [a0, a1, a2] h (fz_arr ho hg rfl rfl hes).now he
end Go.Proofs.YtfchdbghjeophaaDoor

/- More rules of evaluation: cuts with a state, rows of integers. -/
namespace Go.Proofs.YtfchdbghjeophaaDoor
open Go.RowKit
section
variable {O : Oracle} {I : Iter} {N n : Nat} {lk : Nat → Bool} {A : Sl} {h : MHeap} {Q : MX2 → Sl → MHeap → Prop}
end
end Go.Proofs.YtfchdbghjeophaaDoor

/- Iterators with open values: rules; ranges over them. -/
namespace Go.Proofs.YtfchdbghjeophaaDoor
open Go.RowKit
set_option linter.unusedVariables false
abbrev QI := MX2 → Sl → MHeap → Nat → List (List MV) → Bool → Prop
structure EfI (O : Oracle) (N n : Nat) (mc : MC) (A : Sl) (h : MHeap) (ln : Nat) (xs : List (List MV)) (stop : Bool) (Q : QI) : Prop where
 run : ∀ s, SRel n A s → ∃ outs, evI O N mc ⟨s, h, ln, xs, stop⟩ = some outs ∧ ∀ o ∈ outs, ∃ A', SRel n A' o.2.s ∧ Q o.1 A' o.2.h o.2.ln o.2.xs o.2.stop
structure EfY (O : Oracle) (N n : Nat) (gl : List GO) (A : Sl) (h : MHeap) (ln : Nat) (xs : List (List MV)) (stop : Bool) (Q : Sl → MHeap → Nat → List (List MV) → Bool → Prop) : Prop where
 run : ∀ s, SRel n A s → ∃ l, evRI O gl ⟨s, h, ln, xs, stop⟩ = some l ∧ ∀ o ∈ l, ∃ A', SRel n A' o.s ∧ Q A' o.h o.ln o.xs o.stop
section
variable {O : Oracle} {N n : Nat} {A : Sl} {h : MHeap} {ln : Nat} {xs : List (List MV)} {stop : Bool} {Q : QI}
inductive seqI (O : Oracle) (N n : Nat) (b : MC) (Q : QI) : QI
 | normal (A : Sl) (h : MHeap) (ln : Nat) (xs : List (List MV)) (stop : Bool) : EfI O N n b A h ln xs stop Q → seqI O N n b Q .normal A h ln xs stop
 | ret (A : Sl) (h : MHeap) (ln : Nat) (xs : List (List MV)) (stop : Bool) : Q .ret A h ln xs stop → seqI O N n b Q .ret A h ln xs stop
 | exit (id : Nat) (A : Sl) (h : MHeap) (ln : Nat) (xs : List (List MV)) (stop : Bool) : Q (.exit id) A h ln xs stop → seqI O N n b Q (.exit id) A h ln xs stop
inductive blockI (id : Nat) (Q : QI) : QI
 | normal (A : Sl) (h : MHeap) (ln : Nat) (xs : List (List MV)) (stop : Bool) : Q .normal A h ln xs stop → blockI id Q .normal A h ln xs stop
 | ret (A : Sl) (h : MHeap) (ln : Nat) (xs : List (List MV)) (stop : Bool) : Q .ret A h ln xs stop → blockI id Q .ret A h ln xs stop
 | here (A : Sl) (h : MHeap) (ln : Nat) (xs : List (List MV)) (stop : Bool) : Q .normal A h ln xs stop → blockI id Q (.exit id) A h ln xs stop
 | there (k : Nat) (A : Sl) (h : MHeap) (ln : Nat) (xs : List (List MV)) (stop : Bool) : k ≠ id → Q (.exit k) A h ln xs stop → blockI id Q (.exit k) A h ln xs stop
inductive loopI (R : Sl → MHeap → Nat → List (List MV) → Bool → Prop) (Q : QI) : QI
 | normal (A : Sl) (h : MHeap) (ln : Nat) (xs : List (List MV)) (stop : Bool) : R A h ln xs stop → loopI R Q .normal A h ln xs stop
 | ret (A : Sl) (h : MHeap) (ln : Nat) (xs : List (List MV)) (stop : Bool) : Q .ret A h ln xs stop → loopI R Q .ret A h ln xs stop
 | exit (id : Nat) (A : Sl) (h : MHeap) (ln : Nat) (xs : List (List MV)) (stop : Bool) : Q (.exit id) A h ln xs stop → loopI R Q (.exit id) A h ln xs stop
variable {QY : Sl → MHeap → Nat → List (List MV) → Bool → Prop}
end
section
variable {O : Oracle} {I : Iter} {N n : Nat} {lk : Nat → Bool} {A : Sl} {h : MHeap} {Q : MX2 → Sl → MHeap → Prop}
inductive preQ (O : Oracle) (I : Iter) (N n : Nat) (lk : Nat → Bool) (b : MC) (R : MX2 → Sl → MHeap → Prop) : MX2 → Sl → MHeap → Prop
 | normal (A : Sl) (h : MHeap) : Ef O I N n lk b A h R → preQ O I N n lk b R .normal A h
inductive rfQ (A0 : Sl) (R : MHeap → Prop) (Q : MX2 → Sl → MHeap → Prop) : MX2 → Sl → MHeap → Prop
 | normal (A : Sl) (h : MHeap) : R h → rfQ A0 R Q .normal A h
 | ret (A : Sl) (h : MHeap) : Q .ret A0 h → rfQ A0 R Q .ret A h
 | exit (id : Nat) (A : Sl) (h : MHeap) : Q (.exit id) A0 h → rfQ A0 R Q (.exit id) A h
inductive HeadIs (keep : List Nat) (m : Nat) (A : Sl) (h : MHeap) : MHeap → Prop
 | all : h.length ≤ m → HeadIs keep m A h h
 | cut : (∀ t ∈ keep, ∃ v, look A t = some v ∧ v.lt m = true) → hltL m (h.take m) = true → HeadIs keep m A h (h.take m)
 | slot (t : Nat) (v : MV) : t ∈ keep → look A t = some v → v.lt m = false → HeadIs keep m A h h
 | cell : hltL m (h.take m) = false → HeadIs keep m A h h
theorem ids_lt0 {h : MHeap} : ∀ (f : Nat) (v : MV), v.lt 0 = true → MV.ids h f v = []
 | 0, v, _ => rfl
 | f + 1, v, hv => by
  have key : ∀ cs : List MV, ltL 0 cs = true → cs.flatMap (MV.ids h f) = [] := fun cs hc => by
   rw [List.flatMap_eq_nil_iff]
   intro c hcm
   exact ids_lt0 f c (ltL_iff'.1 hc c hcm)
  cases v <;> simp only [MV.ids, MV.lt] at hv ⊢
  case agg cs => exact key cs hv
  case tup cs => exact key cs hv
  case sl cs => exact key cs hv
  case fn _ _ cs => exact key cs hv
  case rm cs => exact key cs hv
  case rp e _ => exact ids_lt0 f e hv
  all_goals simp at hv
theorem idsL_lt0 {h : MHeap} {f : Nat} {vs : List MV} (hv : ltL 0 vs = true) : vs.flatMap (MV.ids h f) = [] := by
 rw [List.flatMap_eq_nil_iff]
 intro c hcm
 exact ids_lt0 f c (ltL_iff'.1 hv c hcm)
end
end Go.Proofs.YtfchdbghjeophaaDoor

/- Further rules of evaluation with open values: cases on what is undecided, loops with slots that stay. -/
namespace Go.Proofs.YtfchdbghjeophaaDoor
open Go.RowKit
set_option linter.unusedVariables false
section
variable {O : Oracle} {I : Iter} {N n : Nat} {lk : Nat → Bool} {A : Sl} {h : MHeap} {Q : MX2 → Sl → MHeap → Prop} {t : Nat} {os : List GO}
theorem ef_loopf {α : Type} {keep : List Nat} {b : MC} (Inv : α → Prop) (hd : α → Sl) (fx : Sl) (hp : α → MHeap) (ms : α → Nat) (a0 : α) (ks : List Nat) (hks : ∀ a, (hd a).map (·.1) = ks) (hA : Hold A (hd a0)) (hF : Hold A fx) (hk : (ks ++ fx.map (·.1)).all (fun t => keep.contains t) = true) (hH : hp a0 = h) (h0 : Inv a0) (hN : ms a0 < N)
  (hb : ∀ a, Inv a → Ef O I N n lk b (hd a ++ fx) (hp a) (loopQ (fun A' h' => ∃ a', Inv a' ∧ ms a' < ms a ∧ (Hold A' (hd a') ∧ Hold A' fx) ∧ headH keep h.length A' h' ∧ h'.take h.length = hp a') Q)) : Ef O I N n lk (.loop keep b) A h Q := by
 have happ : ∀ (A : Sl) (X Y : Sl), Hold A X → Hold A Y → Hold A (X ++ Y) := fun A X Y h1 h2 p hp => by
  rcases List.mem_append.1 hp with hp | hp
  ·exact h1 p hp
  ·exact h2 p hp
 refine ef_loop Inv (fun a => hd a ++ fx) hp ms a0 (ks ++ fx.map (·.1)) (fun a => by rw [List.map_append, hks a]) hk h0 hN (happ _ _ _ hA hF) hH fun a ha => ?_
 refine (hb a ha).mono fun x A1 h1 hq => ?_
 cases hq with
 | normal _ _ hq =>
  obtain ⟨a', j1, j2, ⟨j3, j4⟩, j5, j6⟩ := hq
  exact .normal _ _ ⟨a', j1, j2, happ _ _ _ j3 j4, j5, j6⟩
 | ret _ _ hq => exact .ret _ _ hq
 | exit id _ _ hq => exact .exit id _ _ hq
end
section
variable {O : Oracle} {N n : Nat} {A : Sl} {h : MHeap} {ln : Nat} {xs : List (List MV)} {stop : Bool} {Q : QI}
end
theorem takeF {l r : MHeap} {n : Nat} (hl : n = l.length) (h : l = r) : l.take n = r := by subst hl h; exact List.take_length
end Go.Proofs.YtfchdbghjeophaaDoor
namespace Go.Proofs.YtfchdbghjeophaaDoor
open Go.RowKit
end Go.Proofs.YtfchdbghjeophaaDoor
