/- The contract of slices.Grow onto nil; the memory that it leaves. -/
import Derived.Laws.AppendOwnNone
import Derived.Lib.AppendZerosOnto
import Derived.Lib.SliceRun
import Derived.WalkKit
import Derived.Lib.Walk
import Derived.Test.YtgjpdjihjphbdaaKeptProofsPb
/- Iterators: their evaluation. -/
namespace Go.Proofs.Ytgjpdjihjphbdaa
open Go.RowKit
structure ISt where
  s : List MV
  h : MHeap
  ln : Nat
  xs : List (List MV)
  stop : Bool
def isY (s : List MV) : MO → Option (List MV)
  | .callv x as_ => match x.get s with
    | .yld => some (as_.map (MX.get s))
    | _ => none
  | _ => none
def bindL {α β : Type} (f : α → Option (List β)) : List α → Option (List β)
  | [] => some []
  | a :: r => match f a with
    | some l => match bindL f r with
      | some m => some (l ++ m)
      | none => none
    | none => none
def lkn (n : Nat) : Nat → Bool := fun id => decide (id < n)
def evGI (O : Oracle) (o : GO) (st : ISt) : Option (List ISt) :=
  match wantM st.s o.guard, isY st.s o.op with
  | some true, some ms => if st.stop = false ∧ ms.all MV.cl = true then
      some [⟨putM st.s o.dst (.lit (.bool true)), st.h, st.h.length, st.xs ++ [ms], false⟩, ⟨putM st.s o.dst (.lit (.bool false)), st.h, st.h.length, st.xs, true⟩] else none
  | _, _ => (evG (lkn st.ln) O o ⟨st.s, st.h⟩).map fun st' => [⟨st'.s, st'.h, st.ln, st.xs, st.stop⟩]
def evRI (O : Oracle) : List GO → ISt → Option (List ISt)
  | [], st => some [st]
  | o :: os, st => match evGI O o st with
    | some l => bindL (evRI O os) l
    | none => none
def hasY (gl : List GO) : Bool := gl.any fun o => isCv o.op
def contI (f : ISt → Option (List (MX2 × ISt))) (p : MX2 × ISt) : Option (List (MX2 × ISt)) :=
  match p.1 with
  | .normal => f p.2
  | _ => some [p]
def roundsI (f : ISt → Option (List (MX2 × ISt))) : Nat → ISt → Option (List (MX2 × ISt))
  | 0, _ => none
  | n + 1, st => match f st with
    | some l => bindL (contI (roundsI f n)) l
    | none => none
def leaveB (id : Nat) (p : MX2 × ISt) : MX2 × ISt :=
  match p.1 with
  | .exit k => if k = id then (.normal, p.2) else p
  | _ => p
def evI (O : Oracle) (N : Nat) : MC → ISt → Option (List (MX2 × ISt))
  | .skip, st => some [(.normal, st)]
  | .reg ops, st => if hasY ops then (evRI O ops st).map fun l => l.map fun st => (.normal, st)
      else (evR (lkn st.ln) O ops ⟨st.s, st.h⟩).map fun st' => [(.normal, ⟨st'.s, st'.h, st.ln, st.xs, st.stop⟩)]
  | .seq a b, st => match evI O N a st with
    | some l => bindL (contI (evI O N b)) l
    | none => none
  | .cond c a b, st => match c.get st.s with
    | .lit (.bool t) => if t then evI O N a st else evI O N b st
    | _ => none
  | .block id b, st => (evI O N b st).map fun l => l.map (leaveB id)
  | .loop _ b, st => roundsI (evI O N b) N st
  | .exit id, st => some [(.exit id, st)]
  | .ret, st => some [(.ret, st)]
  | _, _ => none
theorem bindL_some {α β : Type} {f : α → Option (List β)} : ∀ {l : List α} {m : List β}, bindL f l = some m → ∀ a ∈ l, ∃ r, f a = some r ∧ ∀ x ∈ r, x ∈ m
  | [], m, h, a, ha => by simp at ha
  | b :: l, m, h, a, ha => by
    simp only [bindL] at h
    split at h
    case h_2 => cases h
    rename_i r hr
    split at h
    case h_2 => cases h
    rename_i m' hm
    cases h
    rcases List.mem_cons.1 ha with rfl | ha
    · exact ⟨r, hr, fun x hx => List.mem_append_left _ hx⟩
    · obtain ⟨r', h1, h2⟩ := bindL_some hm a ha
      exact ⟨r', h1, fun x hx => List.mem_append_right _ (h2 x hx)⟩
def Goes (st : ISt) (outs : List (MX2 × ISt)) : Prop := st.stop = false → ∃ o, o ∈ outs ∧ o.2.stop = false ∧ st.xs <+: o.2.xs
theorem Goes.cont {f : ISt → Option (List (MX2 × ISt))} (hf : ∀ st outs, f st = some outs → Goes st outs) {st : ISt} {l outs : List (MX2 × ISt)} (h : Goes st l) (hb : bindL (contI f) l = some outs) : Goes st outs := by
  intro hs
  obtain ⟨o, h1, h2, h3⟩ := h hs
  obtain ⟨r, h4, h5⟩ := bindL_some hb o h1
  obtain ⟨x, st'⟩ := o
  cases x with
  | normal =>
    obtain ⟨o', k1, k2, k3⟩ := hf _ _ h4 h2
    exact ⟨o', h5 _ k1, k2, h3.trans k3⟩
  | exit id =>
    simp only [contI, Option.some.injEq] at h4
    subst h4
    exact ⟨_, h5 _ (by simp), h2, h3⟩
  | ret =>
    simp only [contI, Option.some.injEq] at h4
    subst h4
    exact ⟨_, h5 _ (by simp), h2, h3⟩
theorem Goes.rounds {f : ISt → Option (List (MX2 × ISt))} (hf : ∀ st outs, f st = some outs → Goes st outs) : ∀ n st outs, roundsI f n st = some outs → Goes st outs := by
  intro n
  induction n with
  | zero => intro st outs h; simp [roundsI] at h
  | succ n ih =>
    intro st outs h
    simp only [roundsI] at h
    split at h
    case h_2 => cases h
    rename_i l hl
    exact (hf _ _ hl).cont ih h
theorem evGI_goes {O : Oracle} {o : GO} {st : ISt} {l : List ISt} (h : evGI O o st = some l) (hs : st.stop = false) : ∃ st', st' ∈ l ∧ st'.stop = false ∧ st.xs <+: st'.xs := by
  unfold evGI at h
  split at h
  · split at h
    case isFalse => cases h
    cases h
    exact ⟨_, List.mem_cons_self, rfl, List.prefix_append _ _⟩
  · rw [Option.map_eq_some_iff] at h
    obtain ⟨st', _, rfl⟩ := h
    exact ⟨_, List.mem_cons_self, hs, List.prefix_refl _⟩
theorem evRI_goes {O : Oracle} : ∀ {gl : List GO} {st : ISt} {l : List ISt}, evRI O gl st = some l → st.stop = false → ∃ st', st' ∈ l ∧ st'.stop = false ∧ st.xs <+: st'.xs
  | [], st, l, h, hs => by
    simp only [evRI, Option.some.injEq] at h
    subst h
    exact ⟨_, List.mem_cons_self, hs, List.prefix_refl _⟩
  | o :: gl, st, l, h, hs => by
    simp only [evRI] at h
    split at h
    case h_2 => cases h
    rename_i l1 h1
    obtain ⟨st1, k1, k2, k3⟩ := evGI_goes h1 hs
    obtain ⟨r, h2, h3⟩ := bindL_some h st1 k1
    obtain ⟨st2, j1, j2, j3⟩ := evRI_goes h2 k2
    exact ⟨st2, h3 _ j1, j2, k3.trans j3⟩
theorem evI_goes {O : Oracle} {N : Nat} : ∀ (mc : MC) (st : ISt) (outs : List (MX2 × ISt)), evI O N mc st = some outs → Goes st outs := by
  intro mc
  induction mc with
  | skip => intro st outs h hs; simp only [evI, Option.some.injEq] at h; subst h; exact ⟨_, List.mem_cons_self, hs, List.prefix_refl _⟩
  | ret => intro st outs h hs; simp only [evI, Option.some.injEq] at h; subst h; exact ⟨_, List.mem_cons_self, hs, List.prefix_refl _⟩
  | exit id => intro st outs h hs; simp only [evI, Option.some.injEq] at h; subst h; exact ⟨_, List.mem_cons_self, hs, List.prefix_refl _⟩
  | bad => intro st outs h; simp [evI] at h
  | rf => intro st outs h; simp [evI] at h
  | give => intro st outs h; simp [evI] at h
  | reg gl =>
    intro st outs h hs
    simp only [evI] at h
    split at h
    · rw [Option.map_eq_some_iff] at h
      obtain ⟨l, h1, rfl⟩ := h
      obtain ⟨st', k1, k2, k3⟩ := evRI_goes h1 hs
      exact ⟨(.normal, st'), List.mem_map.2 ⟨st', k1, rfl⟩, k2, k3⟩
    · rw [Option.map_eq_some_iff] at h
      obtain ⟨st', h1, rfl⟩ := h
      exact ⟨_, List.mem_cons_self, hs, List.prefix_refl _⟩
  | seq a b iha ihb =>
    intro st outs h
    simp only [evI] at h
    split at h
    case h_2 => cases h
    rename_i l hl
    exact (iha _ _ hl).cont ihb h
  | cond c a b iha ihb =>
    intro st outs h
    simp only [evI] at h
    split at h
    case h_2 => cases h
    split at h
    · exact iha _ _ h
    · exact ihb _ _ h
  | block id b ih =>
    intro st outs h hs
    simp only [evI, Option.map_eq_some_iff] at h
    obtain ⟨l, h1, rfl⟩ := h
    obtain ⟨o, k1, k2, k3⟩ := ih _ _ h1 hs
    refine ⟨leaveB id o, List.mem_map.2 ⟨o, k1, rfl⟩, ?_⟩
    have : (leaveB id o).2 = o.2 := by unfold leaveB; split; split <;> rfl; rfl
    rw [this]
    exact ⟨k2, k3⟩
  | loop keep b ih =>
    intro st outs h
    simp only [evI] at h
    exact Goes.rounds ih _ _ _ h
def isCallV : Op → Bool
  | .call c => match c.callee with
    | .value (.func _) => false
    | .value _ => true
    | _ => false
  | _ => false
def lastY (P : Program) (ops : Array Oper) : Bool :=
  match ops.toList.mapM (compG P ops) with
  | some gl => drawOk ops gl && (ops.toList.dropLast.all fun o => !isCallV o.op) && (List.range (ops.size - 1)).all fun j => rch ops ops.size (ops.size - 1) j
  | none => false
def seqY (P : Program) : Code → Bool
  | .region _ ops draw => !draw || (ops.toList.all fun o => !isCallV o.op) || lastY P ops
  | .seq a b => seqY P a && seqY P b
  | .cond _ a b => seqY P a && seqY P b
  | .block _ b => seqY P b
  | .loop b => seqY P b
  | _ => true
theorem callv_inv {P : Program} {o : Oper} {x' : MX} {as' : List MX} (hc : compO P o = some (.callv x' as')) : ∃ c x, o.op = .call c ∧ c.callee = .value x ∧ (∀ f, x ≠ .func f) ∧ cX x = some x' ∧ cXs c.args.toList = some as' := by
  obtain ⟨dst, op, type, pos, after, guard⟩ := o
  cases op <;> simp only [compO] at hc <;> try (cases hc; done)
  case call c =>
    obtain ⟨callee, args, argTypes⟩ := c
    cases callee with
    | invoke r m => simp only at hc; cases hc
    | value x =>
      cases x with
      | func f =>
        simp only at hc
        split at hc
        · simp only [Option.bind_eq_bind, Option.bind_eq_some_iff] at hc
          obtain ⟨_, _, h⟩ := hc
          cases h
        · cases hc
      | tmp t =>
        simp only [Option.bind_eq_bind, Option.bind_eq_some_iff, Option.some.injEq, MO.callv.injEq] at hc
        obtain ⟨x1, h1, a1, h2, rfl, rfl⟩ := hc
        exact ⟨_, _, rfl, rfl, (fun f h => by cases h), h1, h2⟩
      | const v =>
        simp only [Option.bind_eq_bind, Option.bind_eq_some_iff, Option.some.injEq, MO.callv.injEq] at hc
        obtain ⟨x1, h1, a1, h2, rfl, rfl⟩ := hc
        exact ⟨_, _, rfl, rfl, (fun f h => by cases h), h1, h2⟩
      | global g => simp [cX] at hc
    | builtin b =>
      exfalso
      simp only at hc
      repeat' (split at hc)
      all_goals (first | (cases hc; done) | (simp [Option.map_eq_some_iff, Option.bind_eq_some_iff] at hc; done) | skip)
      all_goals (simp only [Option.bind_eq_bind, Option.bind_eq_some_iff] at hc; obtain ⟨_, _, _, _, hc⟩ := hc; split at hc)
      all_goals (first | (cases hc; done) | (simp [Option.bind_eq_some_iff] at hc))
  case build t parts =>
    exfalso
    simp only [Option.bind_eq_bind, Option.bind_eq_some_iff] at hc
    obtain ⟨_, _, _, _, hc⟩ := hc
    split at hc
    · simp [Option.bind_eq_some_iff] at hc
    · cases hc
  case makeFunc fn first caps =>
    exfalso
    cases fn <;> simp only at hc <;> try (cases hc; done)
    simp [Option.bind_eq_some_iff] at hc
  case makeMap t r =>
    exfalso
    cases r with
    | some _ => simp only at hc; cases hc
    | none =>
      simp only at hc
      split at hc
      · simp at hc
      · cases hc
  case slice t x lo hi mx =>
    exfalso
    cases mx <;> simp only at hc <;> try (cases hc; done)
    simp [Option.bind_eq_some_iff] at hc
  all_goals
    exfalso
    repeat' (split at hc)
    all_goals (first | (cases hc; done) | (simp [Option.map_eq_some_iff, Option.bind_eq_some_iff] at hc; done) | skip)
  all_goals (simp only [Option.bind_eq_bind, Option.bind_eq_some_iff] at hc)
end Go.Proofs.Ytgjpdjihjphbdaa
namespace Go.Proofs.Ytgjpdjihjphbdaa
open Go.RowKit
theorem V.sameB {E : Env} {w w' : World} (hS : ∀ b, E.S b → w'.heap[b]? = w.heap[b]?) {m : MV} {v : Value} (hv : V E w m v) : V E w' m v := by
  induction hv with
  | junk v => exact .junk v
  | yld => exact .yld
  | lit v => exact .lit v
  | agg cs vs hl _ ih => exact .agg cs vs hl ih
  | tup cs vs hl _ ih => exact .tup cs vs hl ih
  | fn f k cs vs hl _ ih => exact .fn f k cs vs hl ih
  | sl es vs A cap sz hc hs hl _ hA ih =>
    refine .sl es vs A cap sz hc hs hl ih fun h0 => ?_
    obtain ⟨b, off, e, hb, hcell⟩ := hA h0
    exact ⟨b, off, e, hb, fun i v hi => (World.cell?_of_block (w := w) (a := ⟨b, off + i, none⟩) (hS b hb)).trans (hcell i v hi)⟩
  | rp e off vs b o hl _ hb hcell ih =>
    exact .rp e off vs b o hl ih hb fun i v hi => (World.cell?_of_block (w := w) (a := ⟨b, o + i, none⟩) (hS b hb)).trans (hcell i v hi)
  | ptr id i off g b o hk hg hd => exact .ptr id i off g b o hk hg hd
  | arr id i n g A cap hk hg hd => exact .arr id i n g A cap hk hg hd
  | mp id g b hk hg hd => exact .mp id g b hk hg hd
  | rm es vs b ents ck hl _ hm hb hh ih => exact .rm es vs b ents ck hl ih hm hb ((hS b hb).trans hh)
theorem HRel.sameB {E : Env} {h : MHeap} {w w' : World} (hr : HRel E h w) (hS : ∀ b, E.S b → w'.heap[b]? = w.heap[b]?) (hK : ∀ id, E.K id → 0 < E.cp id → w'.heap[E.ρ id]? = w.heap[E.ρ id]?) (hsz : w.heap.size ≤ w'.heap.size) : HRel E h w' :=
  ⟨hr.klt, hr.top, fun id hk => by
    obtain ⟨es, a1, a2, a3, a4, a5⟩ := hr.obj id hk
    refine ⟨es, a1, a2, a3, a4, fun hc => ?_⟩
    obtain ⟨arr, t, b1, b2, b3⟩ := a5 hc
    exact ⟨arr, t, by rw [hK id hk hc]; exact b1, b2, fun k c hk => by obtain ⟨v, c1, c2⟩ := b3 k c hk; exact ⟨v, c1, c2.sameB hS⟩⟩, hr.inj, hr.sep, fun b hb => Nat.lt_of_lt_of_le (hr.slt b hb) hsz⟩
theorem V.cl_eq {E : Env} {w : World} {m : MV} {v : Value} (hv : V E w m v) (hc : m.cl = true) : v = concV m := by
  cases hv with
  | lit v => rfl
  | agg cs vs hl hv =>
    simp only [concV, Value.agg.injEq]
    congr 1
    simp only [MV.cl, List.all_eq_true] at hc
    refine List.ext_getElem? fun i => ?_
    rw [List.getElem?_map]
    by_cases hi : i < cs.length
    · have h1 : cs[i]? = some cs[i] := by simp
      have hi' : i < vs.length := hl ▸ hi
      have h2 : vs[i]? = some vs[i] := by simp
      have := hv i _ _ h1 h2
      have hcl := hc cs[i] (List.getElem_mem _)
      rw [h1, h2]
      generalize hm : cs[i] = m at this hcl
      cases m <;> simp at hcl
      simp [this.lit_eq]
    · have hi' : ¬ i < vs.length := hl ▸ hi
      simp [Nat.not_lt.1 hi, Nat.not_lt.1 hi']
  | _ => cases hc
theorem Vs.cl_eq {E : Env} {w : World} {ms : List MV} {vs : List Value} (hv : Vs E w ms vs) (hc : ms.all MV.cl = true) : vs = ms.map concV := by
  refine List.ext_getElem? fun i => ?_
  rw [List.getElem?_map]
  by_cases hi : i < ms.length
  · have h1 : ms[i]? = some ms[i] := by simp
    have hi' : i < vs.length := hv.1 ▸ hi
    have h2 : vs[i]? = some vs[i] := by simp
    rw [h1, h2, (hv.2 i _ _ h1 h2).cl_eq (List.all_eq_true.1 hc _ (List.getElem_mem _))]
    rfl
  · have hi' : ¬ i < vs.length := hv.1 ▸ hi
    simp [Nat.not_lt.1 hi, Nat.not_lt.1 hi']
section
variable {P : Program} {O : Oracle} {N : Nat} {full : List (List MV)} {l : Nat} {S : Nat → Prop} {J : (Nat → Prop) → Nat → World → Prop} {Jx : World → Prop}
structure ItH (P : Program) (full : List (List MV)) (l : Nat) (S : Nat → Prop) (J : (Nat → Prop) → Nat → World → Prop) (Jx : World → Prop) : Prop where
  ab : ∀ T T' k A A', J T k A → Below A.heap.size A A' → (∀ b, T' b → T b ∨ A.heap.size ≤ b) → J T' k A'
  abx : ∀ A A', Jx A → Below A.heap.size A A' → Jx A'
  yield : ∀ (T : Nat → Prop) (k : Nat) (x : Array Value) (W1 : World), (full.map fun x => (x.map concV).toArray)[k]? = some x → (∀ b, T b → b < W1.heap.size) → J T k W1 →
    YieldAt Fence.wide 0 P l x W1 fun e W' => ((e = .returned (.bool true) ∧ J T (k + 1) W') ∨ (e = .returned (.bool false) ∧ Jx W')) ∧ SameS S W1 W' ∧ SameS T W1 W'
def RelI (l : Nat) (S : Nat → Prop) (J : (Nat → Prop) → Nat → World → Prop) (Jx : World → Prop) (st : ISt) (a : Act) (w : World) : Prop :=
  ∃ (E E1 : Env) (w1 : World) (T : Nat → Prop), Slots E w st.s a ∧ HRel E st.h w ∧ E.yl = l ∧ Ext (lkn st.ln) E1 w1 E w ∧ (∀ id, E1.K id → id < st.ln) ∧ (∀ b, E1.S b → S b ∨ T b) ∧ (∀ id, E1.K id → 0 < E1.cp id → T (E1.ρ id)) ∧
    (∀ b, T b → b < w1.heap.size) ∧ (st.stop = true → Jx w1) ∧ (st.stop = false → J T st.xs.length w1) ∧ a.defers = []
theorem ext_below {n : Nat} {E1 E : Env} {w1 w : World} (hx : Ext (lkn n) E1 w1 E w) (hn : ∀ id, E1.K id → id < n) : Below w1.heap.size w1 w :=
  ⟨hx.os, hx.tape, hx.output, hx.size, fun k hk => hx.keep k hk fun id hid hl _ => by simp [lkn, hn id hid] at hl⟩
theorem evGI_ok (hO : SoundO P O) (hH : ItH P full l S J Jx) {ops : Array Oper} {o : Oper} {go : GO} (hc : compG P ops o = some go) {st : ISt} {outs : List ISt} (he : evGI O go st = some outs) (hpre : ∀ st' ∈ outs, st'.stop = false → st'.xs <+: full)
    {a : Act} {w : World} (hR : RelI l S J Jx st a w) {n : Nat} {K : Act → World → Prop} {Q : Exit → Act → World → Prop} (hK : ∀ st' ∈ outs, ∀ a' w', RelI l S J Jx st' a' w' → K a' w') :
    if Region.wanted o (yielded ops a.tmps) then o.wpIn (Fw none) n P a w K Q else (∀ f, o.about P w a.eval = some f → (Fw none).fn f) ∧ K (a.put o.dst undef) w := by
  obtain ⟨E, E1, w1, T, hs, hr, hyl, hx, hn, hS1, hK1, hT, hJx, hJ, hd⟩ := hR
  unfold evGI at he
  split at he
  · rename_i ms hw hy
    split at he
    case isFalse => cases he
    rename_i hcl
    obtain ⟨hstop, hcl⟩ := hcl
    cases he
    rw [wantM_wanted hc hs hw]
    simp only [if_true]
    unfold isY at hy
    split at hy
    case h_2 => cases hy
    rename_i x' as' hop
    split at hy
    case h_2 => cases hy
    rename_i hxy
    cases hy
    rw [compG_op hc] at hop
    cases hco : compO P o with
    | none => rw [hco] at hop; cases hop
    | some mo =>
    rw [hco] at hop
    simp only [Option.getD_some] at hop
    subst hop
    obtain ⟨c, x, ho, hcal, hnf, hcx, hcas⟩ := callv_inv hco
    have hnd : ∀ c, o.op ≠ .defer c := fun c' e => by rw [ho] at e; cases e
    have hxv : a.eval x = .func (.yield l) #[] #[] := by
      have := hs.x hcx
      rw [hxy] at this
      generalize a.eval x = v at this
      cases this
      rw [hyl]
    have hav : c.args.toList.map a.eval = (as'.map (MX.get st.s)).map concV := (hs.xs hcas).cl_eq hcl
    obtain ⟨T', hT'⟩ : ∃ T' : Nat → Prop, T' = fun b => (E.S b ∧ ¬ S b) ∨ ∃ id, E.K id ∧ 0 < E.cp id ∧ E.ρ id = b := ⟨_, rfl⟩
    have hbel := ext_below hx hn
    have hTT : ∀ b, T' b → T b ∨ w1.heap.size ≤ b := fun b hb => by
      rw [hT'] at hb
      rcases hb with ⟨h1, h2⟩ | ⟨id, h1, h2, rfl⟩
      · rcases hx.srcS b h1 with h | ⟨id, k1, k2, rfl⟩ | h
        · exact .inl ((hS1 b h).resolve_left h2)
        · exact .inl (hK1 id k1 k2)
        · exact .inr h
      · rcases hx.src id h1 h2 with ⟨k1, k2, k3⟩ | h
        · exact .inl (k3 ▸ hK1 id k1 k2)
        · exact .inr h
    have hTlt : ∀ b, T' b → b < w.heap.size := fun b hb => by
      rw [hT'] at hb
      rcases hb with ⟨h1, h2⟩ | ⟨id, h1, h2, rfl⟩
      · exact hr.slt b h1
      · exact hr.lt h1 h2
    have hJ' : J T' st.xs.length w := hH.ab T T' _ _ _ (hJ hstop) hbel hTT
    have hk : (full.map fun x => (x.map concV).toArray)[st.xs.length]? = some ((as'.map (MX.get st.s)).map concV).toArray := by
      have hp := hpre _ List.mem_cons_self rfl
      obtain ⟨t, ht⟩ := hp
      simp only at ht
      rw [← ht]
      simp
    obtain ⟨fn, tmps, assign, body, hy1, hy2⟩ := hH.yield T' st.xs.length _ w hk hTlt hJ'
    have hrun : (execOp a.eval o).run P w = .ok (.round l fn tmps assign body) w := by
      have e1 : c.args.map a.eval = ((as'.map (MX.get st.s)).map concV).toArray := by
        apply Array.ext'
        rw [Array.toList_map, hav]
      simp only [List.map_map] at e1 hy1
      simp [execOp, ho, hcal, resolve, hxv, Deferred.ofValue, invoke, e1, hy1]
    refine ⟨about_wide o a w, ?_⟩
    rw [Oper.semAt_eq _ _ _ hnd, hrun]
    refine ⟨fun h => by simp [Fence.wide] at h, ?_⟩
    refine (roundIn_n 0 (n - 1) hy2).mono ?_
    rintro e W' ⟨hcase, hsS, hsT⟩
    have hES : ∀ b, E.S b → W'.heap[b]? = w.heap[b]? := fun b hb => by
      by_cases h : S b
      · exact hsS.block b h
      · exact hsT.block b (by rw [hT']; exact .inl ⟨hb, h⟩)
    have hEK : ∀ id, E.K id → 0 < E.cp id → W'.heap[E.ρ id]? = w.heap[E.ρ id]? := fun id h1 h2 => hsT.block _ (by rw [hT']; exact .inr ⟨id, h1, h2, rfl⟩)
    have hr' : HRel E st.h W' := hr.sameB hES hEK hsS.size
    have hs' : Slots E W' st.s a := ⟨hs.1, fun i m v h1 h2 => (hs.2 i m v h1 h2).sameB hES⟩
    have hTW : ∀ b, T' b → b < W'.heap.size := fun b hb => Nat.lt_of_lt_of_le (hTlt b hb) hsS.size
    have hES2 : ∀ b, E.S b → S b ∨ T' b := fun b hb => by
      by_cases h : S b
      · exact .inl h
      · exact .inr (by rw [hT']; exact .inl ⟨hb, h⟩)
    have hEK2 : ∀ id, E.K id → 0 < E.cp id → T' (E.ρ id) := fun id h1 h2 => by rw [hT']; exact .inr ⟨id, h1, h2, rfl⟩
    have hputd : ∀ (v : Value), (a.put o.dst v).defers = [] := fun v => by rw [← hd]; cases o.dst <;> rfl
    rcases hcase with ⟨rfl, hJ2⟩ | ⟨rfl, hJ2⟩
    · refine hK _ List.mem_cons_self _ _ ⟨E, E, W', T', ?_, hr', hyl, Ext.refl _ _ _, hr.klt, hES2, hEK2, hTW, (fun h => by cases h), (fun _ => by simpa using hJ2), hputd _⟩
      rw [compG_dst hc]
      exact hs'.put (.lit _) _
    · refine hK _ (List.mem_cons_of_mem _ List.mem_cons_self) _ _ ⟨E, E, W', T', ?_, hr', hyl, Ext.refl _ _ _, hr.klt, hES2, hEK2, hTW, fun _ => hJ2, fun h => (by cases h), hputd _⟩
      rw [compG_dst hc]
      exact hs'.put (.lit _) _
  · rw [Option.map_eq_some_iff] at he
    obtain ⟨st', he, rfl⟩ := he
    exact evG_ok hO hc hs hr he fun a' w' E' h1 h2 h3 h4 => hK _ List.mem_cons_self _ _ ⟨E', E1, w1, T, h1, h2, by rw [h3.yl]; exact hyl, hx.trans h3, hn, hS1, hK1, hT, hJx, hJ, h4.trans hd⟩
theorem evRI_ok (hO : SoundO P O) (hH : ItH P full l S J Jx) {ops : Array Oper} {n : Nat} {Q : Exit → Act → World → Prop} : ∀ {ol : List Oper} {gl : List GO} {st : ISt} {outs : List ISt} {a : Act} {w : World}, ol.mapM (compG P ops) = some gl → evRI O gl st = some outs →
    (∀ st' ∈ outs, st'.stop = false → st'.xs <+: full) → RelI l S J Jx st a w → (∀ st' ∈ outs, ∀ a' w', RelI l S J Jx st' a' w' → Q .normal a' w') → wpListIn (Fw none) n P ops Q ol a w
  | [], gl, st, outs, a, w, hm, he, hpre, hR, hQ => by
    simp at hm; subst hm
    simp [evRI] at he; subst he
    exact hQ _ List.mem_cons_self a w hR
  | o :: ol, gl, st, outs, a, w, hm, he, hpre, hR, hQ => by
    simp only [List.mapM_cons, Option.pure_def, Option.bind_eq_bind, Option.bind_eq_some_iff, Option.some.injEq] at hm
    obtain ⟨go, hgo, gl', hgl, rfl⟩ := hm
    simp only [evRI] at he
    split at he
    case h_2 => cases he
    rename_i l1 he1
    unfold wpListIn
    refine evGI_ok hO hH hgo he1 (fun st' hst' hs' => ?_) hR fun st' hst' a' w' hR' => ?_
    · obtain ⟨r, h1, h2⟩ := bindL_some he st' hst'
      obtain ⟨st2, k1, k2, k3⟩ := evRI_goes h1 hs'
      exact k3.trans (hpre _ (h2 _ k1) k2)
    · obtain ⟨r, h1, h2⟩ := bindL_some he st' hst'
      exact evRI_ok hO hH hgl h1 (fun st2 h3 => hpre st2 (h2 _ h3)) hR' fun st2 h3 => hQ st2 (h2 _ h3)
def CodeI (P : Program) (O : Oracle) (N : Nat) (full : List (List MV)) (l : Nat) (S : Nat → Prop) (J : (Nat → Prop) → Nat → World → Prop) (Jx : World → Prop) (c : Code) (mc : MC) : Prop :=
  ∀ (st : ISt) (outs : List (MX2 × ISt)), evI O N mc st = some outs → (∀ o ∈ outs, o.2.stop = false → o.2.xs <+: full) → ∀ (n : Nat) (a : Act) (w : World) (Q : Exit → Act → World → Prop), RelI l S J Jx st a w →
    (∀ o ∈ outs, ∀ a' w', RelI l S J Jx o.2 a' w' → Q (exitOf o.1) a' w') → c.wpIn (Fw none) n P Q a w
theorem pre_cont {f : ISt → Option (List (MX2 × ISt))} (hf : ∀ st outs, f st = some outs → Goes st outs) {l1 outs : List (MX2 × ISt)} (hb : bindL (contI f) l1 = some outs) (hpre : ∀ o ∈ outs, o.2.stop = false → o.2.xs <+: full) : ∀ o ∈ l1, o.2.stop = false → o.2.xs <+: full := fun o ho hs => by
  obtain ⟨r, h4, h5⟩ := bindL_some hb o ho
  obtain ⟨x, st'⟩ := o
  cases x with
  | normal =>
    obtain ⟨o', k1, k2, k3⟩ := hf _ _ h4 hs
    exact k3.trans (hpre _ (h5 _ k1) k2)
  | exit id =>
    simp only [contI, Option.some.injEq] at h4
    subst h4
    exact hpre _ (h5 _ (by simp)) hs
  | ret =>
    simp only [contI, Option.some.injEq] at h4
    subst h4
    exact hpre _ (h5 _ (by simp)) hs
theorem isCv_of {ops : Array Oper} {o : Oper} {g : GO} (hc : compG P ops o = some g) (hn : isCallV o.op = false) : isCv g.op = false := by
  have hop := compG_op hc
  cases hco : compO P o with
  | none => rw [hco] at hop; rw [hop]; rfl
  | some mo =>
    rw [hco] at hop
    simp only [Option.getD_some] at hop
    rw [hop]
    cases mo <;> try rfl
    exfalso
    obtain ⟨c, x, h1, h2, h3, -, -⟩ := callv_inv hco
    rw [h1] at hn
    simp only [isCallV, h2] at hn
    cases x <;> simp at hn
    all_goals exact h3 _ rfl
theorem bindL_one {α : Type} : ∀ l : List α, bindL (fun st => some [st]) l = some l
  | [] => rfl
  | a :: l => by simp only [bindL, bindL_one l]; rfl
theorem evRI_pre : ∀ (pre gs : List GO) (st : ISt), (∀ g ∈ pre, isCv g.op = false) → evRI O (pre ++ gs) st = (evR (lkn st.ln) O pre ⟨st.s, st.h⟩).bind fun st' => evRI O gs ⟨st'.s, st'.h, st.ln, st.xs, st.stop⟩
  | [], gs, st, _ => rfl
  | g :: pre, gs, st, h => by
    have hg := h g List.mem_cons_self
    have hy : isY st.s g.op = none := by
      unfold isY
      split
      · rename_i e; rw [e] at hg; cases hg
      · rfl
    simp only [List.cons_append, evRI, evR]
    have e1 : evGI O g st = (evG (lkn st.ln) O g ⟨st.s, st.h⟩).map fun st' => [⟨st'.s, st'.h, st.ln, st.xs, st.stop⟩] := by
      unfold evGI
      rw [hy]
      split
      · rename_i h2; cases h2
      · rfl
    rw [e1]
    cases hev : evG (lkn st.ln) O g ⟨st.s, st.h⟩ with
    | none => rfl
    | some st1 =>
      simp only [Option.map_some, bindL, Option.bind_some]
      rw [evRI_pre pre gs ⟨st1.s, st1.h, st.ln, st.xs, st.stop⟩ fun g hg => h g (List.mem_cons_of_mem _ hg)]
      simp only
      cases (evR (lkn st.ln) O pre ⟨st1.s, st1.h⟩).bind fun st' => evRI O gs ⟨st'.s, st'.h, st.ln, st.xs, st.stop⟩ with
      | none => rfl
      | some r => simp
theorem codeI_seal {c : Code} {mc : MC} {t : Nat} : CodeI P O N full l S J Jx c (.give t mc) := by
  intro st outs he
  simp [evI] at he
theorem compC_itok (hm : P.follows .mixedOrders = true) (hO : SoundO P O) (hA : AppO O) (hH : ItH P full l S J Jx) : ∀ (c : Code) (mc : MC), compC P c = mc.strip → seqY P c = true → CodeI P O N full l S J Jx c mc := by
  have bad : ∀ (c : Code) (mc : MC), mc.strip = .bad → CodeI P O N full l S J Jx c mc := fun c mc h => by
    refine ungive (x := .bad) (fun t m _ => codeI_seal) ?_ mc h.symm
    clear h mc
    intro mc h hns
    cases mc <;> simp [MC.strip, MC.isSeal] at h hns
    intro st outs he
    simp [evI] at he
  intro c
  induction c with
  | skip =>
    refine fun mc h _ => ungive (fun t m _ => codeI_seal) ?_ mc h; clear h mc; intro mc h hns; simp only [compC] at h; cases mc <;> simp [MC.strip, MC.isSeal] at h hns
    intro st outs he hpre n a w Q hR hQ
    simp only [evI, Option.some.injEq] at he; subst he
    exact wpIn_skip (hQ _ List.mem_cons_self a w hR)
  | ret =>
    refine fun mc h _ => ungive (fun t m _ => codeI_seal) ?_ mc h; clear h mc; intro mc h hns; simp only [compC] at h; cases mc <;> simp [MC.strip, MC.isSeal] at h hns
    intro st outs he hpre n a w Q hR hQ
    simp only [evI, Option.some.injEq] at he; subst he
    exact wpIn_ret (hQ _ List.mem_cons_self a w hR)
  | exit id =>
    refine fun mc h _ => ungive (fun t m _ => codeI_seal) ?_ mc h; clear h mc; intro mc h hns; simp only [compC] at h; cases mc <;> simp [MC.strip, MC.isSeal] at h hns; subst h
    intro st outs he hpre n a w Q hR hQ
    simp only [evI, Option.some.injEq] at he; subst he
    exact wpIn_exit (hQ _ List.mem_cons_self a w hR)
  | region id ops draw =>
    intro mc h hy
    refine ungive (fun t m _ => codeI_seal) ?_ mc h
    clear h mc
    intro mc h hns
    simp only [compC] at h
    split at h
    case h_2 => exact bad _ mc h.symm
    rename_i gl hg
    obtain ⟨q1, q2⟩ := mapM_some hg
    have hno : (ops.toList.all fun o => !isCallV o.op) = true ∨ draw = false ∨ (draw = true ∧ drawOk ops gl = true ∧ (ops.toList.dropLast.all fun o => !isCallV o.op) = true ∧ ∀ j, j < ops.size - 1 → rch ops ops.size (ops.size - 1) j = true) := by
      simp only [seqY] at hy
      rw [Bool.or_eq_true, Bool.or_eq_true] at hy
      rcases hy with (hy | hy) | hy
      · exact .inr (.inl (by simpa using hy))
      · exact .inl hy
      · cases hdr : draw
        · exact .inr (.inl rfl)
        · unfold lastY at hy
          rw [hg] at hy
          simp only [Bool.and_eq_true] at hy
          exact .inr (.inr ⟨rfl, hy.1.1, hy.1.2, fun j hj => List.all_eq_true.1 hy.2 j (List.mem_range.2 hj)⟩)
    split at h
    · rename_i hdr
      rw [Bool.and_eq_true, Bool.not_eq_true'] at hdr
      obtain ⟨hdr1, hdr2⟩ := hdr
      have hall : (ops.toList.all fun o => !isCallV o.op) = true := by
        rcases hno with h | h | h
        · exact h
        · rw [hdr1] at h; cases h
        · rw [hdr2] at h; cases h.2.1
      have hl0 : (virt ops gl).length = ops.size := virt_len (by rw [← q1]; simp)
      have hcv : ∀ (i : Nat) g, (virt ops gl)[i]? = some g → isCv g.op = false := fun i g hi => by
        have hi2 : i < ops.toList.length := by
          have := (List.getElem?_eq_some_iff.1 hi).1
          rw [hl0] at this
          simpa using this
        rcases virt_comp hg i ops.toList[i] g (by simp) hi with hc | ⟨_, _, _, _, _, _, _, _, rfl⟩
        · exact isCv_of hc (by simpa using List.all_eq_true.1 hall _ (List.getElem_mem hi2))
        · rfl
      subst hdr1
      split at h
      · rename_i hv
        cases mc <;> simp [MC.strip, MC.isSeal] at h hns
        subst h
        intro st outs he hpre n a w Q hR hQ
        simp only [evI] at he
        have hnoY : hasY (virt ops gl) = false := by
          unfold hasY
          rw [List.any_eq_false]
          intro g hg1
          obtain ⟨i, hi⟩ := List.getElem?_of_mem hg1
          rw [hcv i g hi]; simp
        rw [if_neg (by simp [hnoY])] at he
        rw [Option.map_eq_some_iff] at he
        obtain ⟨st', he, rfl⟩ := he
        obtain ⟨E, E1, w1, T, hs, hr, hyl, hx, hn, hS1, hK1, hT, hJx, hJ, hdf⟩ := hR
        have key : ∀ a' w' E', Slots E' w' st'.s a' → HRel E' st'.h w' → Ext (lkn st.ln) E w E' w' → a'.defers = a.defers → Q .normal a' w' := fun a' w' E' h1 h2 h3 h4 =>
          hQ _ List.mem_cons_self a' w' ⟨E', E1, w1, T, h1, h2, by rw [h3.yl]; exact hyl, hx.trans h3, hn, hS1, hK1, hT, hJx, hJ, h4.trans hdf⟩
        exact draw_okV hm hO hA hl0 (virt_comp hg) hv he hs hr key
      · split at h
        case isFalse => exact bad _ mc h.symm
        rename_i hv2
        cases mc <;> simp [MC.strip, MC.isSeal] at h hns
        subst h
        intro st outs he hpre n a w Q hR hQ
        simp only [evI] at he
        have hnoY : hasY (newsL (ops.toList.zip (virt ops gl)) ++ (hoist ops (virt ops gl) ++ chks ops (hoist ops (virt ops gl)))) = false := by
          unfold hasY
          rw [List.any_eq_false]
          intro g hg1
          rcases List.mem_append.1 hg1 with h1 | h1
          · obtain ⟨p, hp1, rfl⟩ := List.mem_map.1 h1
            obtain ⟨_, d, z, e⟩ := isH_iff (List.mem_filter.1 hp1).2
            rw [e]; simp [isCv]
          · rcases List.mem_append.1 h1 with h1 | h1
            · obtain ⟨i, hi⟩ := List.getElem?_of_mem h1
              simp only [hoist, List.getElem?_zipWith] at hi
              cases h2 : ops.toList[i]? with
              | none => rw [h2] at hi; cases hi
              | some o =>
                cases h3 : (virt ops gl)[i]? with
                | none => rw [h2, h3] at hi; cases hi
                | some g0 =>
                  rw [h2, h3] at hi
                  simp only [Option.some.injEq] at hi
                  subst hi
                  unfold hoG
                  split
                  · split
                    · simp [isCv]
                    · rw [hcv i g0 h3]; simp
                  · rw [hcv i g0 h3]; simp
            · unfold chks at h1
              simp only [List.mem_flatMap] at h1
              obtain ⟨i, _, j, _, h1⟩ := h1
              split at h1
              · rw [List.mem_singleton] at h1; subst h1; simp [isCv]
              · cases h1
        rw [if_neg (by simp [hnoY])] at he
        rw [Option.map_eq_some_iff] at he
        obtain ⟨st', he, rfl⟩ := he
        obtain ⟨E, E1, w1, T, hs, hr, hyl, hx, hn, hS1, hK1, hT, hJx, hJ, hdf⟩ := hR
        have key : ∀ a' w' E', Slots E' w' st'.s a' → HRel E' st'.h w' → Ext (lkn st.ln) E w E' w' → a'.defers = a.defers → Q .normal a' w' := fun a' w' E' h1 h2 h3 h4 =>
          hQ _ List.mem_cons_self a' w' ⟨E', E1, w1, T, h1, h2, by rw [h3.yl]; exact hyl, hx.trans h3, hn, hS1, hK1, hT, hJx, hJ, h4.trans hdf⟩
        exact draw_okH hm hO hA hl0 (virt_comp hg) hv2 he hs hr key
    rename_i hd
    cases mc <;> simp [MC.strip, MC.isSeal] at h hns
    subst h
    intro st outs he hpre n a w Q hR hQ
    simp only [evI] at he
    split at he
    · rename_i hy2
      rw [Option.map_eq_some_iff] at he
      obtain ⟨l1, he, rfl⟩ := he
      cases draw with
      | false =>
        exact wpIn_region_list (evRI_ok hO hH hg he (fun st' h => hpre (.normal, st') (List.mem_map.2 ⟨st', h, rfl⟩)) hR fun st' h => hQ (.normal, st') (List.mem_map.2 ⟨st', h, rfl⟩))
      | true =>
        have hcv2 : ∀ (i : Nat) g (hi : i < ops.toList.length), gl[i]? = some g → isCallV ops.toList[i].op = false → isCv g.op = false := fun i g hi hgi hcl => isCv_of (q2 i ops.toList[i] g (by simp) hgi) hcl
        obtain ⟨g0, hg1, hg2⟩ := List.any_eq_true.1 hy2
        obtain ⟨i0, hi0⟩ := List.getElem?_of_mem hg1
        have hil0 : i0 < ops.toList.length := by rw [q1]; exact (List.getElem?_eq_some_iff.1 hi0).1
        rcases hno with h | h | ⟨_, hdk, hpre0, hw⟩
        · exfalso
          have := hcv2 i0 g0 hil0 hi0 (by simpa using List.all_eq_true.1 h _ (List.getElem_mem hil0))
          rw [this] at hg2; cases hg2
        · cases h
        · have hne : gl ≠ [] := fun e => by rw [e] at hi0; simp at hi0
          have hgl : gl = gl.dropLast ++ [gl.getLast hne] := (List.dropLast_concat_getLast hne).symm
          have hpl : gl.dropLast.length = ops.size - 1 := by rw [List.length_dropLast, ← q1]; simp
          have hpos : 0 < ops.size := by have : ops.toList.length = ops.size := by simp
                                         omega
          have hpcv : ∀ g ∈ gl.dropLast, isCv g.op = false := fun g hg => by
            obtain ⟨i, hi⟩ := List.getElem?_of_mem hg
            have hil := (List.getElem?_eq_some_iff.1 hi).1
            have hi2 : i < ops.toList.length := by simp; omega
            refine hcv2 i g hi2 (by rw [hgl, List.getElem?_append_left hil]; exact hi) ?_
            have hm2 : ops.toList[i] ∈ ops.toList.dropLast := by
              have e : ops.toList.dropLast[i]? = some ops.toList[i] := by rw [List.getElem?_dropLast, if_pos (by simp; omega)]; simp
              exact List.mem_of_getElem? e
            simpa using List.all_eq_true.1 hpre0 _ hm2
          have hgcv : isCv (gl.getLast hne).op = true := by
            rw [hgl] at hg1
            rcases List.mem_append.1 hg1 with h1 | h1
            · rw [hpcv g0 h1] at hg2; cases hg2
            · rw [List.mem_singleton] at h1; rw [← h1]; exact hg2
          generalize hpe : gl.dropLast = pre at *
          generalize gl.getLast hne = gY at *
          subst hgl
          have hlast : ops[pre.length]? = some ops[pre.length] := by first | (simp [hpl]; done) | (simp [hpl]; omega)
          have hcl : compG P ops ops[pre.length] = some gY := q2 pre.length _ gY (by first | (simp [hpl]; done) | (simp [hpl]; omega)) (by simp)
          rw [evRI_pre pre [gY] st hpcv, Option.bind_eq_some_iff] at he
          obtain ⟨st1, he1, he2⟩ := he
          have he3 : evGI O gY ⟨st1.s, st1.h, st.ln, st.xs, st.stop⟩ = some l1 := by
            simp only [evRI] at he2
            split at he2
            case h_2 => cases he2
            rename_i l2 hl2
            rw [bindL_one l2] at he2
            cases he2
            exact hl2
          obtain ⟨E, E1, w1, T, hs, hr, hyl, hx, hn, hS1, hK1, hT, hJx, hJ, hdf⟩ := hR
          refine draw_last hm hO hA (by omega) hgcv (fun j hj => by rw [hpl]; exact hw j (by omega)) (fun i o go h1 h2 => q2 i o go (by simpa using h1) (by rw [List.getElem?_append_left (List.getElem?_eq_some_iff.1 h2).1]; exact h2)) hdk he1 hs hr fun a' w' E' h1 h2 h3 h4 => ?_
          unfold wpOpIn
          rw [hlast]
          exact evGI_ok hO hH hcl he3 (fun st' h => hpre (.normal, st') (List.mem_map.2 ⟨st', h, rfl⟩)) ⟨E', E1, w1, T, h1, h2, by rw [h3.yl]; exact hyl, hx.trans h3, hn, hS1, hK1, hT, hJx, hJ, h4.trans hdf⟩ fun st' h => hQ (.normal, st') (List.mem_map.2 ⟨st', h, rfl⟩)
    · rw [Option.map_eq_some_iff] at he
      obtain ⟨st', he, rfl⟩ := he
      obtain ⟨E, E1, w1, T, hs, hr, hyl, hx, hn, hS1, hK1, hT, hJx, hJ, hdf⟩ := hR
      have key : ∀ a' w' E', Slots E' w' st'.s a' → HRel E' st'.h w' → Ext (lkn st.ln) E w E' w' → a'.defers = a.defers → Q .normal a' w' := fun a' w' E' h1 h2 h3 h4 =>
        hQ _ List.mem_cons_self a' w' ⟨E', E1, w1, T, h1, h2, by rw [h3.yl]; exact hyl, hx.trans h3, hn, hS1, hK1, hT, hJx, hJ, h4.trans hdf⟩
      cases draw with
      | false => exact wpIn_region_list (evR_ok hO hg he hs hr key)
      | true => exact draw_ok hm hO hA hg (by simpa using hd) he hs hr key
  | seq a b iha ihb =>
    intro mc h hy
    refine ungive (fun t m _ => codeI_seal) ?_ mc h
    clear h mc
    intro mc h hns
    simp only [compC] at h; cases mc <;> simp [MC.strip, MC.isSeal] at h hns
    simp only [seqY, Bool.and_eq_true] at hy
    intro st outs he hpre n a' w Q hR hQ
    simp only [evI] at he
    split at he
    case h_2 => cases he
    rename_i l1 hl1
    refine wpIn_seq (iha _ h.1 hy.1 st l1 hl1 (pre_cont (fun st outs h => evI_goes _ st outs h) he hpre) n a' w _ hR fun o ho a2 w2 hR2 => ?_)
    obtain ⟨r, h4, h5⟩ := bindL_some he o ho
    obtain ⟨x, st'⟩ := o
    cases x with
    | normal => exact ihb _ h.2 hy.2 st' r h4 (fun o ho => hpre o (h5 o ho)) n a2 w2 Q hR2 fun o ho => hQ o (h5 o ho)
    | exit id =>
      simp only [contI, Option.some.injEq] at h4
      subst h4
      exact hQ _ (h5 _ (by simp)) a2 w2 hR2
    | ret =>
      simp only [contI, Option.some.injEq] at h4
      subst h4
      exact hQ _ (h5 _ (by simp)) a2 w2 hR2
  | cond c a b iha ihb =>
    intro mc h hy
    refine ungive (fun t m _ => codeI_seal) ?_ mc h
    clear h mc
    intro mc h hns
    simp only [compC] at h
    split at h
    case h_2 => exact bad _ mc h.symm
    rename_i c' hc
    cases mc <;> simp [MC.strip, MC.isSeal] at h hns
    obtain ⟨rfl, h1, h2⟩ := h
    simp only [seqY, Bool.and_eq_true] at hy
    intro st outs he hpre n a' w Q hR hQ
    simp only [evI] at he
    obtain ⟨E, hrest⟩ := hR
    have hv := (hrest.choose_spec.choose_spec.choose_spec.1).x hc
    split at he
    case h_2 => cases he
    rename_i t ht
    rw [ht] at hv
    refine wpIn_cond hv.lit_eq ?_
    cases t
    · exact ihb _ h2 hy.2 st outs he hpre n a' w Q ⟨E, hrest⟩ hQ
    · exact iha _ h1 hy.1 st outs he hpre n a' w Q ⟨E, hrest⟩ hQ
  | block id b ih =>
    intro mc h hy
    refine ungive (fun t m _ => codeI_seal) ?_ mc h
    clear h mc
    intro mc h hns
    simp only [compC] at h; cases mc <;> simp [MC.strip, MC.isSeal] at h hns; obtain ⟨rfl, h⟩ := h
    simp only [seqY] at hy
    intro st outs he hpre n a' w Q hR hQ
    simp only [evI, Option.map_eq_some_iff] at he
    obtain ⟨l1, hl1, rfl⟩ := he
    have same : ∀ o : MX2 × ISt, (leaveB id o).2 = o.2 := fun o => by unfold leaveB; split; split <;> rfl; rfl
    refine wpIn_block (ih _ h hy st l1 hl1 (fun o ho hs => ?_) n a' w _ hR fun o ho a2 w2 hR2 => ?_)
    · have := hpre _ (List.mem_map.2 ⟨o, ho, rfl⟩)
      rw [same] at this
      exact this hs
    · have := hQ _ (List.mem_map.2 ⟨o, ho, rfl⟩) a2 w2 (by rw [same]; exact hR2)
      obtain ⟨x, st'⟩ := o
      cases x with
      | normal => simpa [leaveB, exitOf, Exit.inBlock] using this
      | ret => simpa [leaveB, exitOf, Exit.inBlock] using this
      | exit k =>
        by_cases e : k = id
        · simpa [leaveB, exitOf, Exit.inBlock, e] using this
        · simpa [leaveB, exitOf, Exit.inBlock, e] using this
  | loop b ih =>
    intro mc h hy
    refine ungive (fun t m _ => codeI_seal) ?_ mc h
    clear h mc
    intro mc h hns
    simp only [compC] at h; cases mc <;> simp [MC.strip, MC.isSeal] at h hns
    simp only [seqY] at hy
    rename_i keep mb
    intro st outs he hpre n a' w Q hR hQ
    simp only [evI] at he
    refine wpIn_loop_rounds N ?_
    have key : ∀ (M : Nat) (st1 : ISt) (outs1 : List (MX2 × ISt)) (a1 : Act) (w1 : World), roundsI (evI O N mb) M st1 = some outs1 → (∀ o ∈ outs1, o.2.stop = false → o.2.xs <+: full) → RelI l S J Jx st1 a1 w1 → (∀ o ∈ outs1, ∀ a' w', RelI l S J Jx o.2 a' w' → Q (exitOf o.1) a' w') →
        Code.roundsIn (Fw none) n P b Q M a1 w1 := by
      intro M
      induction M with
      | zero => intro st1 outs1 a1 w1 he; simp [roundsI] at he
      | succ M ihM =>
        intro st1 outs1 a1 w1 he hpre hR1 hQ1
        simp only [roundsI] at he
        split at he
        case h_2 => cases he
        rename_i l1 hl1
        rw [roundsIn_succ]
        refine ih _ h hy st1 l1 hl1 (pre_cont (fun st outs h => Goes.rounds (fun st outs h => evI_goes _ st outs h) M st outs h) he hpre) n a1 w1 _ hR1 fun o ho a2 w2 hR2 => ?_
        obtain ⟨r, h4, h5⟩ := bindL_some he o ho
        obtain ⟨x, st'⟩ := o
        cases x with
        | normal => exact ihM st' r a2 w2 h4 (fun o ho => hpre o (h5 o ho)) hR2 fun o ho => hQ1 o (h5 o ho)
        | exit id =>
          simp only [contI, Option.some.injEq] at h4
          subst h4
          exact hQ1 _ (h5 _ (by simp)) a2 w2 hR2
        | ret =>
          simp only [contI, Option.some.injEq] at h4
          subst h4
          exact hQ1 _ (h5 _ (by simp)) a2 w2 hR2
    exact key N st outs a' w he hpre hR hQ
  | rangeFunc f ps a b iha ihb =>
    intro mc h hy
    refine ungive (fun t m _ => codeI_seal) ?_ mc h
    clear h mc
    intro mc h hns
    simp only [compC] at h
    split at h
    case h_2 => exact bad _ mc h.symm
    cases mc <;> simp [MC.strip, MC.isSeal] at h hns
    intro st outs he
    simp [evI] at he
  | _ => intro mc h _; exact bad _ mc h.symm
end
end Go.Proofs.Ytgjpdjihjphbdaa
namespace Go.Proofs.Ytgjpdjihjphbdaa
open Go.RowKit
def outX : MX2 → Bool
  | .exit _ => false
  | _ => true
def itM (O : Oracle) (N : Nat) (mf : MF) (q : Nat) (caps : List MV) (h : MHeap) : Option (List (List MV)) :=
  let ids := caps.flatMap (MV.ids h 6)
  match caps.mapM (frz 0 ((List.range h.length).filter fun i => !ids.contains i) h 8) with
  | some cs => match mf.res, evI O N mf.body ⟨cs.take q ++ [.yld] ++ cs.drop q ++ List.replicate (mf.ntmps - (cs.length + 1)) (.lit undef), [], 0, [], false⟩ with
    | [], some outs => if outs.all fun o => outX o.1 then match outs.filter fun o => !o.2.stop with
        | [o] => if o.2.xs.all fun x => x.all MV.cl then some o.2.xs else none
        | _ => none
      else none
    | _, _ => none
  | none => none
def bodySeq (P : Program) (g : Nat) : Bool :=
  match P.funcs[g]? with
  | some fn => match fn.body with
    | some b => seqY P b
    | none => false
  | none => false
theorem SoundI_one {P : Program} {O : Oracle} {N : Nat} (hm : P.follows .mixedOrders = true) (hO : SoundO P O) (hA : AppO O) {g : Nat} {mf : MF} (hf : IsF P g mf) (hsq : bodySeq P g = true) {q : Nat} {caps : List MV} {h : MHeap} {xs : List (List MV)} (he : itM O N mf q caps h = some xs) :
    (∀ x ∈ xs, ∀ m ∈ x, m.cl = true) ∧ ∀ E w vs, HRel E h w → Vs E w caps vs →
    ∃ S : Nat → Prop, (∀ k, S k → E.S k ∨ ∃ id, id ∈ caps.flatMap (MV.ids h 6) ∧ E.K id ∧ 0 < E.cp id ∧ E.ρ id = k) ∧ IterK P g (vs.take q).toArray (vs.drop q).toArray (xs.map fun x => (x.map concV).toArray) S w := by
  obtain ⟨fn, b, h1, h2, h3, h4, h5⟩ := hf
  have hsb : seqY P b = true := by unfold bodySeq at hsq; rw [h1] at hsq; simp only [h2] at hsq; exact hsq
  unfold itM at he
  dsimp only at he
  split at he
  case h_2 => cases he
  rename_i cs hcs
  split at he
  case h_2 => cases he
  rename_i outs hres hev
  split at he
  case isFalse => cases he
  rename_i hout
  split at he
  case h_2 => cases he
  rename_i o hfil
  split at he
  case isFalse => cases he
  rename_i hcl
  cases he
  have hin : o ∈ outs ∧ o.2.stop = false := by
    have : o ∈ outs.filter fun o => !o.2.stop := by rw [hfil]; simp
    simpa using List.mem_filter.1 this
  have hone : ∀ p ∈ outs, p.2.stop = false → p = o := fun p hp hs => by
    have : p ∈ outs.filter fun o => !o.2.stop := List.mem_filter.2 ⟨hp, by simp [hs]⟩
    rw [hfil] at this
    simpa using this
  refine ⟨fun x hx m hmx => List.all_eq_true.1 (List.all_eq_true.1 hcl x hx) m hmx, fun E w vs hr hv => ⟨fun k => E.S k ∨ ∃ id, id ∈ caps.flatMap (MV.ids h 6) ∧ E.K id ∧ 0 < E.cp id ∧ E.ρ id = k, fun k hk => hk, ?_⟩⟩
  obtain ⟨S, hS⟩ : ∃ S : Nat → Prop, S = fun k => E.S k ∨ ∃ id, id ∈ caps.flatMap (MV.ids h 6) ∧ E.K id ∧ 0 < E.cp id ∧ E.ρ id = k := ⟨_, rfl⟩
  rw [← hS]
  intro l J Jx W hb ab abx hyield h0
  obtain ⟨Ei, hEi⟩ : ∃ Ei : Env, Ei = { E.res 0 with S := S, top := 0, yl := l } := ⟨_, rfl⟩
  have hVi : ∀ m v, V E w m v → m.lt 0 = true → V Ei w m v := fun m v hv hl => by
    have := V.resY l hv hl
    refine V.env ⟨fun b hb => ?_, fun id hk => ?_, ?_⟩ this
    · rw [hEi, hS]; exact Or.inl hb
    · rw [hEi]; exact ⟨hk, rfl, rfl, rfl, rfl, rfl, rfl, rfl⟩
    · rw [hEi]
  have hck : CKd 0 w W := CKd.of_below hb
  obtain ⟨c1, c2⟩ := mapM_some hcs
  have hcv : Vs Ei W cs vs := ⟨by rw [← c1]; exact hv.1, fun i c v hc hx => by
    have hi : i < caps.length := by rw [c1]; exact (List.getElem?_eq_some_iff.1 hc).1
    have hci : caps[i]? = some caps[i] := by simp
    refine V.ck hck (frz_okG (Es := Ei) hr hVi (fun b hb => by rw [hEi, hS]; exact Or.inl hb) (fun id hk _ hni hc0 => ?_) 8 _ _ _ (hv.2 i _ v hci hx) (c2 i _ c hci hc))
    rw [hEi, hS]
    refine Or.inr ⟨id, ?_, hk, hc0, rfl⟩
    have hlt := hr.klt id hk
    refine Classical.byContradiction fun hn => hni (List.mem_filter.2 ⟨List.mem_range.2 hlt, ?_⟩)
    simpa using hn⟩
  have hSlt : ∀ k, S k → k < w.heap.size := fun k hk => by
    rw [hS] at hk
    rcases hk with hk | ⟨id, _, hk, hc, rfl⟩
    · exact hr.slt k hk
    · exact hr.lt hk hc
  have hri : HRel Ei [] W := ⟨fun id hk => by rw [hEi] at hk; exact absurd hk.2 (by omega), by rw [hEi]; exact Nat.le_refl _, fun id hk => by rw [hEi] at hk; exact absurd hk.2 (by omega), fun id _ hk => by rw [hEi] at hk; exact absurd hk.2 (by omega), fun id hk => by rw [hEi] at hk; exact absurd hk.2 (by omega), fun b hbS => by
    rw [hEi] at hbS
    exact Nat.lt_of_lt_of_le (hSlt b hbS) hb.size⟩
  have hargs : Vs Ei W (cs.take q ++ [.yld] ++ cs.drop q) (vs.take q ++ [.func (.yield l) #[] #[]] ++ vs.drop q) := by
    refine ((hcv.take q).append (Vs.cons ?_ ⟨rfl, fun i c v hc => by simp at hc⟩)).append (hcv.drop q)
    have : Ei.yl = l := by rw [hEi]
    rw [← this]
    exact .yld
  have hlen : (cs.take q ++ [MV.yld] ++ cs.drop q).length = cs.length + 1 := by simp; omega
  have hlen2 : (vs.take q ++ [Value.func (.yield l) #[] #[]] ++ vs.drop q).length = vs.length + 1 := by simp; omega
  have e1 : (vs.take q).toArray ++ #[Value.func (.yield l) #[] #[]] ++ (vs.drop q).toArray = (vs.take q ++ [Value.func (.yield l) #[] #[]] ++ vs.drop q).toArray := by apply Array.ext'; simp
  rw [e1]
  refine callsIn_of_wp h1 h2 trivial ?_ rfl
  refine compC_itok (full := o.2.xs) (l := l) (S := S) (J := J) (Jx := Jx) (N := N) hm hO hA ⟨ab, abx, hyield⟩ b mf.body h5 hsb _ outs hev (fun p hp hs => by rw [hone p hp hs]; exact List.prefix_refl _) 0 _ W _ ?_ fun p hp a' w' hR' => ?_
  · refine ⟨Ei, Ei, W, fun _ => False, ⟨?_, fun i c v hc hcv' => ?_⟩, hri, by rw [hEi], Ext.refl _ _ _, fun id hk => by rw [hEi] at hk; exact hk.2, fun b hbS => .inl (by rw [hEi] at hbS; exact hbS), fun id hk => by rw [hEi] at hk; exact absurd hk.2 (by omega), fun b hb => hb.elim, (fun h => by cases h), (fun _ => h0), rfl⟩
    · rw [List.length_append, hlen, h3]
      simp only [List.length_replicate, Array.size_append, List.size_toArray, hlen2, Array.size_replicate]
      rw [hcv.1]
    · by_cases hi : i < cs.length + 1
      · rw [List.getElem?_append_left (by rw [hlen]; exact hi)] at hc
        have hi' : i < (vs.take q ++ [Value.func (.yield l) #[] #[]] ++ vs.drop q).length := by rw [hlen2, ← hcv.1]; exact hi
        simp only [Array.getElem?_append, List.size_toArray, hi', if_true] at hcv'
        exact hargs.2 i c v hc (by simpa using hcv')
      · rw [List.getElem?_append_right (by rw [hlen]; omega)] at hc
        have hi' : ¬ i < (vs.take q ++ [Value.func (.yield l) #[] #[]] ++ vs.drop q).length := by rw [hlen2, ← hcv.1]; exact hi
        simp only [Array.getElem?_append, List.size_toArray, hi', if_false] at hcv'
        rw [List.getElem?_replicate] at hc
        rw [Array.getElem?_replicate] at hcv'
        split at hc
        · split at hcv'
          · cases hc; cases hcv'; exact .lit _
          · cases hcv'
        · cases hc
  · obtain ⟨E', E1, w1, T, k1, k2, k3, k4, k5, k6, k7, k8, k9, k10, k11⟩ := hR'
    have hbel := ext_below k4 k5
    have hrz : fn.results = #[] := by
      rw [hres] at h4
      have := (mapM_some h4).1
      simp at this
      exact this
    have hgo : (∃ v, Ending.returned (.tuple #[]) = .returned v) ∧ ((∃ T, J T (List.map (fun x => (List.map concV x).toArray) o.2.xs).length w') ∨ Jx w') := by
      refine ⟨⟨_, rfl⟩, ?_⟩
      cases hs : p.2.stop
      · have := hone p hp hs
        subst this
        refine .inl ⟨T, ?_⟩
        rw [List.length_map]
        exact ab T T _ _ _ (k10 hs) hbel fun b h => .inl h
      · exact .inr (abx _ _ (k9 hs) hbel)
    have hx := List.all_eq_true.1 hout p hp
    obtain ⟨x, st'⟩ := p
    cases x with
    | normal => exact bodyPost_end (results_none hrz _ _ _) k11 hgo
    | ret => exact bodyPost_ret (results_none hrz _ _ _) k11 hgo
    | exit id => simp [outX] at hx
structure Tab where
  mf : Nat → Option MF
  sq : Nat → Bool
def orI (M : Tab) (I0 : Iter) (O : Oracle) (N : Nat) : Iter := fun g q caps h =>
  match I0 g q caps h with
  | some xs => some xs
  | none => if M.sq g then match M.mf g with
    | some mf => itM O N mf q caps h
    | none => none else none
def TabOK (P : Program) (M : Tab) : Prop := ∀ f mf, M.mf f = some mf → hasBody P f = true ∧ IsF P f mf ∧ (M.sq f = true → bodySeq P f = true)
theorem orI_ok {P : Program} {M : Tab} (hm : P.follows .mixedOrders = true) (hM : TabOK P M) {I0 : Iter} (hI : SoundI P I0) {O : Oracle} (hO : SoundO P O) (hA : AppO O) {N : Nat} : SoundI P (orI M I0 O N) := by
  intro g q caps h xs he
  unfold orI at he
  split at he
  · rename_i xs' hx
    cases he
    exact hI g q caps h xs hx
  · split at he
    case isFalse => cases he
    rename_i hs
    split at he
    case h_2 => cases he
    rename_i mf hmf
    obtain ⟨k1, k2, k3⟩ := hM g mf hmf
    exact ⟨k1, SoundI_one hm hO hA k2 (k3 hs) he⟩
def noI : Iter := fun _ _ _ _ => none
def tabOf (P : Program) : Tab := ⟨fun f => if hasBody P f then compF P f else none, bodySeq P⟩
theorem tabOf_ok (P : Program) : TabOK P (tabOf P) := fun f mf h => by
  simp only [tabOf] at h
  split at h
  · rename_i hb
    exact ⟨hb, compF_isF h, fun h => h⟩
  · cases h
end Go.Proofs.Ytgjpdjihjphbdaa
namespace Go.Proofs.Ytgjpdjihjphbdaa
open Go.RowKit
set_option linter.unusedVariables false
mutual
def MV.pure : MV → Bool
  | .lit _ | .junk => true
  | .agg cs => pureL cs
  | .tup vs => pureL vs
  | .fn _ _ cs => pureL cs
  | .sl [] => true
  | _ => false
def pureL : List MV → Bool
  | [] => true
  | v :: vs => v.pure && pureL vs
end
theorem pureL_at : ∀ {l : List MV}, pureL l = true → ∀ (i : Nat) m, l[i]? = some m → m.pure = true
  | [], h, i, m, hi => by simp at hi
  | v :: vs, h, 0, m, hi => by simp at hi; subst hi; simp only [pureL, Bool.and_eq_true] at h; exact h.1
  | v :: vs, h, i + 1, m, hi => by simp at hi; simp only [pureL, Bool.and_eq_true] at h; exact pureL_at h.2 i m hi
theorem V.pure {E E2 : Env} {w w2 : World} {m : MV} {v : Value} (hv : V E w m v) : m.pure = true → V E2 w2 m v := by
  induction hv with
  | junk v => exact fun _ => .junk v
  | lit v => exact fun _ => .lit v
  | agg cs vs hl _ ih => exact fun h => .agg cs vs hl fun i c v hc hx => ih i c v hc hx (by simp only [MV.pure] at h; exact pureL_at h i c hc)
  | tup cs vs hl _ ih => exact fun h => .tup cs vs hl fun i c v hc hx => ih i c v hc hx (by simp only [MV.pure] at h; exact pureL_at h i c hc)
  | fn f k cs vs hl _ ih => exact fun h => .fn f k cs vs hl fun i c v hc hx => ih i c v hc hx (by simp only [MV.pure] at h; exact pureL_at h i c hc)
  | sl es vs A cap sz hc hs hl _ _ _ =>
    intro h
    cases es with
    | nil => exact .sl [] vs A cap sz hc hs hl (fun i c v hc => by simp [flat] at hc) (fun h0 => absurd h0 (by simp))
    | cons e es => simp [MV.pure] at h
  | _ => intro h; simp [MV.pure] at h
theorem pure_cells {m : MV} (h : m.pure = true) : ∀ (i : Nat) c, m.cells[i]? = some c → c.pure = true := by
  intro i c hc
  cases m <;> simp only [MV.cells] at hc
  case agg cs => simp only [MV.pure] at h; exact pureL_at h i c hc
  all_goals
    cases i with
    | zero => simp at hc; subst hc; exact h
    | succ i => simp at hc
def sh1 (n : Nat) : MV → MV
  | .arr id i k g => .arr (id + n) i k g
  | m => m
def shV (n : Nat) : MV → MV
  | .tup vs => .tup (vs.map (sh1 n))
  | m => sh1 n m
def ok1 (p : Bool) : MV → Bool
  | .arr _ _ _ _ => true
  | m => m.lt 0 && (p || m.pure)
def okV (p : Bool) : MV → Bool
  | .tup vs => vs.all (ok1 p)
  | m => ok1 p m
def okH (p : Bool) (news : MHeap) : Bool := news.all fun o => ltL 0 o.es && (p || pureL o.es)
def frzCall (run : List MV → Option (MV × MHeap)) (args : List MV) (h : MHeap) : Option (MV × MHeap) :=
  match args.mapM (frz 0 [] h 8) with
  | some args' => match run args' with
    | some (m, news) => if okV (ltL 0 args) m && okH (ltL 0 args) news then some (shV h.length m, h ++ news) else none
    | none => none
  | none => none
def Post (E : Env) (w : World) (m : MV) (h' : MHeap) (e : Ending) (w' : World) : Prop := ∃ v E', e = .returned v ∧ V E' w' m v ∧ HRel E' h' w' ∧ Ext (fun _ => true) E w E' w'
theorem frz_lt0 {h : MHeap} {m m' : MV} (hl : m.lt 0 = true) (he : frz 0 [] h 8 m = some m') : m' = m := by
  simp [frz, hl] at he
  exact he.symm
theorem post_back {E : Env} {h : MHeap} {w : World} {S0 : Nat → Prop} {news : MHeap} {m : MV} {e : Ending} {w' : World} {p : Bool} (hr : HRel E h w) (h1 : ∀ b, E.S b → S0 b) (h2 : ∀ b, S0 b → E.S b ∨ ∃ id, E.K id ∧ 0 < E.cp id ∧ E.ρ id = b)
    (hp : p = true → ∀ b, S0 b → E.S b) (hm : okV p m = true) (hn : okH p news = true) (hP : Post { E with K := fun _ => False, S := S0, top := 0 } w m news e w') : Post E w (shV h.length m) (h ++ news) e w' := by
  obtain ⟨v, E1, rfl, hv1, hr1, hx1⟩ := hP
  have hnew : ∀ id, E1.K id → 0 < E1.cp id → w.heap.size ≤ E1.ρ id := fun id hk hc => by
    rcases hx1.src id hk hc with ⟨hf, _⟩ | hge
    · exact hf.elim
    · exact hge
  have hkeep : ∀ k, k < w.heap.size → w'.heap[k]? = w.heap[k]? := fun k hk => hx1.keep k hk fun id hf => hf.elim
  have hS1 : ∀ b, E1.S b → S0 b ∨ w.heap.size ≤ b := fun b hb => by
    rcases hx1.srcS b hb with hb | ⟨id, hf, _⟩ | hb
    · exact .inl hb
    · exact hf.elim
    · exact .inr hb
  obtain ⟨E', hE'⟩ : ∃ E' : Env, E' = { S := fun b => E.S b ∨ (p = true ∧ E1.S b), K := fun id => E.K id ∨ (h.length ≤ id ∧ E1.K (id - h.length)), ρ := fun id => if id < h.length then E.ρ id else E1.ρ (id - h.length), bo := fun id => if id < h.length then E.bo id else E1.bo (id - h.length), cp := fun id => if id < h.length then E.cp id else E1.cp (id - h.length), sz := fun id => if id < h.length then E.sz id else E1.sz (id - h.length), gn := fun id => if id < h.length then E.gn id else E1.gn (id - h.length), ln := fun id => if id < h.length then E.ln id else E1.ln (id - h.length), nl := fun id => if id < h.length then E.nl id else E1.nl (id - h.length), top := E.top, yl := E.yl } := ⟨_, rfl⟩
  have eS : ∀ b, E'.S b ↔ E.S b ∨ (p = true ∧ E1.S b) := fun b => by rw [hE']
  have eK : ∀ id, E'.K id ↔ E.K id ∨ (h.length ≤ id ∧ E1.K (id - h.length)) := fun id => by rw [hE']
  have eold : ∀ id, E.K id → id < h.length ∧ E'.ρ id = E.ρ id ∧ E'.bo id = E.bo id ∧ E'.cp id = E.cp id ∧ E'.sz id = E.sz id ∧ E'.gn id = E.gn id ∧ E'.ln id = E.ln id ∧ E'.nl id = E.nl id := fun id hk => by
    have hl := hr.klt id hk
    rw [hE']; simp [hl]
  have enew : ∀ id, E'.ρ (id + h.length) = E1.ρ id ∧ E'.bo (id + h.length) = E1.bo id ∧ E'.cp (id + h.length) = E1.cp id ∧ E'.sz (id + h.length) = E1.sz id ∧ E'.gn (id + h.length) = E1.gn id ∧ E'.ln (id + h.length) = E1.ln id ∧ E'.nl (id + h.length) = E1.nl id := fun id => by
    have hl : ¬ id + h.length < h.length := by omega
    rw [hE']; simp [hl]
  have kcase : ∀ id, E'.K id → E.K id ∨ ∃ j, id = j + h.length ∧ E1.K j := fun id hk => by
    rcases (eK id).1 hk with hk | ⟨h1, h2⟩
    · exact .inl hk
    · exact .inr ⟨id - h.length, by omega, h2⟩
  have ey : E'.yl = E1.yl := by rw [hx1.yl, hE']
  have ey2 : E'.yl = E.yl := by rw [hE']
  have et : E'.top = E.top := by rw [hE']
  have hx : Ext (fun _ => true) E w E' w' := by
    refine ⟨hx1.os, hx1.tape, hx1.output, hx1.size, fun k hk _ => hkeep k hk, fun b hb => (eS b).2 (.inl hb), fun id hk => (eK id).2 (.inl hk), fun id hk => ?_, fun id hk _ => ?_, fun id hk hc => ?_, et, fun id hk => ?_, ey2, fun b hb => ?_⟩
    · obtain ⟨_, a1, a2, a3, a4, a5, a6, a7⟩ := eold id hk
      exact ⟨by omega, fun _ => ⟨a1, a2, a3, a4, a6, a7⟩⟩
    · exact (eold id hk).2.2.2.2.2.1
    · rcases kcase id hk with hk | ⟨j, rfl, hk'⟩
      · obtain ⟨_, a1, a2, a3, a4, a5, a6, a7⟩ := eold id hk
        exact .inl ⟨hk, by rw [← a3]; exact hc, a1⟩
      · obtain ⟨a1, a2, a3, _⟩ := enew j
        rw [a1]
        exact .inr (hnew j hk' (by rw [← a3]; exact hc))
    · rcases kcase id hk with hk | ⟨j, rfl, hk'⟩
      · exact .inl hk
      · exact .inr (by have := hr.top; omega)
    · rcases (eS b).1 hb with hb | ⟨hp1, hb⟩
      · exact .inl hb
      · rcases hS1 b hb with hb | hb
        · exact .inl (hp hp1 b hb)
        · exact .inr (.inr hb)
  have hT : ∀ c x, V E1 w' c x → c.lt 0 = true → (p || c.pure) = true → V E' w' c x := fun c x hc hl hpc => by
    cases hpp : p
    · rw [hpp] at hpc
      exact hc.pure (by simpa using hpc)
    · exact V.env (E := E1.res 0) ⟨fun b hb => (eS b).2 (.inr ⟨hpp, hb⟩), fun id hk => absurd hk.2 (by omega), ey⟩ (hc.res hl)
  have hT1 : ∀ c x, V E1 w' c x → ok1 p c = true → V E' w' (sh1 h.length c) x := fun c x hc ho => by
    cases c with
    | arr id i k g =>
      cases hc with
      | arr _ _ _ _ A cap hk hg hd =>
        obtain ⟨a1, a2, a3, a4, a5, a6, a7⟩ := enew id
        refine .arr _ _ _ _ A cap ((eK _).2 (.inr ⟨by omega, by rw [Nat.add_sub_cancel]; exact hk⟩)) (by rw [a5]; exact hg) fun e => ?_
        rw [a1, a2, a3, a4, a6, a7]
        exact hd (by rw [← a5]; exact e)
    | _ =>
      simp only [ok1, Bool.and_eq_true] at ho
      exact hT _ x hc ho.1 ho.2
  have hV : V E' w' (shV h.length m) v := by
    cases m with
    | tup vs =>
      cases hv1 with
      | tup _ us hl hc =>
        refine .tup _ us (by simpa using hl) fun i c x hci hx => ?_
        rw [List.getElem?_map, Option.map_eq_some_iff] at hci
        obtain ⟨c0, h0, rfl⟩ := hci
        exact hT1 c0 x (hc i c0 x h0 hx) (List.all_eq_true.1 hm c0 (List.mem_of_getElem? h0))
    | _ => exact hT1 _ v hv1 hm
  refine ⟨v, E', rfl, hV, ⟨fun id hk => ?_, ?_, fun id hk => ?_, fun i j hi hj ci cj e => ?_, fun id hk hc hb => ?_, fun b hb => ?_⟩, hx⟩
  · rcases kcase id hk with hk | ⟨j, rfl, hk'⟩
    · have := hr.klt id hk; simp; omega
    · have := hr1.klt j hk'; simp; omega
  · rw [et]; have := hr.top; simp; omega
  · rcases kcase id hk with hk | ⟨j, rfl, hk'⟩
    · obtain ⟨es, o1, o2, o3, o4, o5⟩ := hr.obj id hk
      obtain ⟨hl, a1, a2, a3, a4, a5, a6, a7⟩ := eold id hk
      rw [a1, a2, a3, a4, a5, a6, a7]
      refine ⟨es, by rw [List.getElem?_append_left hl]; exact o1, o2, o3, o4, fun hc => ?_⟩
      obtain ⟨arr, t, b1, b2, b3⟩ := o5 hc
      refine ⟨arr, t, by rw [hkeep _ (hr.lt hk hc)]; exact b1, b2, fun k c hkc => ?_⟩
      obtain ⟨x, c1, c2⟩ := b3 k c hkc
      exact ⟨x, c1, c2.ext hr hx⟩
    · obtain ⟨es, o1, o2, o3, o4, o5⟩ := hr1.obj j hk'
      obtain ⟨a1, a2, a3, a4, a5, a6, a7⟩ := enew j
      rw [a1, a2, a3, a4, a5, a6, a7]
      have hok : (ltL 0 es && (p || pureL es)) = true := List.all_eq_true.1 hn _ (List.mem_of_getElem? o1)
      simp only [Bool.and_eq_true, Bool.or_eq_true] at hok
      refine ⟨es, by rw [List.getElem?_append_right (by omega), Nat.add_sub_cancel]; exact o1, o2, o3, o4, fun hc => ?_⟩
      obtain ⟨arr, t, b1, b2, b3⟩ := o5 hc
      refine ⟨arr, t, b1, b2, fun k c hkc => ?_⟩
      obtain ⟨x, c1, c2⟩ := b3 k c hkc
      obtain ⟨ei, hei, hci⟩ := List.mem_flatMap.1 (List.mem_of_getElem? hkc)
      obtain ⟨i1, hi1⟩ := List.getElem?_of_mem hei
      obtain ⟨i2, hi2⟩ := List.getElem?_of_mem hci
      refine ⟨x, c1, hT c x c2 (lt_cells (ltL_at hok.1 i1 ei hi1) i2 c hi2) ?_⟩
      rcases hok.2 with hp1 | hp1
      · simp [hp1]
      · simp [pure_cells (pureL_at hp1 i1 ei hi1) i2 c hi2]
  · rcases kcase i hi with hi | ⟨i', rfl, hi'⟩
    · rcases kcase j hj with hj | ⟨j', rfl, hj'⟩
      · obtain ⟨_, a1, _, a3, _⟩ := eold i hi
        obtain ⟨_, b1, _, b3, _⟩ := eold j hj
        rw [a3] at ci; rw [b3] at cj; rw [a1, b1] at e
        exact hr.inj i j hi hj ci cj e
      · obtain ⟨_, a1, _, a3, _⟩ := eold i hi
        obtain ⟨b1, _, b3, _⟩ := enew j'
        rw [a3] at ci; rw [b3] at cj; rw [a1, b1] at e
        have := hr.lt hi ci
        have := hnew j' hj' cj
        omega
    · rcases kcase j hj with hj | ⟨j', rfl, hj'⟩
      · obtain ⟨a1, _, a3, _⟩ := enew i'
        obtain ⟨_, b1, _, b3, _⟩ := eold j hj
        rw [a3] at ci; rw [b3] at cj; rw [a1, b1] at e
        have := hr.lt hj cj
        have := hnew i' hi' ci
        omega
      · obtain ⟨a1, _, a3, _⟩ := enew i'
        obtain ⟨b1, _, b3, _⟩ := enew j'
        rw [a3] at ci; rw [b3] at cj; rw [a1, b1] at e
        rw [hr1.inj i' j' hi' hj' ci cj e]
  · rcases kcase id hk with hk | ⟨j, rfl, hk'⟩
    · obtain ⟨_, a1, _, a3, _⟩ := eold id hk
      rw [a3] at hc; rw [a1] at hb
      have hlt := hr.lt hk hc
      rcases (eS _).1 hb with hb | ⟨hp1, hb⟩
      · exact hr.sep id hk hc hb
      · rcases hS1 _ hb with hb | hb
        · exact hr.sep id hk hc (hp hp1 _ hb)
        · omega
    · obtain ⟨a1, _, a3, _⟩ := enew j
      rw [a3] at hc; rw [a1] at hb
      rcases (eS _).1 hb with hb | ⟨hp1, hb⟩
      · have := hr.slt _ hb
        have := hnew j hk' hc
        omega
      · exact hr1.sep j hk' hc hb
  · rcases (eS _).1 hb with hb | ⟨hp1, hb⟩
    · exact Nat.lt_of_lt_of_le (hr.slt b hb) hx1.size
    · exact hr1.slt b hb
theorem frzCall_ok {P : Program} {f : Nat} {run : List MV → Option (MV × MHeap)} (hrun : ∀ args' m news, run args' = some (m, news) → ∀ E w vs, HRel E [] w → Vs E w args' vs → Calls P f vs.toArray w (Post E w m news))
    {args : List MV} {h h' : MHeap} {m : MV} (he : frzCall run args h = some (m, h')) {E : Env} {w : World} {vs : List Value} (hr : HRel E h w) (hv : Vs E w args vs) : Calls P f vs.toArray w (Post E w m h') := by
  unfold frzCall at he
  split at he
  case h_2 => cases he
  rename_i args' hargs
  split at he
  case h_2 => cases he
  rename_i m0 news hm
  split at he
  case isFalse => cases he
  rename_i hok
  simp only [Bool.and_eq_true] at hok
  cases he
  obtain ⟨q1, q2⟩ := mapM_some hargs
  by_cases hA : ltL 0 args = true
  · rw [hA] at hok
    have hv' : Vs { E with K := fun _ => False, S := E.S, top := 0 } w args' vs := by
      refine ⟨by rw [← q1]; exact hv.1, fun i c x hc hx => ?_⟩
      have hi : i < args.length := by rw [q1]; exact (List.getElem?_eq_some_iff.1 hc).1
      have hci : args[i]? = some args[i] := by simp
      have hl := ltL_at hA i _ hci
      rw [frz_lt0 hl (q2 i _ c hci hc)]
      exact V.env (E := E.res 0) (E2 := { E with K := fun _ => False, S := E.S, top := 0 }) ⟨fun b hb => hb, fun id hk => absurd hk.2 (by omega), rfl⟩ ((hv.2 i _ x hci hx).res hl)
    have hri : HRel { E with K := fun _ => False, S := E.S, top := 0 } [] w := ⟨fun _ hk => hk.elim, Nat.le_refl _, fun _ hk => hk.elim, fun _ _ hk => hk.elim, fun _ hk => hk.elim, hr.slt⟩
    exact (hrun args' m0 news hm _ w vs hri hv').mono fun e w' hP => post_back hr (fun b hb => hb) (fun b hb => .inl hb) (fun _ b hb => hb) hok.1 hok.2 hP
  · have hA' : ltL 0 args = false := by simpa using hA
    rw [hA'] at hok
    obtain ⟨S0, hS0⟩ : ∃ S0 : Nat → Prop, S0 = fun b => E.S b ∨ ∃ id, E.K id ∧ 0 < E.cp id ∧ E.ρ id = b := ⟨_, rfl⟩
    have hv' : Vs { E with K := fun _ => False, S := S0, top := 0 } w args' vs := by
      refine ⟨by rw [← q1]; exact hv.1, fun i c x hc hx => ?_⟩
      have hi : i < args.length := by rw [q1]; exact (List.getElem?_eq_some_iff.1 hc).1
      have hci : args[i]? = some args[i] := by simp
      refine frz_okG (Es := { E with K := fun _ => False, S := S0, top := 0 }) hr (fun m v hv hl => V.env (E := E.res 0) (E2 := { E with K := fun _ => False, S := S0, top := 0 }) ⟨fun b hb => (by rw [hS0]; exact .inl hb : S0 b), fun id hk => absurd hk.2 (by omega), rfl⟩ (hv.res hl)) (fun b hb => ?_) (fun id hk _ _ hc0 => ?_) 8 _ _ _ (hv.2 i _ x hci hx) (q2 i _ c hci hc)
      · show S0 b
        rw [hS0]; exact .inl hb
      · show S0 (E.ρ id)
        rw [hS0]; exact .inr ⟨id, hk, hc0, rfl⟩
    have hri : HRel { E with K := fun _ => False, S := S0, top := 0 } [] w := ⟨fun _ hk => hk.elim, Nat.le_refl _, fun _ hk => hk.elim, fun _ _ hk => hk.elim, fun _ hk => hk.elim, fun b hb => by
      have hb : S0 b := hb
      rw [hS0] at hb
      rcases hb with hb | ⟨id, hk, hc, rfl⟩
      · exact hr.slt b hb
      · exact hr.lt hk hc⟩
    exact (hrun args' m0 news hm _ w vs hri hv').mono fun e w' hP => post_back hr (fun b hb => by rw [hS0]; exact .inl hb) (fun b hb => by rw [hS0] at hb; exact hb) (fun h => by cases h) hok.1 hok.2 hP
theorem frzCall_app {run : List MV → Option (MV × MHeap)} {args : List MV} {h h' : MHeap} {m : MV} (he : frzCall run args h = some (m, h')) : ∃ t, h' = h ++ t := by
  unfold frzCall at he
  split at he
  · split at he
    · split at he
      · cases he; exact ⟨_, rfl⟩
      · cases he
    · cases he
  · cases he
def runZ (M : Tab) (O : Oracle) (I : Iter) (N f : Nat) (args : List MV) (h : MHeap) : Option (MV × MHeap) :=
  match M.mf f with
  | some mf => runF O I N mf args h
  | none => none
def tabZ (M : Tab) (T O : Oracle) (I : Iter) (N f : Nat) (args : List MV) : Option (MV × MHeap) :=
  match T f args [] with
  | some r => some r
  | none => runZ M O I N f args []
def orZ (M : Tab) (T : Oracle) (I0 : Iter) (N : Nat) : Nat → Oracle
  | 0, _, _, _ => none
  | k + 1, f, args, h => match frzCall (tabZ M T (orZ M T I0 N k) (orI M I0 (orZ M T I0 N k) N) N f) args h with
    | some r => some r
    | none => runZ M (orZ M T I0 N k) (orI M I0 (orZ M T I0 N k) N) N f args h
theorem runZ_ok {P : Program} {M : Tab} (hm : P.follows .mixedOrders = true) (hM : TabOK P M) {O : Oracle} {I : Iter} (hO : SoundO P O) (hA : AppO O) (hI : SoundI P I) {N f : Nat} {args : List MV} {h h' : MHeap} {m : MV} (he : runZ M O I N f args h = some (m, h')) :
    hasBody P f = true ∧ ∀ E w vs, HRel E h w → Vs E w args vs → Calls P f vs.toArray w (Post E w m h') := by
  unfold runZ at he
  split at he
  case h_2 => cases he
  rename_i mf hmf
  obtain ⟨k1, k2, k3⟩ := hM f mf hmf
  exact ⟨k1, fun E w vs hr hv => runF_ok hm hO hA hI k2 he hr hv⟩
theorem runZ_app {M : Tab} {O : Oracle} {I : Iter} {N f : Nat} {args : List MV} {h h' : MHeap} {m : MV} (he : runZ M O I N f args h = some (m, h')) : ∃ t, h' = h ++ t := by
  unfold runZ at he
  split at he
  case h_2 => cases he
  exact runF_app he
theorem tabZ_ok {P : Program} {M : Tab} (hm : P.follows .mixedOrders = true) (hM : TabOK P M) {T O : Oracle} {I : Iter} (hT : SoundO P T) (hO : SoundO P O) (hA : AppO O) (hI : SoundI P I) {N f : Nat} {args : List MV} {h' : MHeap} {m : MV} (he : tabZ M T O I N f args = some (m, h')) :
    hasBody P f = true ∧ ∀ E w vs, HRel E [] w → Vs E w args vs → Calls P f vs.toArray w (Post E w m h') := by
  unfold tabZ at he
  split at he
  · rename_i r hr
    cases he
    exact hT f args [] m h' hr
  · exact runZ_ok hm hM hO hA hI he
theorem orZ_ok {P : Program} {M : Tab} (hm : P.follows .mixedOrders = true) (hM : TabOK P M) {T : Oracle} {I0 : Iter} (hT : SoundO P T) (hI : SoundI P I0) {N : Nat} : ∀ k, SoundO P (orZ M T I0 N k) ∧ AppO (orZ M T I0 N k)
  | 0 => ⟨fun f args h m h' he => by simp [orZ] at he, fun f args h m h' he => by simp [orZ] at he⟩
  | k + 1 => by
    obtain ⟨h1, h2⟩ := orZ_ok (N := N) hm hM hT hI k
    have hI' : SoundI P (orI M I0 (orZ M T I0 N k) N) := orI_ok hm hM hI h1 h2
    refine ⟨fun f args h m h' he => ?_, fun f args h m h' he => ?_⟩
    · simp only [orZ] at he
      split at he
      · rename_i r hr
        cases he
        have hb : hasBody P f = true := by
          unfold frzCall at hr
          split at hr
          case h_2 => cases hr
          split at hr
          case h_2 => cases hr
          rename_i hrun
          exact (tabZ_ok hm hM hT h1 h2 hI' hrun).1
        exact ⟨hb, fun E w vs hrl hv => frzCall_ok (fun args' m news hrun => (tabZ_ok hm hM hT h1 h2 hI' hrun).2) hr hrl hv⟩
      · exact runZ_ok hm hM h1 h2 hI' he
    · simp only [orZ] at he
      split at he
      · rename_i r hr
        cases he
        exact frzCall_app hr
      · exact runZ_app he
theorem orZ_call {M : Tab} {T : Oracle} {I0 : Iter} {N k f : Nat} {args args' : List MV} {h : MHeap} {m : MV} {news : MHeap} (h1 : args.mapM (frz 0 [] h 8) = some args') (h2 : tabZ M T (orZ M T I0 N k) (orI M I0 (orZ M T I0 N k) N) N f args' = some (m, news))
    (h3 : okV (ltL 0 args) m = true) (h4 : okH (ltL 0 args) news = true) : orZ M T I0 N (k + 1) f args h = some (shV h.length m, h ++ news) := by
  simp only [orZ, frzCall, h1, h2, h3, h4, Bool.and_self, if_true]
end Go.Proofs.Ytgjpdjihjphbdaa

/- Evaluation with open values: slots as a list of what is known, rules for control. -/
namespace Go.Proofs.Ytgjpdjihjphbdaa
open Go.RowKit
set_option linter.unusedVariables false
abbrev Sl := List (Nat × MV)
def look : Sl → Nat → Option MV
  | [], _ => none
  | (u, v) :: A, t => if t = u then some v else look A t
theorem look_cons (u : Nat) (v : MV) (A : Sl) (t : Nat) : look ((u, v) :: A) t = if t = u then some v else look A t := rfl
theorem look_here {u : Nat} {v : MV} {A : Sl} : look ((u, v) :: A) u = some v := if_pos rfl
structure SRel (n : Nat) (A : Sl) (s : List MV) : Prop where
  len : s.length = n
  get : ∀ t v, look A t = some v → s.getD t (.lit undef) = v
theorem SRel.put {n : Nat} {A : Sl} {s : List MV} (h : SRel n A s) {t : Nat} (ht : t < n) (v : MV) : SRel n ((t, v) :: A) (s.set t v) := by
  refine ⟨by rw [List.length_set, h.len], fun u x hu => ?_⟩
  rw [look_cons] at hu
  by_cases e : u = t
  · subst e
    have hl := h.len
    rw [if_pos rfl] at hu
    cases hu
    simp [List.getD_eq_getElem?_getD, show u < s.length by omega]
  · rw [if_neg e] at hu
    rw [← h.get u x hu]
    simp [List.getD_eq_getElem?_getD, show ¬ t = u from fun x => e x.symm]
def XV (A : Sl) : MX → MV → Prop
  | .s t, v => look A t = some v
  | .c c, v => c = v
theorem SRel.x {n : Nat} {A : Sl} {s : List MV} (h : SRel n A s) {x : MX} {v : MV} (hx : XV A x v) : MX.get s x = v := by
  cases x with
  | s t => exact h.get t v hx
  | c c => exact hx
def XVs (A : Sl) : List MX → List MV → Prop
  | [], vs => vs = []
  | x :: xs, vs => ∃ v us, vs = v :: us ∧ XV A x v ∧ XVs A xs us
theorem XVs.nil {A : Sl} : XVs A [] [] := rfl
theorem XVs.cons {A : Sl} {x : MX} {xs : List MX} {v : MV} {vs : List MV} (h : XV A x v) (hs : XVs A xs vs) : XVs A (x :: xs) (v :: vs) := ⟨v, vs, rfl, h, hs⟩
theorem SRel.xs {n : Nat} {A : Sl} {s : List MV} (h : SRel n A s) : ∀ {xs : List MX} {vs : List MV}, XVs A xs vs → xs.map (MX.get s) = vs
  | [], vs, hx => by cases hx; rfl
  | x :: xs, vs, hx => by
    obtain ⟨v, us, rfl, h1, h2⟩ := hx
    simp only [List.map_cons, h.x h1, h.xs h2]
structure Ef (O : Oracle) (I : Iter) (N n : Nat) (lk : Nat → Bool) (mc : MC) (A : Sl) (h : MHeap) (Q : MX2 → Sl → MHeap → Prop) : Prop where
  run : ∀ s, SRel n A s → ∃ x s' h', evC O I N mc lk ⟨s, h⟩ = some (x, ⟨s', h'⟩) ∧ ∃ A', SRel n A' s' ∧ Q x A' h'
section
variable {O : Oracle} {I : Iter} {N n : Nat} {lk : Nat → Bool} {A : Sl} {h : MHeap} {Q : MX2 → Sl → MHeap → Prop}
theorem Ef.mono {mc : MC} {Q' : MX2 → Sl → MHeap → Prop} (hE : Ef O I N n lk mc A h Q) (hQ : ∀ x A h, Q x A h → Q' x A h) : Ef O I N n lk mc A h Q' := .mk fun s hs => by
  obtain ⟨x, s', h', h1, A', h2, h3⟩ := hE.run s hs
  exact ⟨x, s', h', h1, A', h2, hQ _ _ _ h3⟩
inductive seqQ (O : Oracle) (I : Iter) (N n : Nat) (lk : Nat → Bool) (b : MC) (Q : MX2 → Sl → MHeap → Prop) : MX2 → Sl → MHeap → Prop
  | normal (A : Sl) (h : MHeap) : Ef O I N n lk b A h Q → seqQ O I N n lk b Q .normal A h
  | ret (A : Sl) (h : MHeap) : Q .ret A h → seqQ O I N n lk b Q .ret A h
  | exit (id : Nat) (A : Sl) (h : MHeap) : Q (.exit id) A h → seqQ O I N n lk b Q (.exit id) A h
inductive blockQ (id : Nat) (Q : MX2 → Sl → MHeap → Prop) : MX2 → Sl → MHeap → Prop
  | normal (A : Sl) (h : MHeap) : Q .normal A h → blockQ id Q .normal A h
  | ret (A : Sl) (h : MHeap) : Q .ret A h → blockQ id Q .ret A h
  | here (A : Sl) (h : MHeap) : Q .normal A h → blockQ id Q (.exit id) A h
  | there (k : Nat) (A : Sl) (h : MHeap) : k ≠ id → Q (.exit k) A h → blockQ id Q (.exit k) A h
theorem ef_skip (hQ : Q .normal A h) : Ef O I N n lk .skip A h Q := .mk fun s hs => ⟨_, s, h, rfl, A, hs, hQ⟩
theorem ef_ret (hQ : Q .ret A h) : Ef O I N n lk .ret A h Q := .mk fun s hs => ⟨_, s, h, rfl, A, hs, hQ⟩
theorem ef_exit {id : Nat} (hQ : Q (.exit id) A h) : Ef O I N n lk (.exit id) A h Q := .mk fun s hs => ⟨_, s, h, rfl, A, hs, hQ⟩
theorem ef_seq {a b : MC} (hE : Ef O I N n lk a A h (seqQ O I N n lk b Q)) : Ef O I N n lk (.seq a b) A h Q := .mk fun s hs => by
  obtain ⟨x, s', h', h1, A', h2, h3⟩ := hE.run s hs
  cases h3 with
  | normal _ _ h3 =>
    obtain ⟨y, s2, h2', k1, k2⟩ := h3.run s' h2
    exact ⟨y, s2, h2', by simp only [evC, h1, k1], k2⟩
  | exit id _ _ h3 => exact ⟨_, s', h', by simp only [evC, h1], A', h2, h3⟩
  | ret _ _ h3 => exact ⟨_, s', h', by simp only [evC, h1], A', h2, h3⟩
theorem ef_block {id : Nat} {b : MC} (hE : Ef O I N n lk b A h (blockQ id Q)) : Ef O I N n lk (.block id b) A h Q := .mk fun s hs => by
  obtain ⟨x, s', h', h1, A', h2, h3⟩ := hE.run s hs
  cases h3 with
  | normal _ _ h3 => exact ⟨_, s', h', by simp only [evC, h1], A', h2, h3⟩
  | ret _ _ h3 => exact ⟨_, s', h', by simp only [evC, h1], A', h2, h3⟩
  | here _ _ h3 => exact ⟨.normal, s', h', by simp only [evC, h1, if_true], A', h2, h3⟩
  | there k _ _ hk h3 => exact ⟨.exit k, s', h', by simp only [evC, h1, if_neg hk], A', h2, h3⟩
theorem ef_cond {c : MX} {a b : MC} {t : Bool} (hc : XV A c (.lit (.bool t))) (h1 : t = true → Ef O I N n lk a A h Q) (h2 : t = false → Ef O I N n lk b A h Q) : Ef O I N n lk (.cond c a b) A h Q := .mk fun s hs => by
  have hc' := hs.x hc
  cases t
  · obtain ⟨x, s', h', k1, k2⟩ := (h2 rfl).run s hs
    exact ⟨x, s', h', by simp only [evC, hc', Bool.false_eq_true, if_false, k1], k2⟩
  · obtain ⟨x, s', h', k1, k2⟩ := (h1 rfl).run s hs
    exact ⟨x, s', h', by simp only [evC, hc', if_true, k1], k2⟩
theorem ef_condt {c : MX} {a b : MC} {t : Bool} (hc : XV A c (.lit (.bool t))) (ht : t = true) (h1 : Ef O I N n lk a A h Q) : Ef O I N n lk (.cond c a b) A h Q := ef_cond hc (fun _ => h1) fun e => by rw [ht] at e; cases e
theorem ef_condf {c : MX} {a b : MC} {t : Bool} (hc : XV A c (.lit (.bool t))) (ht : t = false) (h1 : Ef O I N n lk b A h Q) : Ef O I N n lk (.cond c a b) A h Q := ef_cond hc (fun e => by rw [ht] at e; cases e) fun _ => h1
theorem ef_nil (hQ : Q .normal A h) : Ef O I N n lk (.reg []) A h Q := .mk fun s hs => ⟨_, s, h, rfl, A, hs, hQ⟩
theorem ef_reg {g : GO} {os : List GO} (hE : ∀ s, SRel n A s → ∃ s1 h1 A1, evG lk O g ⟨s, h⟩ = some ⟨s1, h1⟩ ∧ SRel n A1 s1 ∧ Ef O I N n lk (.reg os) A1 h1 Q) : Ef O I N n lk (.reg (g :: os)) A h Q := .mk fun s hs => by
  obtain ⟨s1, h1, A1, e1, e2, e3⟩ := hE s hs
  obtain ⟨x, s', h', k1, k2⟩ := e3.run s1 e2
  refine ⟨x, s', h', ?_, k2⟩
  simp only [evC, Option.map_eq_some_iff] at k1 ⊢
  obtain ⟨st, k3, k4⟩ := k1
  exact ⟨st, by simp only [evR, e1, Option.bind_some, k3], k4⟩
theorem ef_op {t : Nat} {op : MO} {os : List GO} {v : MV} {h1 : MHeap} (he : ∀ s, SRel n A s → evO lk O s h op = some (v, h1)) (ht : Nat.blt t n = true) (hE : Ef O I N n lk (.reg os) ((t, v) :: A) h1 Q) : Ef O I N n lk (.reg (⟨none, some t, op⟩ :: os)) A h Q :=
  ef_reg fun s hs => ⟨s.set t v, h1, _, by simp only [evG, wantM, he s hs, if_true, putM], hs.put (by simpa [Nat.blt_eq] using ht) v, hE⟩
theorem ef_op0 {op : MO} {os : List GO} {v : MV} {h1 : MHeap} (he : ∀ s, SRel n A s → evO lk O s h op = some (v, h1)) (hE : Ef O I N n lk (.reg os) A h1 Q) : Ef O I N n lk (.reg (⟨none, none, op⟩ :: os)) A h Q :=
  ef_reg fun s hs => ⟨s, h1, _, by simp only [evG, wantM, he s hs, if_true, putM], hs, hE⟩
theorem wantM_x {s : List MV} (hs : SRel n A s) {u : Nat} {b x : Bool} (hg : look A u = some (.lit (.bool x))) : wantM s (some (u, b)) = some (x == b) := by
  simp only [wantM, hs.get u _ hg]
theorem ef_gy {u : Nat} {b : Bool} {t : Option Nat} {op : MO} {os : List GO} {x : Bool} (hg : look A u = some (.lit (.bool x))) (hx : x = b) (hE : Ef O I N n lk (.reg (⟨none, t, op⟩ :: os)) A h Q) : Ef O I N n lk (.reg (⟨some (u, b), t, op⟩ :: os)) A h Q := .mk fun s hs => by
  subst hx
  obtain ⟨y, s', h', k1, k2⟩ := hE.run s hs
  refine ⟨y, s', h', ?_, k2⟩
  simp only [evC, evR] at k1 ⊢
  have e1 : evG lk O ⟨some (u, x), t, op⟩ ⟨s, h⟩ = evG lk O ⟨none, t, op⟩ ⟨s, h⟩ := by
    simp only [evG, wantM_x hs hg, beq_self_eq_true]
    rfl
  rw [e1]; exact k1
theorem ef_gn {u t : Nat} {b x : Bool} {op : MO} {os : List GO} (hg : look A u = some (.lit (.bool x))) (hx : x = !b) (ht : Nat.blt t n = true)
    (hE : Ef O I N n lk (.reg os) ((t, .lit undef) :: A) h Q) : Ef O I N n lk (.reg (⟨some (u, b), some t, op⟩ :: os)) A h Q :=
  ef_reg fun s hs => ⟨s.set t (.lit undef), h, _, by
    simp only [evG, wantM_x hs hg, hx]
    cases b <;> simp [putM], hs.put (by simpa [Nat.blt_eq] using ht) _, hE⟩
theorem ef_gu {t u : Nat} {b : Bool} {op : MO} {os : List GO} (hg : look A u = some (.lit undef)) (ht : Nat.blt t n = true)
    (hE : Ef O I N n lk (.reg os) ((t, .lit undef) :: A) h Q) : Ef O I N n lk (.reg (⟨some (u, b), some t, op⟩ :: os)) A h Q :=
  ef_reg fun s hs => ⟨s.set t (.lit undef), h, _, by
    have : wantM s (some (u, b)) = some false := by simp only [wantM]; rw [hs.get u _ hg]; rfl
    simp [evG, this, putM], hs.put (by simpa [Nat.blt_eq] using ht) _, hE⟩
def Sub (B A : Sl) : Prop := ∀ t v, look B t = some v → look A t = some v
theorem Ef.sub {mc : MC} {B : Sl} (hE : Ef O I N n lk mc B h Q) (hk : Sub B A) : Ef O I N n lk mc A h Q := .mk fun s hs =>
  hE.run s ⟨hs.len, fun t v ht => hs.get t v (hk t v ht)⟩
def Hold (A : Sl) (l : Sl) : Prop := ∀ p ∈ l, look A p.1 = some p.2
theorem Hold.nil {A : Sl} : Hold A [] := fun _ h => by cases h
theorem Hold.cons {A : Sl} {t : Nat} {v : MV} {l : Sl} (h : look A t = some v) (hl : Hold A l) : Hold A ((t, v) :: l) := fun p hp => by
  rcases List.mem_cons.1 hp with rfl | hp
  · exact h
  · exact hl p hp
theorem Hold.sub {A B : Sl} (h : Hold A B) : Sub B A := by
  intro t v ht
  induction B with
  | nil => simp [look] at ht
  | cons p B ih =>
    obtain ⟨u, x⟩ := p
    rw [look_cons] at ht
    split at ht
    · rename_i e
      cases ht
      subst e
      exact h _ List.mem_cons_self
    · exact ih (fun p hp => h p (List.mem_cons_of_mem _ hp)) ht
theorem keepS_get' (keep : List Nat) : ∀ (s : List MV) (i t : Nat), (keepS keep i s)[t]? = (s[t]?).map fun v => if keep.contains (i + t) then v else .junk
  | [], i, t => by simp [keepS]
  | v :: s, i, 0 => by simp [keepS]
  | v :: s, i, t + 1 => by
    simp only [keepS, List.getElem?_cons_succ]
    rw [keepS_get' keep s (i + 1) t, show i + 1 + t = i + (t + 1) by omega]
theorem keepS_len' (keep : List Nat) : ∀ (s : List MV) (i : Nat), (keepS keep i s).length = s.length
  | [], i => rfl
  | v :: s, i => by simp [keepS, keepS_len' keep s]
theorem keepS_getD {keep : List Nat} {s : List MV} {t : Nat} (ht : t ∈ keep) : (keepS keep 0 s).getD t (.lit undef) = s.getD t (.lit undef) := by
  rw [List.getD_eq_getElem?_getD, keepS_get', List.getD_eq_getElem?_getD]
  cases s[t]? <;> simp [ht]
def headH (keep : List Nat) (m : Nat) (A : Sl) (h : MHeap) : Prop := h.length ≤ m ∨ ((∀ t ∈ keep, ∃ v, look A t = some v ∧ v.lt m = true) ∧ hltL m (h.take m) = true)
theorem ltL_iff' {n : Nat} : ∀ {l : List MV}, ltL n l = true ↔ ∀ m ∈ l, m.lt n = true
  | [] => by simp [ltL]
  | v :: l => by simp [ltL, ltL_iff' (l := l)]
theorem headM_take {keep : List Nat} {m : Nat} {s : List MV} (hs : SRel n A s) (hh : headH keep m A h) : headM keep m ⟨s, h⟩ = ⟨keepS keep 0 s, h.take m⟩ := by
  unfold headM
  dsimp only
  split
  · rename_i hl
    rw [List.take_of_length_le hl]
  · rename_i hl
    rcases hh with h1 | ⟨h1, h2⟩
    · exact absurd h1 hl
    · rw [if_pos]
      rw [Bool.and_eq_true]
      refine ⟨ltL_iff'.2 fun v hv => ?_, h2⟩
      obtain ⟨t, ht⟩ := List.getElem?_of_mem hv
      rw [keepS_get', Option.map_eq_some_iff] at ht
      obtain ⟨v0, h3, rfl⟩ := ht
      simp only [Nat.zero_add]
      split
      · rename_i hc
        have hc' : t ∈ keep := by simpa using hc
        obtain ⟨v, q1, q2⟩ := h1 t hc'
        have := hs.get t v q1
        rw [List.getD_eq_getElem?_getD, h3] at this
        simp only [Option.getD_some] at this
        rw [this]
        exact q2
      · rfl
inductive loopQ (R : Sl → MHeap → Prop) (Q : MX2 → Sl → MHeap → Prop) : MX2 → Sl → MHeap → Prop
  | normal (A : Sl) (h : MHeap) : R A h → loopQ R Q .normal A h
  | ret (A : Sl) (h : MHeap) : Q .ret A h → loopQ R Q .ret A h
  | exit (id : Nat) (A : Sl) (h : MHeap) : Q (.exit id) A h → loopQ R Q (.exit id) A h
theorem look_mem {t : Nat} {v : MV} : ∀ {B : Sl}, look B t = some v → t ∈ B.map (·.1)
  | [], ht => by simp [look] at ht
  | (u, x) :: B, ht => by
    rw [look_cons] at ht
    split at ht
    · rename_i e; simp [e]
    · simp [look_mem ht]
theorem ef_loop {α : Type} {keep : List Nat} {b : MC} (Inv : α → Prop) (hd : α → Sl) (hp : α → MHeap) (ms : α → Nat) (a0 : α) (ks : List Nat) (hks : ∀ a, (hd a).map (·.1) = ks) (hk : ks.all (fun t => keep.contains t) = true) (h0 : Inv a0) (hN : ms a0 < N)
    (hA : Hold A (hd a0)) (hH : hp a0 = h)
    (hb : ∀ a, Inv a → Ef O I N n lk b (hd a) (hp a) (loopQ (fun A' h' => ∃ a', Inv a' ∧ ms a' < ms a ∧ Hold A' (hd a') ∧ headH keep h.length A' h' ∧ h'.take h.length = hp a') Q)) : Ef O I N n lk (.loop keep b) A h Q := .mk fun s hs => by
  have key : ∀ (M : Nat) (a : α) (A1 : Sl) (s1 : List MV) (h1 : MHeap), Inv a → ms a < M → SRel n A1 s1 → Hold A1 (hd a) → headH keep h.length A1 h1 → h1.take h.length = hp a →
      ∃ x s' h', rounds (fun st' => evC O I N b lk (headM keep h.length st')) M ⟨s1, h1⟩ = some (x, ⟨s', h'⟩) ∧ ∃ A', SRel n A' s' ∧ Q x A' h' := by
    intro M
    induction M with
    | zero => intro a A1 s1 h1 _ hM; omega
    | succ M ih =>
      intro a A1 s1 h1 hI hM hs1 hA1 hh1 hh2
      have e1 := headM_take hs1 hh1
      rw [hh2] at e1
      obtain ⟨x, s', h', k1, A', k2, k3⟩ := (hb a hI).run (keepS keep 0 s1) ⟨by rw [keepS_len', hs1.len], fun t v ht => by
        have hmem : t ∈ keep := by
          have := look_mem ht
          rw [hks] at this
          simpa using List.all_eq_true.1 hk t this
        rw [keepS_getD hmem]
        exact hs1.get t v (hA1.sub t v ht)⟩
      cases k3 with
      | normal _ _ k3 =>
        obtain ⟨a', j1, j2, j3, j4, j5⟩ := k3
        obtain ⟨x, s2, h2, i1, i2⟩ := ih a' A' s' h' j1 (by omega) k2 j3 j4 j5
        exact ⟨x, s2, h2, by simp only [rounds, e1, k1]; exact i1, i2⟩
      | exit id _ _ k3 => exact ⟨_, s', h', by simp only [rounds, e1, k1], A', k2, k3⟩
      | ret _ _ k3 => exact ⟨_, s', h', by simp only [rounds, e1, k1], A', k2, k3⟩
  obtain ⟨x, s', h', k1, k2⟩ := key N a0 A s h h0 hN hs hA (.inl (Nat.le_refl _)) (by rw [List.take_length, hH])
  exact ⟨x, s', h', by simp only [evC]; exact k1, k2⟩
def ResV (A : Sl) (h : MHeap) : MRes → MV → Prop
  | .tmp t, v => look A t = some v
  | .cell t ag, v => ∃ id i off g o e, look A t = some (.ptr id i off g) ∧ h[id]? = some o ∧ o.g = g ∧ o.es[i]? = some e ∧ rdCells e.cells off ag = some v
def ResVs (A : Sl) (h : MHeap) : List MRes → List MV → Prop
  | [], vs => vs = []
  | r :: rs, vs => ∃ v us, vs = v :: us ∧ ResV A h r v ∧ ResVs A h rs us
theorem ResVs.ok {s : List MV} (hs : SRel n A s) : ∀ {rs : List MRes} {vs : List MV}, ResVs A h rs vs → rs.mapM (resM s h) = some vs
  | [], vs, hr => by cases hr; rfl
  | r :: rs, vs, hr => by
    obtain ⟨v, us, rfl, h1, h2⟩ := hr
    have e1 : resM s h r = some v := by
      cases r with
      | tmp t => simp only [resM, hs.get t v h1]
      | cell t ag =>
        obtain ⟨id, i, off, g, o, e, q1, q2, q3, q4, q5⟩ := h1
        simp only [resM, hs.get t _ q1, q2, q3, if_true, q4, q5]
    simp only [List.mapM_cons, e1, ResVs.ok hs h2]
    rfl
def argsL : Nat → List MV → Sl
  | _, [] => []
  | i, v :: vs => (i, v) :: argsL (i + 1) vs
theorem look_args : ∀ (l : List MV) (i t : Nat) (v : MV), look (argsL i l) t = some v → i ≤ t ∧ l[t - i]? = some v
  | [], i, t, v, h => by simp [argsL, look] at h
  | x :: l, i, t, v, h => by
    rw [argsL, look_cons] at h
    split at h
    · rename_i e; subst e; cases h; simp
    · rename_i e
      obtain ⟨h1, h2⟩ := look_args l (i + 1) t v h
      refine ⟨by omega, ?_⟩
      obtain ⟨k, hk⟩ : ∃ k, t - i = k + 1 := ⟨t - i - 1, by omega⟩
      rw [hk, List.getElem?_cons_succ, ← show t - (i + 1) = k by omega]
      exact h2
def FinF (rs : List MRes) (m : MV) (news : MHeap) (x : MX2) (A : Sl) (h : MHeap) : Prop := outX x = true ∧ ∃ vs vs', ResVs A h rs vs ∧ (impIds 0 vs).Nodup ∧ expL 0 (impIds 0 vs) h vs 0 = some (vs', news) ∧ oneOf vs' = m
theorem runZ_of {M : Tab} {f : Nat} {rs : List MRes} {b : MC} {args : List MV} {m : MV} {news : MHeap} (hmf : M.mf f = some ⟨n, rs, b⟩) (hn : args.length ≤ n)
    (hE : Ef O I N n (fun _ => false) b (argsL 0 args) [] (FinF rs m news)) : runZ M O I N f args [] = some (m, news) := by
  obtain ⟨x, s', h', k1, A', k2, hx, vs, vs', r1, r2, r3, r4⟩ := hE.run (args ++ List.replicate (n - args.length) (.lit undef)) ⟨by simp; omega, fun t v ht => by
    obtain ⟨_, h1⟩ := look_args _ _ _ _ ht
    rw [Nat.sub_zero] at h1
    have hl := (List.getElem?_eq_some_iff.1 h1).1
    rw [List.getD_eq_getElem?_getD, List.getElem?_append_left hl, h1]
    rfl⟩
  unfold runZ
  rw [hmf]
  unfold runF
  have elk : (fun id => decide (id < ([] : MHeap).length)) = fun _ => false := by funext id; simp
  dsimp only
  rw [elk, k1]
  have hx' : x = .ret ∨ x = .normal := by cases x <;> simp [outX] at hx <;> simp
  dsimp only
  rw [if_pos hx', ResVs.ok k2 r1]
  simp only [List.length_nil, r2, if_true, r3, r4, List.nil_append]
theorem fin1 {x : MX2} {v v' : MV} {t : Nat} (hx : outX x = true) (hv : look A t = some v) (hl : v.lt 0 = true) (he : v = v') : FinF [.tmp t] v' [] x A h := by
  subst he
  refine ⟨hx, [v], [v], ⟨v, [], rfl, hv, rfl⟩, ?_, ?_, rfl⟩
  · cases v <;> first | (simp [MV.lt] at hl; done) | simp [impIds]
  · have hi : impIds 0 [v] = [] := by
      cases v <;> first | (simp [MV.lt] at hl; done) | simp [impIds]
    rw [hi]
    cases v <;> first | (simp [MV.lt] at hl; done) | simp [expL, frz, hl]
theorem fin2 {x : MX2} {a b : Value} {m : MV} {t u : Nat} (hx : outX x = true) (hv : look A t = some (.lit a)) (hw : look A u = some (.lit b)) (he : MV.tup [.lit a, .lit b] = m) : FinF [.tmp t, .tmp u] m [] x A h := by
  subst he
  exact ⟨hx, [.lit a, .lit b], [.lit a, .lit b], ⟨_, _, rfl, hv, _, _, rfl, hw, rfl⟩, by simp [impIds], by simp [expL, frz, MV.lt], rfl⟩
theorem hdl_nil {m : Nat} : ∀ t ∈ ([] : List Nat), ∃ v, look A t = some v ∧ v.lt m = true := fun t ht => by cases ht
theorem hdl_cons {m t : Nat} {v : MV} {ks : List Nat} (h : look A t = some v) (hl : v.lt m = true) (hs : ∀ t ∈ ks, ∃ v, look A t = some v ∧ v.lt m = true) : ∀ u ∈ t :: ks, ∃ v, look A u = some v ∧ v.lt m = true := fun u hu => by
  rcases List.mem_cons.1 hu with rfl | hu
  · exact ⟨v, h, hl⟩
  · exact hs u hu
theorem fin_arr {x : MX2} {t id i k k' g : Nat} {o : MObj} {es : List MV} {sz : Nat} {nl : Bool} (hx : outX x = true) (hv : look A t = some (.arr id i k g)) (ho : h[id]? = some o) (hg : o.g = g) (hk : i + k ≤ o.es.length) (hl : ltL 0 o.es = true) (he : (o.es.drop i).take k = es) (hz : o.sz = sz) (hn : o.nl = nl) (hkk : k = k') :
    FinF [.tmp t] (.arr 0 0 k' 0) [⟨0, nl, sz, es⟩] x A h := by
  subst he hz hn hkk
  refine ⟨hx, [.arr id i k g], [.arr 0 0 k 0], ⟨_, [], rfl, hv, rfl⟩, ?_, ?_, rfl⟩
  · simp [impIds]
  · simp [expL, ho, hg, hk, hl]
end
end Go.Proofs.Ytgjpdjihjphbdaa
namespace Go.Proofs.Ytgjpdjihjphbdaa
open Go.RowKit
set_option linter.unusedVariables false
def isPt : MV → Bool
  | .ptr .. => true
  | .rp .. => true
  | .fn .. => true
  | _ => false
abbrev I64 (n : Int) : MV := .lit (.int .i64 n)
abbrev Bo (b : Bool) : MV := .lit (.bool b)
section
variable {O : Oracle} {I : Iter} {N n : Nat} {lk : Nat → Bool} {A : Sl} {h : MHeap} {Q : MX2 → Sl → MHeap → Prop} {t : Nat} {os : List GO}
theorem SRel.parts {α β : Type} {s : List MV} {f : α → MX} {g : α → MV → β} (hs : SRel n A s) : ∀ {ps : List α} {vs : List MV}, XVs A (ps.map f) vs → (ps.map fun p => g p (MX.get s (f p))) = (ps.zip vs).map fun q => g q.1 q.2
  | [], vs, h => by cases h; rfl
  | p :: ps, vs, h => by
    obtain ⟨v, us, rfl, h1, h2⟩ := h
    simp only [List.map_cons, List.zip_cons_cons, hs.x h1, hs.parts h2]
def XLo (A : Sl) : Option MX → Int → Prop
  | none, l => l = 0
  | some x, l => XV A x (.lit (.int .i64 l))
theorem SRel.lo {s : List MV} (hs : SRel n A s) {lo : Option MX} {l : Int} (h : XLo A lo l) : ((lo.map (MX.get s)).map intOf?).getD (some 0) = some l := by
  cases lo with
  | none => cases h; rfl
  | some x => simp [hs.x h, intOf?]
variable (ht : Nat.blt t n = true)
include ht
theorem ef_mv {x : MX} {v : MV} (hx : XV A x v) (hE : Ef O I N n lk (.reg os) ((t, v) :: A) h Q) : Ef O I N n lk (.reg (⟨none, some t, .mv x⟩ :: os)) A h Q :=
  ef_op (fun S HS => by simp only [evO, HS.x hx]) ht hE
theorem ef_nil0 {sz : Nat} (hE : Ef O I N n lk (.reg os) ((t, .arr h.length 0 0 0) :: A) (h ++ [⟨0, true, sz, []⟩]) Q) : Ef O I N n lk (.reg (⟨none, some t, .nil0 sz⟩ :: os)) A h Q :=
  ef_op (fun S HS => by simp only [evO]) ht hE
theorem ef_nilck {x : MX} {v : MV} (hx : XV A x v) (hv : isPt v = true) (hE : Ef O I N n lk (.reg os) ((t, v) :: A) h Q) : Ef O I N n lk (.reg (⟨none, some t, .nilck x⟩ :: os)) A h Q :=
  ef_op (fun S HS => by simp only [evO, HS.x hx]; cases v <;> simp [isPt] at hv <;> rfl) ht hE
theorem ef_pick {c x y : MX} {b : Bool} {v : MV} (hc : XV A c (.lit (.bool b))) (hv : XV A (bif b then x else y) v) (hE : Ef O I N n lk (.reg os) ((t, v) :: A) h Q) : Ef O I N n lk (.reg (⟨none, some t, .pick c x y⟩ :: os)) A h Q :=
  ef_op (fun s hs => by simp only [evO, hs.x hc]; cases b <;> simp only [cond_true, cond_false] at hv <;> simp [hs.x hv]) ht hE
theorem ef_new {z : MV} (hE : Ef O I N n lk (.reg os) ((t, .ptr h.length 0 0 0) :: A) (h ++ [⟨0, false, z.cells.length, [z]⟩]) Q) : Ef O I N n lk (.reg (⟨none, some t, .new z⟩ :: os)) A h Q :=
  ef_op (fun S HS => by simp only [evO]) ht hE
theorem ef_box {sz : Nat} {x : MX} {v : MV} (hx : XV A x v) (hv : v.cells.length = sz) (hv2 : v.cOk = true) (hE : Ef O I N n lk (.reg os) ((t, .ptr h.length 0 0 0) :: A) (h ++ [⟨0, false, sz, [v]⟩]) Q) : Ef O I N n lk (.reg (⟨none, some t, .box sz x⟩ :: os)) A h Q :=
  ef_op (fun S HS => by simp only [evO, HS.x hx, hv, hv2, and_self, if_true]) ht hE
theorem ef_build {z : List MV} {ps : List (Nat × Nat × MX)} {vs cs : List MV} (hv : XVs A (ps.map (·.2.2)) vs) (h1 : fillM z ((ps.zip vs).map fun q => (q.1.1, q.2.cells)) = some cs) (h2 : (ps.zip vs).all (fun q => q.2.cells.length == q.1.2.1 && q.2.cOk) = true)
    (hE : Ef O I N n lk (.reg os) ((t, .agg cs) :: A) h Q) : Ef O I N n lk (.reg (⟨none, some t, .build z ps⟩ :: os)) A h Q :=
  ef_op (fun s hs => by
    have e1 := hs.parts (f := fun p : Nat × Nat × MX => p.2.2) (g := fun p v => (p.1, v.cells)) hv
    have e2 := hs.parts (f := fun p : Nat × Nat × MX => p.2.2) (g := fun p v => v.cells.length == p.2.1 && v.cOk) hv
    simp only [evO, e1, h1]
    have e3 : ps.all (fun p => (p.2.2.get s).cells.length == p.2.1 && (p.2.2.get s).cOk) = true := by
      rw [List.all_eq_true] at h2 ⊢
      intro p hp
      have hm : ((p.2.2.get s).cells.length == p.2.1 && (p.2.2.get s).cOk) ∈ ps.map fun p => ((p.2.2.get s).cells.length == p.2.1 && (p.2.2.get s).cOk) := List.mem_map.2 ⟨p, hp, rfl⟩
      rw [e2] at hm
      obtain ⟨q, hq, e⟩ := List.mem_map.1 hm
      rw [← e]
      exact h2 q hq
    rw [if_pos e3]) ht hE
theorem ef_bsl {z : MV} {sz len : Nat} {ps : List (Nat × MX)} {vs es : List MV} (hv : XVs A (ps.map (·.2)) vs) (h1 : setAtM (List.replicate len z) sz ((ps.zip vs).map fun q => (q.1.1, q.2)) = some es)
    (hE : Ef O I N n lk (.reg os) ((t, .arr h.length 0 len 0) :: A) (h ++ [⟨0, false, sz, es⟩]) Q) : Ef O I N n lk (.reg (⟨none, some t, .bsl z sz len ps⟩ :: os)) A h Q :=
  ef_op (fun s hs => by
    have e1 := hs.parts (f := fun p : Nat × MX => p.2) (g := fun p v => (p.1, v)) hv
    simp only [evO, e1, h1]) ht hE
theorem ef_ldr {ag : Option Nat} {x : MX} {e v : MV} {off : Nat} (hx : XV A x (.rp e off)) (hv : rdCells e.cells off ag = some v) (hE : Ef O I N n lk (.reg os) ((t, v) :: A) h Q) : Ef O I N n lk (.reg (⟨none, some t, .ld ag x⟩ :: os)) A h Q :=
  ef_op (fun S HS => by simp only [evO, HS.x hx, hv, Option.map_some]) ht hE
theorem ef_ldp {ag : Option Nat} {x : MX} {e v : MV} {id i off g : Nat} {o : MObj} (hx : XV A x (.ptr id i off g)) (ho : h[id]? = some o) (hg : o.g = g) (he : o.es[i]? = some e) (hv : rdCells e.cells off ag = some v) (hE : Ef O I N n lk (.reg os) ((t, v) :: A) h Q) : Ef O I N n lk (.reg (⟨none, some t, .ld ag x⟩ :: os)) A h Q :=
  ef_op (fun S HS => by simp only [evO, HS.x hx, ho, hg, he, hv, Option.map_some, if_true]) ht hE
theorem ef_bin {op : BinOp} {x y : MX} {k : IntKind} {a b : Int} {v : Value} (hx : XV A x (.lit (.int k a))) (hy : XV A y (.lit (.int k b))) (hv : binI op k a b = some v) (hE : Ef O I N n lk (.reg os) ((t, .lit v) :: A) h Q) : Ef O I N n lk (.reg (⟨none, some t, .bin op x y⟩ :: os)) A h Q :=
  ef_op (fun S HS => by simp only [evO, HS.x hx, HS.x hy, hv, Option.map_some, if_true]) ht hE
theorem ef_beq {neg : Bool} {x y : MX} {a b : Bool} (hx : XV A x (.lit (.bool a))) (hy : XV A y (.lit (.bool b))) (hE : Ef O I N n lk (.reg os) ((t, .lit (.bool (negIf neg (a == b)))) :: A) h Q) : Ef O I N n lk (.reg (⟨none, some t, .beq neg x y⟩ :: os)) A h Q :=
  ef_op (fun S HS => by simp only [evO, HS.x hx, HS.x hy]) ht hE
theorem ef_not {x : MX} {b c : Bool} (hx : XV A x (.lit (.bool b))) (hc : (!b) = c) (hE : Ef O I N n lk (.reg os) ((t, .lit (.bool c)) :: A) h Q) : Ef O I N n lk (.reg (⟨none, some t, .un .not x⟩ :: os)) A h Q :=
  ef_op (fun S HS => by subst hc; simp only [evO, HS.x hx]) ht hE
theorem ef_notT {x : MX} (hx : XV A x (.lit (.bool true))) (hE : Ef O I N n lk (.reg os) ((t, .lit (.bool false)) :: A) h Q) : Ef O I N n lk (.reg (⟨none, some t, .un .not x⟩ :: os)) A h Q :=
  ef_not (ht := ht) hx rfl hE
theorem ef_notF {x : MX} (hx : XV A x (.lit (.bool false))) (hE : Ef O I N n lk (.reg os) ((t, .lit (.bool true)) :: A) h Q) : Ef O I N n lk (.reg (⟨none, some t, .un .not x⟩ :: os)) A h Q :=
  ef_not (ht := ht) hx rfl hE
theorem ef_neg {x : MX} {k : IntKind} {a c : Int} (hx : XV A x (.lit (.int k a))) (hc : k.wrap (0 - a) = c) (hE : Ef O I N n lk (.reg os) ((t, .lit (.int k c)) :: A) h Q) : Ef O I N n lk (.reg (⟨none, some t, .un .neg x⟩ :: os)) A h Q :=
  ef_op (fun S HS => by simp only [evO, HS.x hx, hc]) ht hE
theorem ef_mf {f k : Nat} {cs : List MX} {vs : List MV} (hv : XVs A cs vs) (hE : Ef O I N n lk (.reg os) ((t, .fn f k vs) :: A) h Q) : Ef O I N n lk (.reg (⟨none, some t, .mf f k cs⟩ :: os)) A h Q :=
  ef_op (fun s hs => by simp only [evO, hs.xs hv]) ht hE
theorem ef_ix {ag : Option Nat} {sz len : Nat} {x i : MX} {cs : List MV} {kk : IntKind} {k : Int} {v : MV} (hx : XV A x (.agg cs)) (hi : XV A i (.lit (.int kk k))) (h0 : 0 ≤ k) (h1 : k < len) (hv : rdCells cs (k.toNat * sz) ag = some v) (hE : Ef O I N n lk (.reg os) ((t, v) :: A) h Q) : Ef O I N n lk (.reg (⟨none, some t, .ix ag sz len x i⟩ :: os)) A h Q :=
  ef_op (fun S HS => by simp only [evO, HS.x hx, HS.x hi, intOf?, h0, h1, and_self, if_true, hv, Option.map_some]) ht hE
theorem ef_mks {z : MV} {x : MX} {m : Int} (hx : XV A x (.lit (.int .i64 m))) (h0 : 0 ≤ m) (h1 : m ≤ 1000000) (hE : Ef O I N n lk (.reg os) ((t, .arr h.length 0 m.toNat 0) :: A) (h ++ [⟨0, false, z.cells.length, List.replicate m.toNat z⟩]) Q) : Ef O I N n lk (.reg (⟨none, some t, .mks z x⟩ :: os)) A h Q :=
  ef_op (fun S HS => by simp only [evO, HS.x hx, h0, h1, and_self, if_true]) ht hE
theorem ef_slca1 {sz : Nat} {x : MX} {lo : Option MX} {id i m g : Nat} {l : Int} (hx : XV A x (.arr id i m g)) (hl : XLo A lo l) (h0 : 0 ≤ l ∧ l ≤ m) (hs : MHeap.ok h id g sz = true)
    (hE : Ef O I N n lk (.reg os) ((t, .arr id (i + l.toNat) (m - l.toNat) g) :: A) h Q) : Ef O I N n lk (.reg (⟨none, some t, .slc sz x lo none⟩ :: os)) A h Q :=
  ef_op (fun s hs' => by simp only [evO, hs'.x hx, hs'.lo hl, Option.map_none, h0, hs, and_self, if_true]) ht hE
theorem ef_fap {off : Nat} {x : MX} {id i o g : Nat} (hx : XV A x (.ptr id i o g)) (hE : Ef O I N n lk (.reg os) ((t, .ptr id i (o + off) g) :: A) h Q) : Ef O I N n lk (.reg (⟨none, some t, .fa off x⟩ :: os)) A h Q :=
  ef_op (fun S HS => by simp only [evO, HS.x hx]) ht hE
theorem ef_far {off : Nat} {x : MX} {e : MV} {o : Nat} (hx : XV A x (.rp e o)) (hE : Ef O I N n lk (.reg os) ((t, .rp e (o + off)) :: A) h Q) : Ef O I N n lk (.reg (⟨none, some t, .fa off x⟩ :: os)) A h Q :=
  ef_op (fun S HS => by simp only [evO, HS.x hx]) ht hE
theorem ef_ias {sz : Nat} {x i : MX} {es : List MV} {kk : IntKind} {k : Int} {e : MV} (hx : XV A x (.sl es)) (hi : XV A i (.lit (.int kk k))) (h0 : 0 ≤ k) (he : es[k.toNat]? = some e) (hs : e.cells.length = sz) (hE : Ef O I N n lk (.reg os) ((t, .rp e 0) :: A) h Q) : Ef O I N n lk (.reg (⟨none, some t, .ia sz x i⟩ :: os)) A h Q :=
  ef_op (fun S HS => by simp only [evO, HS.x hx, HS.x hi, intOf?, h0, if_true, he, Option.bind_some, hs]) ht hE
theorem ef_iaa {sz : Nat} {x i : MX} {id j m g : Nat} {kk : IntKind} {k : Int} (hx : XV A x (.arr id j m g)) (hi : XV A i (.lit (.int kk k))) (h0 : 0 ≤ k) (h1 : k < m) (hs : MHeap.ok h id g sz = true) (hE : Ef O I N n lk (.reg os) ((t, .ptr id (j + k.toNat) 0 g) :: A) h Q) : Ef O I N n lk (.reg (⟨none, some t, .ia sz x i⟩ :: os)) A h Q :=
  ef_op (fun S HS => by simp only [evO, HS.x hx, HS.x hi, intOf?, h0, h1, hs, and_self, if_true]) ht hE
theorem ef_ext {x : MX} {i : Nat} {vs : List MV} {v : MV} (hx : XV A x (.tup vs)) (hv : vs[i]? = some v) (hE : Ef O I N n lk (.reg os) ((t, v) :: A) h Q) : Ef O I N n lk (.reg (⟨none, some t, .ext x i⟩ :: os)) A h Q :=
  ef_op (fun S HS => by simp only [evO, HS.x hx, hv, Option.map_some]) ht hE
theorem ef_call {f : Nat} {as_ : List MX} {vs : List MV} {v : MV} {h1 : MHeap} (ha : XVs A as_ vs) (ho : O f vs h = some (v, h1)) (hE : Ef O I N n lk (.reg os) ((t, v) :: A) h1 Q) : Ef O I N n lk (.reg (⟨none, some t, .call f as_⟩ :: os)) A h Q :=
  ef_op (fun s hs => by simp only [evO, hs.xs ha, ho]) ht hE
theorem ef_callv {x : MX} {f k : Nat} {caps : List MV} {as_ : List MX} {us vs : List MV} {v : MV} {h1 : MHeap} (hx : XV A x (.fn f k caps)) (ha : XVs A as_ us) (hu : caps.take k ++ us ++ caps.drop k = vs) (ho : O f vs h = some (v, h1)) (hE : Ef O I N n lk (.reg os) ((t, v) :: A) h1 Q) : Ef O I N n lk (.reg (⟨none, some t, .callv x as_⟩ :: os)) A h Q :=
  ef_op (fun s hs => by simp only [evO, hs.x hx, hs.xs ha, hu, ho]) ht hE
theorem ef_mkm (hE : Ef O I N n lk (.reg os) ((t, .mp h.length 0) :: A) (h ++ [⟨0, true, 1, [.tup []]⟩]) Q) : Ef O I N n lk (.reg (⟨none, some t, .mkm⟩ :: os)) A h Q :=
  ef_op (fun s hs => by simp only [evO]) ht hE
theorem ef_mlk {m : Nat} {z : MV} {ok : Bool} {x k : MX} {xv v : MV} {ps es : List MV} {r : Option (Nat × MV)} (hx : XV A x xv) (hk : XV A k (.agg ps)) (hes : xv.ents h = some es) (hl : ps.length = m) (hf : mfind ps es 0 = some r) (hv : mres z ok r = v)
    (hE : Ef O I N n lk (.reg os) ((t, v) :: A) h Q) : Ef O I N n lk (.reg (⟨none, some t, .mlk m z ok x k⟩ :: os)) A h Q :=
  ef_op (fun s hs => by simp only [evO, hs.x hx, hs.x hk, hes, hl, if_true, hf, hv]) ht hE
theorem ef_len {x : MX} {v : MV} {m : Nat} (hx : XV A x v) (hm : v.slen = some m) (hE : Ef O I N n lk (.reg os) ((t, .lit (.int .i64 m)) :: A) h Q) : Ef O I N n lk (.reg (⟨none, some t, .len x⟩ :: os)) A h Q :=
  ef_op (fun S HS => by simp only [evO, HS.x hx, hm]) ht hE
theorem ef_app0 {sz : Nat} {s x : MX} {v : MV} {id i m g : Nat} {o : MObj} (hs : XV A s (.arr id i m g)) (hx : XV A x v) (hv : v.elems h = some []) (ho : h[id]? = some o) (hg : o.g = g) (hm : i + m = o.es.length) (hz : o.sz = sz)
    (hE : Ef O I N n lk (.reg os) ((t, .arr id i m g) :: A) h Q) : Ef O I N n lk (.reg (⟨none, some t, .app sz s x⟩ :: os)) A h Q :=
  ef_op (fun S HS => by simp only [evO, HS.x hs, HS.x hx, hv, ho, hg, hm, hz, and_self, if_true]) ht hE
theorem ef_app {sz : Nat} {s x : MX} {v : MV} {id i m g : Nat} {o : MObj} {e : MV} {xs : List MV} (hs : XV A s (.arr id i m g)) (hx : XV A x v) (hv : v.elems h = some (e :: xs)) (ho : h[id]? = some o) (hg : o.g = g) (hm : i + m = o.es.length) (hz : o.sz = sz) (hl : o.es.length + (e :: xs).length ≤ 4000000)
    (hk : (e :: xs).all (MV.sOk sz) = true) (hlk : lk id = false)
    (hE : Ef O I N n lk (.reg os) ((t, .arr id 0 (m + (e :: xs).length) (g + 1)) :: A) (h.set id ⟨g + 1, false, sz, o.es.drop i ++ (e :: xs)⟩) Q) : Ef O I N n lk (.reg (⟨none, some t, .app sz s x⟩ :: os)) A h Q :=
  ef_op (fun S HS => by simp only [evO, HS.x hs, HS.x hx, hv, ho, hg, hm, hz, hl, hk, hlk, and_self, if_true, reduceCtorEq, if_false]) ht hE
theorem ef_appn {sz : Nat} {s x : MX} {v : MV} {e : MV} {xs : List MV} (hs : XV A s (.lit (.slice none 0 0))) (hx : XV A x v) (hv : v.elems h = some (e :: xs)) (hl : (e :: xs).length ≤ 4000000)
    (hk : (e :: xs).all (MV.sOk sz) = true)
    (hE : Ef O I N n lk (.reg os) ((t, .arr h.length 0 (e :: xs).length 0) :: A) (h ++ [⟨0, false, sz, e :: xs⟩]) Q) : Ef O I N n lk (.reg (⟨none, some t, .app sz s x⟩ :: os)) A h Q :=
  ef_op (fun S HS => by simp only [evO, HS.x hs, HS.x hx, hv, hl, hk, and_self, if_true, reduceCtorEq, if_false]) ht hE
theorem ef_mx {x y : MX} {k k' : IntKind} {a b : Int} (hx : XV A x (.lit (.int k a))) (hy : XV A y (.lit (.int k' b))) (hE : Ef O I N n lk (.reg os) ((t, .lit (.int k (mx a b))) :: A) h Q) : Ef O I N n lk (.reg (⟨none, some t, .mx x y⟩ :: os)) A h Q :=
  ef_op (fun S HS => by simp only [evO, HS.x hx, HS.x hy]; rfl) ht hE
omit ht
theorem ef_mup {c : Nat} {m k x : MX} {v : MV} {id g : Nat} {ps es : List MV} {r : Option (Nat × MV)} (hm : XV A m (.mp id g)) (hk : XV A k (.agg ps)) (hx : XV A x v) (hes : (MV.mp id g).ents h = some es) (hl : ps.length = c) (hlk : lk id = false) (hf : mfind ps es 0 = some r)
    (hE : Ef O I N n lk (.reg os) A (h.set id ⟨g, true, 1, [.tup (mset es (.tup [.agg ps, v]) r)]⟩) Q) : Ef O I N n lk (.reg (⟨none, none, .mup c m k x⟩ :: os)) A h Q :=
  ef_op0 (v := .lit undef) (fun s hs => by simp only [evO, hs.x hm, hs.x hk, hs.x hx, hes, hl, hlk, and_self, if_true, hf]) hE
theorem ef_st {sz : Nat} {a x : MX} {v : MV} {id i off g : Nat} {o : MObj} {e e' : MV} (hx : XV A x v) (hk : v.sOk sz = true) (ha : XV A a (.ptr id i off g)) (ho : h[id]? = some o) (hg : o.g = g) (hlk : lk id = false) (he : o.es[i]? = some e) (hw : wrElem e off v = some e')
    (hE : Ef O I N n lk (.reg os) A (h.set id { o with es := o.es.set i e' }) Q) : Ef O I N n lk (.reg (⟨none, none, .st sz a x⟩ :: os)) A h Q :=
  ef_op0 (v := .lit undef) (fun S HS => by simp only [evO, HS.x hx, hk, HS.x ha, ho, hg, hlk, he, hw, and_self, if_true]) hE
end
theorem wrap_of {a : Int} (h1 : -9223372036854775808 ≤ a) (h2 : a ≤ 9223372036854775807) : IntKind.i64.wrap a = a := IntWalk.i64_in _ (by omega)
theorem bin_add {a b c : Int} (h : IntKind.i64.wrap (a + b) = c) : binI .add .i64 a b = some (.int .i64 c) := by rw [← h]; rfl
theorem bin_sub {a b c : Int} (h : IntKind.i64.wrap (a - b) = c) : binI .sub .i64 a b = some (.int .i64 c) := by rw [← h]; rfl
theorem bin_mul {a b c : Int} (h : IntKind.i64.wrap (a * b) = c) : binI .mul .i64 a b = some (.int .i64 c) := by rw [← h]; rfl
theorem rd_whole {cs : List MV} {m : Nat} (h : cs.length = m) : rdCells (MV.agg cs).cells 0 (some m) = some (.agg cs) := by
  subst h
  simp [rdCells, MV.cells]
theorem rd_sub {cs vs : List MV} {off m : Nat} (hl : vs.length = m) (hp : 0 < vs.length) (h : ∀ i, i < m → cs[off + i]? = vs[i]?) : rdCells cs off (some m) = some (.agg vs) := by
  subst hl
  have hle : off + vs.length ≤ cs.length := by
    have := h (vs.length - 1) (by omega)
    have h2 : vs[vs.length - 1]? = some (vs[vs.length - 1]'(by omega)) := List.getElem?_eq_getElem (by omega)
    rw [h2] at this
    have := (List.getElem?_eq_some_iff.1 this).1
    omega
  simp only [rdCells, if_pos hle]
  congr 2
  refine List.ext_getElem? fun i => ?_
  rw [List.getElem?_take]
  split
  · rename_i hi
    rw [List.getElem?_drop]; exact h i hi
  · rename_i hi
    rw [List.getElem?_eq_none (by omega)]
theorem rd_2 {cs : List MV} {off : Nat} {x0 x1 : MV} (h0 : cs[off]? = some x0) (h1 : cs[off + 1]? = some x1) : rdCells cs off (some 2) = some (.agg [x0, x1]) :=
  rd_sub rfl (by simp) fun i hi => by
    match i, hi with
    | 0, _ => exact h0
    | 1, _ => exact h1
theorem rd_3 {cs : List MV} {off : Nat} {x0 x1 x2 : MV} (h0 : cs[off]? = some x0) (h1 : cs[off + 1]? = some x1) (h2 : cs[off + 2]? = some x2) : rdCells cs off (some 3) = some (.agg [x0, x1, x2]) :=
  rd_sub rfl (by simp) fun i hi => by
    match i, hi with
    | 0, _ => exact h0
    | 1, _ => exact h1
    | 2, _ => exact h2
theorem rd_5 {cs : List MV} {off : Nat} {x0 x1 x2 x3 x4 : MV} (h0 : cs[off]? = some x0) (h1 : cs[off + 1]? = some x1) (h2 : cs[off + 2]? = some x2) (h3 : cs[off + 3]? = some x3) (h4 : cs[off + 4]? = some x4) : rdCells cs off (some 5) = some (.agg [x0, x1, x2, x3, x4]) :=
  rd_sub rfl (by simp) fun i hi => by
    match i, hi with
    | 0, _ => exact h0
    | 1, _ => exact h1
    | 2, _ => exact h2
    | 3, _ => exact h3
    | 4, _ => exact h4
def cmpP : BinOp → Int → Int → Prop
  | .lss, a, b => a < b
  | .leq, a, b => a ≤ b
  | .gtr, a, b => b < a
  | .geq, a, b => b ≤ a
  | .eql, a, b => a = b
  | .neq, a, b => a ≠ b
  | _, _, _ => False
def isCmp : BinOp → Bool
  | .lss | .leq | .gtr | .geq | .eql | .neq => true
  | _ => false
theorem cmp_t {op : BinOp} {k : IntKind} {a b : Int} (hc : isCmp op = true) (h : cmpP op a b) : binI op k a b = some (.bool true) := by
  cases op <;> simp [isCmp] at hc <;> simp only [cmpP] at h <;> simp [binI, h]
theorem cmp_f {op : BinOp} {k : IntKind} {a b : Int} (hc : isCmp op = true) (h : ¬ cmpP op a b) : binI op k a b = some (.bool false) := by
  cases op <;> simp [isCmp] at hc <;> simp only [cmpP] at h <;> simp [binI] <;> omega
end Go.Proofs.Ytgjpdjihjphbdaa

/- Contracts of the smallest functions of the program. -/
namespace Go.Proofs.Ytgjpdjihjphbdaa
open Go.RowKit
def inB (a lo hi : Int) : Bool := decide (lo ≤ a ∧ a ≤ hi)
theorem inB_iff {a lo hi : Int} : inB a lo hi = true ↔ lo ≤ a ∧ a ≤ hi := by simp [inB]
theorem inB_not {a lo hi : Int} : inB a lo hi = false ↔ ¬ (lo ≤ a ∧ a ≤ hi) := by simp [inB]
def unl (b : Bool) (n : Int) : Int := if b then 0 else n
set_option maxHeartbeats 400000 in
theorem within_any (a b c : Int) (w : World) :
    Calls Try.prog 129 #[.int .i64 a, .int .i64 b, .int .i64 c] w fun e w' => e = .returned (.bool (inB a b c)) ∧ w = w' := by
  by_cases h1 : b ≤ a
  · go_enter Try.func129, Try.ntmps129
    go_wp2
    go_ret
    exact ⟨by simp [inB, h1], rfl⟩
  · go_enter Try.func129, Try.ntmps129
    go_wp2
    go_ret
    exact ⟨by simp [inB]; omega, rfl⟩
set_option maxHeartbeats 400000 in
theorem unless_any (b : Bool) (n : Int) (w : World) :
    Calls Try.prog 93 #[.bool b, .int .i64 n] w fun e w' => e = .returned (.int .i64 (unl b n)) ∧ w = w' := by
  cases b
  · go_enter Try.func93, Try.ntmps93
    go_wp2
    go_ret
    exact ⟨rfl, rfl⟩
  · go_enter Try.func93, Try.ntmps93
    go_wp2
    go_ret
    exact ⟨rfl, rfl⟩
set_option maxHeartbeats 400000 in
theorem isHeight_any (a : Int) (w : World) :
    Calls Try.prog 94 #[.int .i64 a] w fun e w' => e = .returned (.bool (inB a 0 10000)) ∧ w = w' := by
  go_enter Try.func94, Try.ntmps94
  go_wp2_with (go_at_call 129; refine (within_any _ _ _ _).mono ?_; rintro e w' ⟨rfl, rfl⟩)
  go_ret
  exact ⟨rfl, rfl⟩
set_option maxHeartbeats 400000 in
theorem isPosition_any (a : Int) (w : World) :
    Calls Try.prog 128 #[.int .i64 a] w fun e w' => e = .returned (.bool (inB a 0 1000)) ∧ w = w' := by
  go_enter Try.func128, Try.ntmps128
  go_wp2_with (go_at_call 129; refine (within_any _ _ _ _).mono ?_; rintro e w' ⟨rfl, rfl⟩)
  go_ret
  exact ⟨rfl, rfl⟩
def firstE : List Int → Int
  | [] => 0
  | x :: l => if x ≠ 0 then x else firstE l
set_option maxHeartbeats 400000 in
theorem first_any (A : Option Addr) (n cap : Nat) (xs : List Int) (w : World) (hm : xs.length ≤ 100) (hr : Rd w 1 A n (enc1 xs)) :
    Calls Try.prog 92 #[.slice A n cap] w fun e w' => e = .returned (.int .i64 (firstE xs)) ∧ w = w' := by
  obtain rfl := hr.len1
  go_enter Try.func92, Try.ntmps92
  go_wp2
  go_loop [4, 7] (fun _ i => ∃ k : Nat, k ≤ xs.length ∧ i = .int .i64 k ∧ firstE xs = firstE (xs.drop k)) (fun _ i => xs.length - (intOf i).toNat)
  case atStart => exact ⟨0, Nat.zero_le _, rfl, rfl⟩
  case round =>
    obtain ⟨k, hk, rfl, hz⟩ := hrel
    have HZ := Lib.hid hz
    clear hz
    by_cases hlt : k < xs.length
    · obtain ⟨b, off, rfl, _, hcell⟩ := hr.at1 k hlt
      have HD := Lib.hid (drop_at xs k hlt)
      clear hr
      generalize xs[k] = x at hcell HD
      by_cases hx : x = 0
      · subst hx
        go_wp2
        go_round
        case rel => exact ⟨k + 1, by omega, by go_num, by rw [HZ.out, HD.out]; simp [firstE]⟩
        case measure => simp [intOf]; omega
      · have HX : (x != 0) = true := by simpa using hx
        have HXX := Lib.hid hx
        clear hx
        go_wp2
        go_ret
        exact ⟨ret_int (by rw [HZ.out, HD.out]; simp [firstE, HXX.out]), rfl⟩
    · clear hr
      go_wp2
      go_ret
      exact ⟨ret_int (by rw [HZ.out, List.drop_eq_nil_of_le (by omega)]; rfl), rfl⟩
theorem first2_any (b c : Nat) (x y : Int) (w : World) (h0 : w.cell? ⟨b, 0, none⟩ = some (.int .i64 x)) (h1 : w.cell? ⟨b, 1, none⟩ = some (.int .i64 y)) :
    Calls Try.prog 92 #[.slice (some ⟨b, 0, none⟩) 2 c] w fun e w' => e = .returned (.int .i64 (firstE [x, y])) ∧ w = w' :=
  first_any _ 2 c [x, y] w (by simp) (Rd.block1 [x, y] (cell_lt h0) fun j hj => by
    match j, hj with
    | 0, _ => exact h0
    | 1, _ => exact h1
    | j + 2, hj => exact absurd hj (by simp))
theorem first_new (xs : List Int) (hx : xs.length ≤ 100) (W : World) (T : TypeId) :
    Calls Try.prog 92 #[.slice (some ⟨W.heap.size, 0, none⟩) xs.length xs.length] (W.alloc (.cells (enc1 xs).toArray T)) fun e w' => e = .returned (.int .i64 (firstE xs)) ∧ W.alloc (.cells (enc1 xs).toArray T) = w' :=
  first_any _ xs.length xs.length xs _ hx (Rd.block1 xs (by simp) fun j hj => by
    rw [World.cell?_alloc_at _ _ _ _ rfl]
    simp [enc1, hj])
theorem first2_new (a b : Int) (W : World) (T : TypeId) :
    Calls Try.prog 92 #[.slice (some ⟨W.heap.size, 0, none⟩) 2 2] (W.alloc (.cells #[.int .i64 a, .int .i64 b] T)) fun e w' => e = .returned (.int .i64 (firstE [a, b])) ∧ W.alloc (.cells #[.int .i64 a, .int .i64 b] T) = w' := first_new [a, b] (by simp) W T
end Go.Proofs.Ytgjpdjihjphbdaa

/- 'piecesErr': the error of pieces. -/
namespace Go.Proofs.Ytgjpdjihjphbdaa
open Go.RowKit
def pieceE (last lo hi : Int) : Int := firstE [unl (inB lo 0 200 && inB hi 0 200) 2, unl (decide (lo ≤ hi) && decide (last + 1 < lo)) 9]
def piecesE (last : Int) : List (Int × Int) → Int
  | [] => 0
  | p :: l => if pieceE last p.1 p.2 ≠ 0 then pieceE last p.1 p.2 else piecesE p.2 l
theorem pieceE_zero {last lo hi : Int} (h : pieceE last lo hi = 0) : 0 ≤ lo ∧ lo ≤ 200 ∧ 0 ≤ hi ∧ hi ≤ 200 := by
  unfold pieceE unl at h
  cases h1 : (inB lo 0 200 && inB hi 0 200)
  · rw [h1] at h; simp [firstE] at h
  · simp only [Bool.and_eq_true, inB_iff] at h1
    omega
set_option maxHeartbeats 4000000 in
theorem piecesErr_any (A : Option Addr) (n cap : Nat) (xs : List (Int × Int)) (w : World) (hm : xs.length ≤ 30) (hr : Rd w 2 A n (enc2 xs)) :
    Calls Try.prog 95 #[.slice A n cap] w (Ret w (.int .i64 (piecesE (-2) xs))) := by
  obtain rfl := hr.len2
  go_enter Try.func95, Try.ntmps95
  go_wp2
  go_loopw [3, 5, 6, 7, 13] (fun la _ _ _ i wr => ∃ (k : Nat) (last : Int), k ≤ xs.length ∧ i = .int .i64 k ∧ la = .int .i64 last ∧ -2 ≤ last ∧ last ≤ 200 ∧ piecesE (-2) xs = piecesE last (xs.drop k) ∧ Below w.heap.size w wr) (fun _ _ _ _ i _ => xs.length - (intOf i).toNat)
  case atStart => exact ⟨0, -2, Nat.zero_le _, rfl, rfl, by omega, by omega, rfl, Below.refl _ _⟩
  case round =>
    obtain ⟨k, last, hk, rfl, rfl, hl1, hl2, hz, hb⟩ := hrel
    have HZ := Lib.hid hz
    clear hz
    by_cases hlt : k < xs.length
    · obtain ⟨b, off, rfl, hbl, hc1, hc2⟩ := (hr.below rfl hb).at2 k hlt
      have HD := Lib.hid (drop_at xs k hlt)
      clear hr
      generalize xs[k] = x at hc1 hc2 HD
      obtain ⟨lo, hi⟩ := x
      dsimp only at hc1 hc2
      go_upto_region 7 with fail
      go_cut [6] (fun c wx => c = .bool (inB lo 0 200 && inB hi 0 200) ∧ wx = wr.alloc (.cells #[.int .i64 lo, .int .i64 hi] 129))
      case first =>
        cases h1 : inB lo 0 200
        all_goals
          go_wp2_with (first | (go_at_call 129; refine (within_any _ _ _ _).mono ?_; rintro e w' ⟨rfl, rfl⟩))
          go_meet
          exact ⟨by simp [h1], rfl⟩
      case rest =>
        obtain ⟨rfl, rfl⟩ := hcut
        have hwr : IntKind.i64.wrap (last + 1) = last + 1 := IntWalk.i64_in _ (by omega)
        have HP : Hid (pieceE last lo hi = firstE [unl (inB lo 0 200 && inB hi 0 200) 2, unl (decide (lo ≤ hi) && decide (last + 1 < lo)) 9]) := rfl
        generalize (inB lo 0 200 && inB hi 0 200) = c at *
        go_upto_region 8 with fail
        go_cut [7] (fun r wx => r = .int .i64 (pieceE last lo hi) ∧ Below w.heap.size w wx ∧ wx.cell? ⟨wr.heap.size, 0, none⟩ = some (.int .i64 lo) ∧ wx.cell? ⟨wr.heap.size, 1, none⟩ = some (.int .i64 hi))
        case first =>
          have hB : Below w.heap.size w ((wr.alloc (.cells #[.int .i64 lo, .int .i64 hi] 129))) := hb.alloc hb.size _
          have hS : w.heap.size ≤ wr.heap.size := hb.size
          by_cases h3 : lo ≤ hi
          · by_cases h4 : last + 1 < lo
            · skip
              have HQ := Lib.hid (show pieceE last lo hi = firstE [unl c 2, unl true 9] by rw [HP.out]; simp [h3, h4])
              refine wp_region_calm_tail 15 (by kernel_rfl) (by kernel_rfl) ?_
              simp only [List.take_succ_cons, List.take_zero, List.drop_succ_cons, List.drop_zero]
              repeat (go_big_quiet_step (first | (go_at_call 93; exact After.same (unless_any _ _ _))))
              refine wpQuiet_nil ?_
              intro w1 hb1
              obtain ⟨hcc, hff⟩ := bcell hb1
              have hz1 : wr.heap.size + 1 ≤ w1.heap.size := by have := hb1.size; simpa using this
              go_wp2_with (first | (go_at_call 92; refine (first2_any _ _ (unl c 2) (unl true 9) _ (by simp) (by simp)).mono ?_; rintro e w' ⟨rfl, rfl⟩))
              go_meet
              exact ⟨ret_num HQ.out.symm, (hB.trans (hb1.mono hB.size)).alloc (by omega) _, cell_alloc (cell_below (by simp) hb1) _, cell_alloc (cell_below (by simp) hb1) _⟩
            · skip
              have HQ := Lib.hid (show pieceE last lo hi = firstE [unl c 2, unl false 9] by rw [HP.out]; simp [h3, h4])
              refine wp_region_calm_tail 15 (by kernel_rfl) (by kernel_rfl) ?_
              simp only [List.take_succ_cons, List.take_zero, List.drop_succ_cons, List.drop_zero]
              repeat (go_big_quiet_step (first | (go_at_call 93; exact After.same (unless_any _ _ _))))
              refine wpQuiet_nil ?_
              intro w1 hb1
              obtain ⟨hcc, hff⟩ := bcell hb1
              have hz1 : wr.heap.size + 1 ≤ w1.heap.size := by have := hb1.size; simpa using this
              go_wp2_with (first | (go_at_call 92; refine (first2_any _ _ (unl c 2) (unl false 9) _ (by simp) (by simp)).mono ?_; rintro e w' ⟨rfl, rfl⟩))
              go_meet
              exact ⟨ret_num HQ.out.symm, (hB.trans (hb1.mono hB.size)).alloc (by omega) _, cell_alloc (cell_below (by simp) hb1) _, cell_alloc (cell_below (by simp) hb1) _⟩
          · have h5 : decide (lo ≤ hi) = false := by simpa using h3
            have HQ := Lib.hid (show pieceE last lo hi = firstE [unl c 2, unl false 9] by rw [HP.out]; simp [h5])
            refine wp_region_calm_tail 15 (by kernel_rfl) (by kernel_rfl) ?_
            simp only [List.take_succ_cons, List.take_zero, List.drop_succ_cons, List.drop_zero]
            repeat (go_big_quiet_step (first | (go_at_call 93; exact After.same (unless_any _ _ _))))
            refine wpQuiet_nil ?_
            intro w1 hb1
            obtain ⟨hcc, hff⟩ := bcell hb1
            have hz1 : wr.heap.size + 1 ≤ w1.heap.size := by have := hb1.size; simpa using this
            go_wp2_with (first | (go_at_call 92; refine (first2_any _ _ (unl c 2) (unl false 9) _ (by simp) (by simp)).mono ?_; rintro e w' ⟨rfl, rfl⟩))
            go_meet
            exact ⟨ret_num HQ.out.symm, (hB.trans (hb1.mono hB.size)).alloc (by omega) _, cell_alloc (cell_below (by simp) hb1) _, cell_alloc (cell_below (by simp) hb1) _⟩
        case rest =>
          obtain ⟨rfl, hb', hc1', hc2'⟩ := hcut
          by_cases hp : pieceE last lo hi = 0
          · obtain ⟨q1, q2, q3, q4⟩ := pieceE_zero hp
            have HPZ := Lib.hid hp
            have hp' : (pieceE last lo hi != 0) = false := by simp [hp]
            clear hp
            go_wp2
            go_roundw
            case rel => exact ⟨k + 1, hi, by omega, by go_num, rfl, by omega, by omega, by rw [HZ.out, HD.out]; simp [piecesE, HPZ.out], hb'⟩
            case measure => simp [intOf]; omega
          · have hp' : (pieceE last lo hi != 0) = true := by simpa using hp
            have HPZ := Lib.hid hp
            clear hp
            go_wp2
            go_ret
            exact ⟨ret_int (by rw [HZ.out, HD.out]; simp [piecesE, HPZ.out]), hb'⟩
    · clear hr
      go_wp2
      go_ret
      exact ⟨ret_int (by rw [HZ.out, List.drop_eq_nil_of_le (by omega)]; rfl), hb⟩
theorem piecesErr_long (A : Option Addr) (n cap : Nat) (xs : List (Int × Int)) (w : World) (hm : 30 < xs.length) (hx : xs.length ≤ 9223372036854775807) (hr : Rd w 2 A n (enc2 xs)) :
    Calls Try.prog 95 #[.slice A n cap] w (Ret w (.int .i64 8)) := by
  obtain rfl := hr.len2
  clear hr
  go_enter Try.func95, Try.ntmps95
  go_wp2
  go_ret
  exact ⟨rfl, Below.refl _ _⟩
def piecesAll (xs : List (Int × Int)) : Int := if 30 < xs.length then 8 else piecesE (-2) xs
theorem piecesErr_all (A : Option Addr) (n cap : Nat) (xs : List (Int × Int)) (w : World) (hx : xs.length ≤ 9223372036854775807) (hr : Rd w 2 A n (enc2 xs)) :
    Calls Try.prog 95 #[.slice A n cap] w (Ret w (.int .i64 (piecesAll xs))) := by
  unfold piecesAll
  split
  · exact piecesErr_long A n cap xs w (by omega) hx hr
  · exact piecesErr_any A n cap xs w (by omega) hr
theorem piecesE_range : ∀ (xs : List (Int × Int)) (last : Int), piecesE last xs = 0 → ∀ p ∈ xs, 0 ≤ p.1 ∧ p.1 ≤ 200 ∧ 0 ≤ p.2 ∧ p.2 ≤ 200
  | [], _, _, p, hp => by cases hp
  | q :: xs, last, h, p, hp => by
    unfold piecesE at h
    by_cases hq : pieceE last q.1 q.2 = 0
    · simp only [hq] at h
      rcases List.mem_cons.1 hp with rfl | hp
      · have := pieceE_zero hq; omega
      · exact piecesE_range xs q.2 (by simpa using h) p hp
    · rw [if_pos hq] at h
      exact absurd h hq
end Go.Proofs.Ytgjpdjihjphbdaa

/- Plain words for groups of pieces (no program). -/
namespace Go.Proofs.Ytgjpdjihjphbdaa
def gin (K : Int) (lo hi : Nat → Int) (C : Nat → Int) (i : Nat) : Nat → Int × Int
  | 0 => (0, 0)
  | m + 1 => if m = 0 ∨ K + hi (i + m) - lo i + C (i + m + 1) < (gin K lo hi C i m).1 then (K + hi (i + m) - lo i + C (i + m + 1), m + 1) else gin K lo hi C i m
def tabC (K : Int) (lo hi : Nat → Int) (n : Nat) : Nat → Nat → Int
  | 0 => fun _ => 0
  | d + 1 => fun j => if j = n - 1 - d then (gin K lo hi (tabC K lo hi n d) (n - 1 - d) (d + 1)).1 else tabC K lo hi n d j
def tabS (K : Int) (lo hi : Nat → Int) (n : Nat) : Nat → Nat → Int
  | 0 => fun _ => 0
  | d + 1 => fun j => if j = n - 1 - d then (gin K lo hi (tabC K lo hi n d) (n - 1 - d) (d + 1)).2 else tabS K lo hi n d j
theorem tabC_succ (K : Int) (lo hi : Nat → Int) (n d j : Nat) : tabC K lo hi n (d + 1) j = if j = n - 1 - d then (gin K lo hi (tabC K lo hi n d) (n - 1 - d) (d + 1)).1 else tabC K lo hi n d j := rfl
theorem tabS_succ (K : Int) (lo hi : Nat → Int) (n d j : Nat) : tabS K lo hi n (d + 1) j = if j = n - 1 - d then (gin K lo hi (tabC K lo hi n d) (n - 1 - d) (d + 1)).2 else tabS K lo hi n d j := rfl
def gOut (S : Nat → Int) (n : Nat) : Nat → Nat → List Int
  | 0, _ => []
  | f + 1, i => if i < n then S i :: gOut S n f (i + (S i).toNat) else []
theorem gOut_end (S : Nat → Int) (n f i : Nat) (h : n ≤ i) : gOut S n f i = [] := by
  cases f with
  | zero => rfl
  | succ f => unfold gOut; rw [if_neg (by omega)]
theorem gOut_step (S : Nat → Int) (n f i : Nat) (h : i < n) : gOut S n (f + 1) i = S i :: gOut S n f (i + (S i).toNat) := by
  rw [gOut, if_pos h]
theorem gin_size (K : Int) (lo hi C : Nat → Int) (i : Nat) (m : Nat) (hm : 0 < m) : 1 ≤ (gin K lo hi C i m).2 ∧ (gin K lo hi C i m).2 ≤ m := by
  induction m with
  | zero => omega
  | succ m ih =>
    unfold gin
    split
    · constructor <;> simp <;> omega
    · rename_i h
      have := ih (by omega)
      constructor <;> push_cast <;> omega
theorem tabS_size (K : Int) (lo hi : Nat → Int) (n : Nat) (d : Nat) (hd : d ≤ n) (j : Nat) (hj : n - d ≤ j) (hjn : j < n) : 1 ≤ tabS K lo hi n d j ∧ tabS K lo hi n d j ≤ ((n - j : Nat) : Int) := by
  induction d with
  | zero => omega
  | succ d ih =>
    unfold tabS
    by_cases h : j = n - 1 - d
    · simp only [if_pos h]
      have := gin_size K lo hi (tabC K lo hi n d) (n - 1 - d) (d + 1) (by omega)
      have e : n - j = d + 1 := by omega
      rw [e]; exact this
    · simp only [if_neg h]
      exact ih (by omega) (by omega)
theorem gin_bound (K : Int) (lo hi C : Nat → Int) (i : Nat) (B : Int) (m : Nat) (hm : 0 < m) (hK : 0 ≤ K ∧ K ≤ 30000) (hlo : ∀ j, 0 ≤ lo j ∧ lo j ≤ 200) (hhi : ∀ j, 0 ≤ hi j ∧ hi j ≤ 200) (hC : ∀ j, -B ≤ C j ∧ C j ≤ B) :
    -(B + 31000) ≤ (gin K lo hi C i m).1 ∧ (gin K lo hi C i m).1 ≤ B + 31000 := by
  induction m with
  | zero => omega
  | succ m ih =>
    unfold gin
    have h1 := hlo i
    have h2 := hhi (i + m)
    have h3 := hC (i + m + 1)
    split
    · constructor <;> simp <;> omega
    · rename_i h
      exact ih (by omega)
theorem tabC_bound (K : Int) (lo hi : Nat → Int) (n : Nat) (d : Nat) (hK : 0 ≤ K ∧ K ≤ 30000) (hlo : ∀ j, 0 ≤ lo j ∧ lo j ≤ 200) (hhi : ∀ j, 0 ≤ hi j ∧ hi j ≤ 200) (j : Nat) :
    -(d * 31000 : Int) ≤ tabC K lo hi n d j ∧ tabC K lo hi n d j ≤ d * 31000 := by
  induction d generalizing j with
  | zero => simp [tabC]
  | succ d ih =>
    unfold tabC
    by_cases h : j = n - 1 - d
    · simp only [if_pos h]
      have := gin_bound K lo hi (tabC K lo hi n d) (n - 1 - d) (d * 31000) (d + 1) (by omega) hK hlo hhi (fun j => ih j)
      constructor <;> push_cast <;> omega
    · simp only [if_neg h]
      have := ih j
      constructor <;> push_cast <;> omega
theorem tabS_zero (K : Int) (lo hi : Nat → Int) (n : Nat) (d : Nat) (hd : d ≤ n) (j : Nat) (hj : j < n - d) : tabS K lo hi n d j = 0 := by
  induction d with
  | zero => rfl
  | succ d ih => rw [tabS_succ, if_neg (by omega)]; exact ih (by omega) (by omega)
end Go.Proofs.Ytgjpdjihjphbdaa

/- 'GroupsOf': the best groups of pieces. -/
namespace Go.Proofs.Ytgjpdjihjphbdaa
open Go.RowKit
def groupsErr (fixed lead : Int) (xs : List (Int × Int)) : Int := firstE [unl (inB fixed 0 10000 && inB lead 0 10000) 2, piecesAll xs]
set_option maxRecDepth 100000 in
set_option maxHeartbeats 4000000 in
theorem GroupsOf_bad (fixed lead : Int) (A : Option Addr) (n cap : Nat) (xs : List (Int × Int)) (w : World) (hx : xs.length ≤ 9223372036854775807) (hr : Rd w 2 A n (enc2 xs)) (he : groupsErr fixed lead xs ≠ 0) :
    Calls Try.prog 16 #[.agg #[.int .i64 fixed, .int .i64 lead], .slice A n cap] w (Ret w (.tuple #[.slice none 0 0, .int .i64 0, .int .i64 (groupsErr fixed lead xs)])) := by
  have hp := Lib.hid (piecesErr_all A n cap xs)
  have HE : (groupsErr fixed lead xs != 0) = true := by simpa using he
  clear he
  have hr' := hr.below rfl (((Below.refl _ w).alloc (Nat.le_refl _) (.cells #[.int .i64 fixed, .int .i64 lead] 23)))
  clear hr
  have HG := Lib.hid (show groupsErr fixed lead xs = firstE [unl (inB fixed 0 10000 && inB lead 0 10000) 2, piecesAll xs] from rfl)
  go_enter Try.func16, Try.ntmps16
  go_upto_region 1 with fail
  go_cut [7] (fun e wx => e = .int .i64 (groupsErr fixed lead xs) ∧ Below w.heap.size w wx)
  case first =>
    cases h1 : inB fixed 0 10000
    all_goals
      go_wp2_with (first | (go_at_call 94; refine (isHeight_any _ _).mono ?_; rintro e w' ⟨rfl, rfl⟩) | (go_at_call 93; refine (unless_any _ _ _).mono ?_; rintro e w' ⟨rfl, rfl⟩) | (go_at_call 95; refine (hp.out _ hx hr').mono ?_; rintro e w1 ⟨rfl, hb1⟩) | (go_at_call 92; refine (first2_new _ _ _ _).mono ?_; rintro e w' ⟨rfl, rfl⟩))
      go_meet
      exact ⟨ret_num (by rw [HG.out, h1]; rfl), (((Below.refl _ w).alloc (Nat.le_refl _) _).trans (hb1.mono (by simp))).alloc (by have := hb1.size; simp at this; omega) _⟩
  case rest =>
    obtain ⟨rfl, hb⟩ := hcut
    go_wp2
    go_ret3
    exact ⟨rfl, hb⟩
def pLo (xs : List (Int × Int)) : Nat → Int := fun j => (xs.getD j (0, 0)).1
def pHi (xs : List (Int × Int)) : Nat → Int := fun j => (xs.getD j (0, 0)).2
def gCost (fixed lead : Int) (xs : List (Int × Int)) : Int := tabC (fixed + 2 * lead) (pLo xs) (pHi xs) xs.length xs.length 0
def gSizes (fixed lead : Int) (xs : List (Int × Int)) : List Int := gOut (tabS (fixed + 2 * lead) (pLo xs) (pHi xs) xs.length xs.length) xs.length xs.length 0
def GroupsPost (fixed lead : Int) (xs : List (Int × Int)) (w : World) (e : Ending) (w' : World) : Prop :=
  ∃ v, e = .returned (.tuple #[v, .int .i64 (gCost fixed lead xs), .int .i64 0]) ∧ w'.ownsRow w.heap.size 3 1 v (gSizes fixed lead xs).length (enc1 (gSizes fixed lead xs)) ∧ Below w.heap.size w w'
theorem GroupsPost.mk {fixed lead : Int} {xs : List (Int × Int)} {w wo wr wx : World} {v : Value} {c E : Int} {acc : List Int} {e : Ending} (he : e = .returned (.tuple #[v, .int .i64 c, .int .i64 E])) (hE : E = 0) (hc : c = gCost fixed lead xs) (ha : acc = gSizes fixed lead xs)
    (ho : wr.ownsRow wo.heap.size 3 1 v acc.length (enc1 acc)) (hx : Below wr.heap.size wr wx) (hb : Below w.heap.size w wo) (hbr : Below wo.heap.size wo wr) : GroupsPost fixed lead xs w e wx := by
  subst he hE hc ha
  exact ⟨v, rfl, owns_base (owns_below ho hx) hb.size, (hb.trans (hbr.mono hb.size)).trans (hx.mono (Nat.le_trans hb.size hbr.size))⟩
structure GSt (w : World) (fixed lead : Int) (n mq p q : Nat) (F G : Nat → Int) (wr : World) : Prop where
  pq : p ≠ q
  hp : w.heap.size < p
  hq : w.heap.size < q
  rp : wr.rowIs p 3 (n + 1) (fun j => .int .i64 (F j))
  rq : wr.rowIs q 3 mq (fun j => .int .i64 (G j))
  below : Below w.heap.size w wr
  c0 : wr.cell? ⟨w.heap.size, 0, none⟩ = some (.int .i64 fixed)
  c1 : wr.cell? ⟨w.heap.size, 1, none⟩ = some (.int .i64 lead)
theorem GSt.start1 {w wc : World} {fixed lead : Int} {n : Nat} (hb : Below w.heap.size w wc) (hlt : w.heap.size < wc.heap.size) (hc0 : wc.cell? ⟨w.heap.size, 0, none⟩ = some (.int .i64 fixed)) (hc1 : wc.cell? ⟨w.heap.size, 1, none⟩ = some (.int .i64 lead)) :
    GSt w fixed lead n n wc.heap.size (wc.heap.size + 1) (fun _ => 0) (fun _ => 0) ((wc.alloc (.cells (madeCells #[.int .i64 0] (n + 1)) 3)).alloc (.cells (madeCells #[.int .i64 0] n) 3)).drew := by
  refine ⟨by omega, hlt, by omega, ((World.rowIs_made _ _ _ _).alloc _).drew, ?_, (((hb.alloc hb.size _).alloc (by simp; have := hb.size; omega) _)).drew, cell_alloc (cell_alloc hc0 _) _, cell_alloc (cell_alloc hc1 _) _⟩
  have := World.rowIs_made (wc.alloc (.cells (madeCells #[.int .i64 0] (n + 1)) 3)) (.int .i64 0) n 3
  simpa using this.drew
theorem GSt.start2 {w wc : World} {fixed lead : Int} {n : Nat} (hb : Below w.heap.size w wc) (hlt : w.heap.size < wc.heap.size) (hc0 : wc.cell? ⟨w.heap.size, 0, none⟩ = some (.int .i64 fixed)) (hc1 : wc.cell? ⟨w.heap.size, 1, none⟩ = some (.int .i64 lead)) :
    GSt w fixed lead n n (wc.heap.size + 1) wc.heap.size (fun _ => 0) (fun _ => 0) ((wc.alloc (.cells (madeCells #[.int .i64 0] n) 3)).alloc (.cells (madeCells #[.int .i64 0] (n + 1)) 3)).drew := by
  refine ⟨by omega, by omega, hlt, ?_, ((World.rowIs_made _ _ _ _).alloc _).drew, (((hb.alloc hb.size _).alloc (by simp; have := hb.size; omega) _)).drew, cell_alloc (cell_alloc hc0 _) _, cell_alloc (cell_alloc hc1 _) _⟩
  have := World.rowIs_made (wc.alloc (.cells (madeCells #[.int .i64 0] n) 3)) (.int .i64 0) (n + 1) 3
  simpa using this.drew
theorem GSt.store {w wr : World} {fixed lead : Int} {n mq p q : Nat} {F G : Nat → Int} (h : GSt w fixed lead n mq p q F G wr) (i : Nat) (c s : Int) :
    GSt w fixed lead n mq p q (fun j => if j = i then c else F j) (fun j => if j = i then s else G j) ((wr.setCell ⟨p, i, none⟩ (.int .i64 c)).setCell ⟨q, i, none⟩ (.int .i64 s)) := by
  have h1 := h.hp
  have h2 := h.hq
  refine ⟨h.pq, h.hp, h.hq, ?_, ?_, (h.below.setCell (p := ⟨p, i, none⟩) (by simp; omega) _).setCell (p := ⟨q, i, none⟩) (by simp; omega) _, cell_set (cell_set h.c0 _ (fun e => by cases e; omega)) _ (fun e => by cases e; omega), cell_set (cell_set h.c1 _ (fun e => by cases e; omega)) _ (fun e => by cases e; omega)⟩
  · exact ((h.rp.set i _).setOther (a := ⟨q, i, none⟩) h.pq _).congr fun j _ => by split <;> rfl
  · exact ((h.rq.setOther (a := ⟨p, i, none⟩) (fun e => h.pq e.symm) _).set i _).congr fun j _ => by split <;> rfl
theorem GSt.later {w wr w3 : World} {fixed lead : Int} {n mq p q : Nat} {F G : Nat → Int} (h : GSt w fixed lead n mq p q F G wr) (hb : Below wr.heap.size wr w3) : GSt w fixed lead n mq p q F G w3 :=
  ⟨h.pq, h.hp, h.hq, rowIs_below h.rp hb, rowIs_below h.rq hb, h.below.trans (hb.mono h.below.size), cell_below h.c0 hb, cell_below h.c1 hb⟩
theorem GSt.congr {w wr : World} {fixed lead : Int} {n mq p q : Nat} {F G F' G' : Nat → Int} (h : GSt w fixed lead n mq p q F G wr) (h1 : ∀ j, F j = F' j) (h2 : ∀ j, G j = G' j) : GSt w fixed lead n mq p q F' G' wr := by
  have e1 : F = F' := funext h1
  have e2 : G = G' := funext h2
  rw [← e1, ← e2]; exact h
def midF (F : Nat → Int) (i m : Nat) (v : Int) : Nat → Int := fun j => if j = i ∧ 0 < m then v else F j
theorem GSt.better {w wr : World} {fixed lead : Int} {n mq p q i m t : Nat} {F G C : Nat → Int} {K : Int} {lo hi : Nat → Int} {v1 v2 c s : Int} (h : GSt w fixed lead n mq p q (midF F i m v1) (midF G i m v2) wr)
    (ht : t = i + m) (hc : c = K + hi t - lo i + C (t + 1)) (hb : m = 0 ∨ c < (gin K lo hi C i m).1) (hs : s = (m : Int) + 1) :
    GSt w fixed lead n mq p q (midF F i (m + 1) (gin K lo hi C i (m + 1)).1) (midF G i (m + 1) (gin K lo hi C i (m + 1)).2) ((wr.setCell ⟨p, i, none⟩ (.int .i64 c)).setCell ⟨q, i, none⟩ (.int .i64 s)) := by
  subst ht
  have e : gin K lo hi C i (m + 1) = (c, (m : Int) + 1) := by
    unfold gin
    rw [← hc, if_pos hb]
  refine (h.store i c s).congr (fun j => ?_) (fun j => ?_)
  · rw [e]; unfold midF; by_cases hj : j = i <;> simp [hj]
  · rw [e, hs]; unfold midF; by_cases hj : j = i <;> simp [hj]
theorem GSt.worse {w wr : World} {fixed lead : Int} {n mq p q i m t : Nat} {F G C : Nat → Int} {K : Int} {lo hi : Nat → Int} {c : Int}
    (h : GSt w fixed lead n mq p q (midF F i m (gin K lo hi C i m).1) (midF G i m (gin K lo hi C i m).2) wr)
    (ht : t = i + m) (hc : c = K + hi t - lo i + C (t + 1)) (hb : ¬ (m = 0 ∨ c < (gin K lo hi C i m).1)) :
    GSt w fixed lead n mq p q (midF F i (m + 1) (gin K lo hi C i (m + 1)).1) (midF G i (m + 1) (gin K lo hi C i (m + 1)).2) wr := by
  subst ht
  have e : gin K lo hi C i (m + 1) = gin K lo hi C i m := by
    rw [gin, ← hc, if_neg hb]
  have hm : 0 < m := by omega
  refine h.congr (fun j => ?_) (fun j => ?_)
  · rw [e]; unfold midF; by_cases hj : j = i <;> simp [hj, hm]
  · rw [e]; unfold midF; by_cases hj : j = i <;> simp [hj, hm]
theorem GSt.round {w wr : World} {fixed lead : Int} {n mq p q i d : Nat} {K : Int} {lo hi : Nat → Int} (hi' : i + 1 + d = n)
    (h : GSt w fixed lead n mq p q (midF (tabC K lo hi n d) i (d + 1) (gin K lo hi (tabC K lo hi n d) i (d + 1)).1) (midF (tabS K lo hi n d) i (d + 1) (gin K lo hi (tabC K lo hi n d) i (d + 1)).2) wr) :
    GSt w fixed lead n mq p q (tabC K lo hi n (d + 1)) (tabS K lo hi n (d + 1)) wr := by
  have e : n - 1 - d = i := by omega
  refine h.congr (fun j => ?_) (fun j => ?_)
  · rw [tabC_succ, e]; unfold midF; by_cases hj : j = i <;> simp [hj]
  · rw [tabS_succ, e]; unfold midF; by_cases hj : j = i <;> simp [hj]
set_option maxRecDepth 100000 in
set_option maxHeartbeats 4000000 in
theorem GroupsOf_ok (fixed lead : Int) (A : Option Addr) (n cap : Nat) (xs : List (Int × Int)) (w : World) (hx : xs.length ≤ 30) (hr : Rd w 2 A n (enc2 xs)) (he : groupsErr fixed lead xs = 0)
    (hf : 0 ≤ fixed ∧ fixed ≤ 10000) (hl : 0 ≤ lead ∧ lead ≤ 10000) (hbd : ∀ p ∈ xs, 0 ≤ p.1 ∧ p.1 ≤ 200 ∧ 0 ≤ p.2 ∧ p.2 ≤ 200) :
    Calls Try.prog 16 #[.agg #[.int .i64 fixed, .int .i64 lead], .slice A n cap] w (GroupsPost fixed lead xs w) := by
  have hp := Lib.hid (piecesErr_all A n cap xs)
  have HE : (groupsErr fixed lead xs != 0) = false := by simp [he]
  have hr' := hr.below rfl (((Below.refl _ w).alloc (Nat.le_refl _) (.cells #[.int .i64 fixed, .int .i64 lead] 23)))
  have HG := Lib.hid (show groupsErr fixed lead xs = firstE [unl (inB fixed 0 10000 && inB lead 0 10000) 2, piecesAll xs] from rfl)
  obtain rfl := hr.len2
  clear he
  go_enter Try.func16, Try.ntmps16
  go_upto_region 1 with fail
  go_cut [7] (fun e wx => e = .int .i64 (groupsErr fixed lead xs) ∧ Below w.heap.size w wx ∧ wx.cell? ⟨w.heap.size, 0, none⟩ = some (.int .i64 fixed) ∧ wx.cell? ⟨w.heap.size, 1, none⟩ = some (.int .i64 lead))
  case first =>
    have h1 : inB fixed 0 10000 = true := inB_iff.2 hf
    go_wp2_with (first | (go_at_call 94; refine (isHeight_any _ _).mono ?_; rintro e w' ⟨rfl, rfl⟩) | (go_at_call 93; refine (unless_any _ _ _).mono ?_; rintro e w' ⟨rfl, rfl⟩) | (go_at_call 95; refine (hp.out _ (by omega) hr').mono ?_; rintro e w1 ⟨rfl, hb1⟩) | (go_at_call 92; refine (first2_new _ _ _ _).mono ?_; rintro e w' ⟨rfl, rfl⟩))
    go_meet
    exact ⟨ret_num (by rw [HG.out, h1]; rfl), (((Below.refl _ w).alloc (Nat.le_refl _) _).trans (hb1.mono (by simp))).alloc (by have := hb1.size; simp at this; omega) _, cell_alloc (cell_below (by simp) hb1) _, cell_alloc (cell_below (by simp) hb1) _⟩
  case rest =>
    obtain ⟨rfl, hb, hc0, hc1⟩ := hcut
    clear hp hr' HG
    go_upto_region 5 with fail
    have hmk0 := make_int xs.length (by omega)
    have hmk1 := make_int (xs.length + 1) (by omega)
    have ec : ((xs.length + 1 : Nat) : Int) = (xs.length : Int) + 1 := by omega
    rw [ec] at hmk1
    clear ec
    go_cut [9, 10] (fun a b wx => ∃ p q, a = .slice (some ⟨p, 0, none⟩) (xs.length + 1) (xs.length + 1) ∧ b = .slice (some ⟨q, 0, none⟩) xs.length xs.length ∧ GSt w fixed lead xs.length xs.length p q (fun _ => 0) (fun _ => 0) wx)
    case first =>
      have hsz := hb.size
      go_region
      all_goals (go_wp2_with fail; go_meet)
      · exact ⟨_, _, rfl, rfl, GSt.start1 hb (cell_lt hc0) hc0 hc1⟩
      · exact ⟨_, _, rfl, rfl, GSt.start2 hb (cell_lt hc0) hc0 hc1⟩
    case rest =>
      clear hmk0 hmk1 hc0 hc1 hb HE
      obtain ⟨p, q, rfl, rfl, hst⟩ := hcut
      obtain ⟨K, hK⟩ : ∃ K, K = fixed + 2 * lead := ⟨_, rfl⟩
      obtain ⟨lo, hlo⟩ : ∃ lo : Nat → Int, lo = pLo xs := ⟨_, rfl⟩
      obtain ⟨hi, hhi⟩ : ∃ hi : Nat → Int, hi = pHi xs := ⟨_, rfl⟩
      have BLO := Lib.hid (show ∀ j, 0 ≤ lo j ∧ lo j ≤ 200 from fun j => by
        rw [hlo]; unfold pLo
        by_cases hj : j < xs.length
        · have := hbd xs[j] (List.getElem_mem hj); simp [hj]; omega
        · simp [hj])
      have BHI := Lib.hid (show ∀ j, 0 ≤ hi j ∧ hi j ≤ 200 from fun j => by
        rw [hhi]; unfold pHi
        by_cases hj : j < xs.length
        · have := hbd xs[j] (List.getElem_mem hj); simp [hj]; omega
        · simp [hj])
      clear hbd
      have HK := Lib.hid hK
      have HLO := Lib.hid hlo
      have HHI := Lib.hid hhi
      clear hK hlo hhi
      have HST := Lib.hid hst
      clear hst
      go_wp2
      go_loopw [11, 12, 13] (fun fr _ _ wr => ∃ r d, r + d = xs.length ∧ fr = .int .i64 ((r : Int) - 1) ∧ GSt w fixed lead xs.length xs.length p q (tabC K lo hi xs.length d) (tabS K lo hi xs.length d) wr) (fun fr _ _ _ => (intOf fr + 1).toNat)
      case atStart => exact ⟨xs.length, 0, by omega, rfl, HST.out⟩
      case round =>
        obtain ⟨r, d, hrd, rfl, hst⟩ := hrel
        have HST := Lib.hid hst
        clear hst
        rcases r with _ | i
        · obtain rfl : d = xs.length := by omega
          have e : ((0 : Nat) : Int) - 1 = -1 := rfl
          rw [e]
          clear hr e hrd
          obtain ⟨S, hS⟩ : ∃ S, S = tabS K lo hi xs.length xs.length := ⟨_, rfl⟩
          have hsz : ∀ j, j < xs.length → 1 ≤ S j ∧ S j ≤ ((xs.length - j : Nat) : Int) := fun j hj => by rw [hS]; exact tabS_size K lo hi xs.length xs.length (Nat.le_refl _) j (by omega) hj
          have HSZ := Lib.hid hsz
          rw [← hS] at HST
          have HSS := Lib.hid hS
          clear hsz hS
          obtain ⟨i0, hi0, hz0, hz1, hz2⟩ := info_parts Try.infoInt
          go_wp2
          obtain ⟨wo, rfl⟩ : ∃ wo : World, wo = wr := ⟨_, rfl⟩
          go_loopw [14, 15] (fun out fr wr => ∃ (i f : Nat) (acc : List Int), i ≤ xs.length ∧ fr = .int .i64 (i : Int) ∧ xs.length - i ≤ f ∧ acc ++ gOut S xs.length f i = gOut S xs.length xs.length 0 ∧ acc.length ≤ i ∧ wr.ownsRow wo.heap.size 3 1 out acc.length (enc1 acc) ∧ Below wo.heap.size wo wr) (fun _ fr _ => xs.length - (intOf fr).toNat)
          case atStart => exact ⟨0, xs.length, [], by omega, rfl, by omega, rfl, by simp, World.ownsRow_nil _ _ _ _, Below.refl _ _⟩
          case round =>
            obtain ⟨i, f, acc, hin, rfl, hf1, hacc, hal, hown, hbl⟩ := hrel
            have HA := Lib.hid hacc
            have HST2 := Lib.hid (HST.out.later hbl)
            clear hacc
            by_cases hlt : i < xs.length
            · have hcq := HST2.out.rq.cell (i := i) hlt
              obtain ⟨s1, s2⟩ := HSZ.out i hlt
              obtain ⟨s, hs⟩ : ∃ s, s = S i := ⟨_, rfl⟩
              rw [← hs] at hcq s1 s2
              have HSI := Lib.hid hs
              clear hs
              have hB := hbl.size
              go_wp2_with (at_builtin; refine wpList_append_own _ rfl _ _ 25 rfl wo.heap.size 3 i0 (.int .i64 0) 1 8 Try.underlying25 hi0 hz0 hz1 hz2 rfl (by decide) _ _ _ rfl (hown.alloc _) ⟨wr.heap.size, 0, none⟩ 1 1 [.int .i64 s] rfl rfl ?c1 ?c2 ?c3 ?c4 ?c5 ?_)
              case c1 => exact cell_one_new _ _ _
              case c2 => simp [Value.oneCell']
              case c3 => unfold maxLen; omega
              case c4 => omega
              case c5 => simp; omega
              intro v' w1 hown1 hgrow1 _
              have hb1 : Below wo.heap.size wr w1 := ((Below.refl _ wr).alloc hB _).grown hgrow1 (by simp; omega) (fun k hk => (hown.lt k hk).1)
              have hcq1 := (hb1.cell (p := ⟨q, i, none⟩) HST.out.rq.lt).trans hcq
              have HO := Lib.hid hown1
              have HB := Lib.hid (hbl.trans hb1)
              have hw : IntKind.i64.wrap ((i : Int) + s) = (i : Int) + s := IntWalk.i64_in _ (by omega)
              clear hown1 hgrow1 hb1 hcq hown hbl hi0 hz0 hz1 hz2
              go_wp2
              go_roundw
              case rel =>
                refine ⟨i + s.toNat, f - 1, acc ++ [s], by omega, ret_num (by omega), by omega, ?_, by simp; omega, by simpa [enc1] using HO.out, HB.out⟩
                have e := HA.out
                rw [show f = (f - 1) + 1 by omega, gOut_step _ _ _ _ hlt, ← HSI.out] at e
                simpa using e
              case measure => simp [intOf]; omega
            · obtain rfl : i = xs.length := by omega
              have hc0 := HST2.out.rp.cell (i := 0) (by omega)
              have hacc2 : acc = gOut S xs.length xs.length 0 := by rw [← HA.out, gOut_end _ _ _ _ (Nat.le_refl _), List.append_nil]
              have HACC := Lib.hid hacc2
              obtain ⟨cv, hcv⟩ : ∃ cv, cv = tabC K lo hi xs.length xs.length 0 := ⟨_, rfl⟩
              rw [← hcv] at hc0
              have HCV := Lib.hid hcv
              clear hacc2 hcv hin hf1 hal hlt
              have hz := cell_lt hc0
              dsimp only at hz
              go_upto_region 20 with fail
              refine wp_region_calm (by kernel_rfl) (by kernel_rfl) ?_
              repeat (go_big_quiet_step (fail))
              refine wpQuiet_nil ?_
              intro wx hbx
              have HOW := Lib.hid hown
              have HBL := Lib.hid hbl
              clear hown hbl hi0 hz0 hz1 hz2
              go_wp2
              go_ret3
              exact GroupsPost.mk rfl rfl (by rw [HCV.out, HK.out, HLO.out, HHI.out]; rfl) (by rw [HACC.out, HSS.out, HK.out, HLO.out, HHI.out]; rfl) HOW.out hbx HST.out.below HBL.out
        · have e : ((i + 1 : Nat) : Int) - 1 = i := by omega
          rw [e]
          go_wp2
          obtain ⟨wo, rfl⟩ : ∃ wo : World, wo = wr := ⟨_, rfl⟩
          go_loopw [12, 13] (fun t _ wr => ∃ m tt, tt = i + m ∧ m ≤ d + 1 ∧ t = .int .i64 (tt : Int) ∧ GSt w fixed lead xs.length xs.length p q (midF (tabC K lo hi xs.length d) i m (gin K lo hi (tabC K lo hi xs.length d) i m).1) (midF (tabS K lo hi xs.length d) i m (gin K lo hi (tabC K lo hi xs.length d) i m).2) wr) (fun t _ _ => xs.length - (intOf t).toNat)
          case atStart => exact ⟨0, i, by omega, by omega, rfl, HST.out.congr (fun j => by simp [midF]) (fun j => by simp [midF])⟩
          case round =>
            clear HST
            obtain ⟨m, t, htm, hmd, rfl, hst⟩ := hrel
            have HT := Lib.hid htm
            have HN := Lib.hid hrd
            by_cases hlt : t < xs.length
            · have hti : i ≤ t := by omega
              have hil : i < xs.length := by omega
              clear htm hrd
              obtain ⟨b, off, rfl, hbl, _, hc2⟩ := (hr.below rfl hst.below).at2 t hlt
              obtain ⟨b', off', e', _, hc1, _⟩ := (hr.below rfl hst.below).at2 i hil
              cases e'
              have HHv := Lib.hid (show xs[t].2 = hi t by rw [HHI.out]; simp [pHi, hlt])
              have HLv := Lib.hid (show xs[i].1 = lo i by rw [HLO.out]; simp [pLo, hil])
              rw [HHv.out] at hc2
              rw [HLv.out] at hc1
              have hcp := hst.rp.cell (i := t + 1) (by omega)
              have hmt : midF (tabC K lo hi xs.length d) i m (gin K lo hi (tabC K lo hi xs.length d) i m).1 (t + 1) = tabC K lo hi xs.length d (t + 1) := by
                unfold midF; rw [if_neg (by omega)]
              rw [hmt] at hcp
              clear hmt
              obtain ⟨hv, hhv⟩ : ∃ hv, hv = hi t := ⟨_, rfl⟩
              obtain ⟨lv, hlv⟩ : ∃ lv, lv = lo i := ⟨_, rfl⟩
              obtain ⟨cv, hcv⟩ : ∃ cv, cv = tabC K lo hi xs.length d (t + 1) := ⟨_, rfl⟩
              rw [← hhv] at hc2
              rw [← hlv] at hc1
              rw [← hcv] at hcp
              have b1 : 0 ≤ hv ∧ hv ≤ 200 := by rw [hhv]; exact BHI.out t
              have b2 : 0 ≤ lv ∧ lv ≤ 200 := by rw [hlv]; exact BLO.out i
              have b3 : -(d * 31000 : Int) ≤ cv ∧ cv ≤ d * 31000 := by rw [hcv]; exact tabC_bound K lo hi xs.length d (by rw [HK.out]; omega) BLO.out BHI.out (t + 1)
              have Hhv := Lib.hid hhv
              have Hlv := Lib.hid hlv
              have Hcv := Lib.hid hcv
              clear hhv hlv hcv
              obtain ⟨b11, b12⟩ := b1
              obtain ⟨b21, b22⟩ := b2
              obtain ⟨b31, b32⟩ := b3
              obtain ⟨f1, f2⟩ := hf
              obtain ⟨l1, l2⟩ := hl
              have hd30 : d ≤ 30 := by have := HN.out; omega
              have hst0 := hst.c0
              have hst1 := hst.c1
              have z1 := cell_lt hst0
              have z2 := cell_lt hcp
              dsimp only at z1 z2
              have HS := Lib.hid hst
              clear hst
              go_upto_region 12 with fail
              go_cut [13] (fun c wx => c = .int .i64 (fixed + 2 * lead + hv - lv + cv) ∧ Below wr.heap.size wr wx)
              case first =>
                have w1 : IntKind.i64.wrap (2 * lead) = 2 * lead := IntWalk.i64_in _ (by omega)
                have w2 : IntKind.i64.wrap (fixed + 2 * lead) = fixed + 2 * lead := IntWalk.i64_in _ (by omega)
                have w3 : IntKind.i64.wrap (fixed + 2 * lead + hv) = fixed + 2 * lead + hv := IntWalk.i64_in _ (by omega)
                have w4 : IntKind.i64.wrap (fixed + 2 * lead + hv - lv) = fixed + 2 * lead + hv - lv := IntWalk.i64_in _ (by omega)
                have w5 : IntKind.i64.wrap (fixed + 2 * lead + hv - lv + cv) = fixed + 2 * lead + hv - lv + cv := IntWalk.i64_in _ (by omega)
                have w6 : IntKind.i64.wrap ((t : Int) + 1) = (t : Int) + 1 := IntWalk.i64_in _ (by omega)
                have w7 : ((t : Int) + 1).toNat = t + 1 := by omega
                refine wp_region_calm (by kernel_rfl) (by kernel_rfl) ?_
                repeat (go_big_quiet_step (fail))
                refine wpQuiet_nil ?_
                intro wx hbx
                go_wp2_with fail
                go_meet
                exact ⟨rfl, hbx⟩
              case rest =>
                obtain ⟨rfl, hbx⟩ := hcut
                have hstx := HS.out.later hbx
                clear hbx hc1 hc2 hcp hst0 hst1 z1 z2 HS
                obtain ⟨c, hc⟩ : ∃ c, c = fixed + 2 * lead + hv - lv + cv := ⟨_, rfl⟩
                rw [← hc]
                have HC := Lib.hid (show c = K + hi t - lo i + tabC K lo hi xs.length d (t + 1) by rw [hc, ← HK.out, Hhv.out, Hlv.out, Hcv.out])
                clear hc Hhv Hlv Hcv b11 b12 b21 b22 b31 b32 f1 f2 l1 l2
                have hfp := hstx.rp.frozen i
                have hfq := hstx.rq.frozen i
                have hcpi := hstx.rp.cell (i := i) (by omega)
                have hcqi := hstx.rq.cell (i := i) (by omega)
                have hpq := hstx.pq
                have HS := Lib.hid hstx
                clear hstx
                by_cases hm0 : m = 0
                · have hti2 : t = i := by have := HT.out; omega
                  subst hti2
                  subst hm0
                  obtain ⟨v1, hv1⟩ : ∃ v, v = midF (tabC K lo hi xs.length d) t 0 (gin K lo hi (tabC K lo hi xs.length d) t 0).1 t := ⟨_, rfl⟩
                  obtain ⟨v2, hv2⟩ : ∃ v, v = midF (tabS K lo hi xs.length d) t 0 (gin K lo hi (tabC K lo hi xs.length d) t 0).2 t := ⟨_, rfl⟩
                  rw [← hv1] at hcpi
                  rw [← hv2] at hcqi
                  clear hv1 hv2
                  go_wp2
                  go_roundw
                  case rel => exact ⟨1, t + 1, by omega, by omega, by go_num, HS.out.better rfl HC.out (.inl rfl) (by rfl)⟩
                  case measure => simp [intOf]; omega
                · obtain ⟨g, hg⟩ : ∃ g, g = (gin K lo hi (tabC K lo hi xs.length d) i m).1 := ⟨_, rfl⟩
                  have e1 : midF (tabC K lo hi xs.length d) i m (gin K lo hi (tabC K lo hi xs.length d) i m).1 i = g := by rw [hg]; unfold midF; rw [if_pos ⟨rfl, by omega⟩]
                  rw [e1] at hcpi
                  obtain ⟨v2, hv2⟩ : ∃ v, v = midF (tabS K lo hi xs.length d) i m (gin K lo hi (tabC K lo hi xs.length d) i m).2 i := ⟨_, rfl⟩
                  rw [← hv2] at hcqi
                  have HGG := Lib.hid hg
                  have HM := Lib.hid hm0
                  have hit : i < t := by have := HT.out; omega
                  have htt : ((t : Int) == (i : Int)) = false := by rw [beq_eq_false_iff_ne]; omega
                  clear e1 hv2 hg hm0
                  by_cases hcg : c < g
                  · have HCG := Lib.hid hcg
                    go_wp2
                    go_roundw
                    case rel => exact ⟨m + 1, t + 1, by have := HT.out; omega, by have := HT.out; have := HN.out; omega, by go_num, HS.out.better HT.out HC.out (.inr (by rw [← HGG.out]; exact HCG.out)) (by have := HT.out; omega)⟩
                    case measure => simp [intOf]; omega
                  · have HCG := Lib.hid hcg
                    go_wp2
                    go_roundw
                    case rel => exact ⟨m + 1, t + 1, by have := HT.out; omega, by have := HT.out; have := HN.out; omega, by go_num, HS.out.worse HT.out HC.out (fun h => h.elim HM.out (fun h => HCG.out (by rw [HGG.out]; exact h)))⟩
                    case measure => simp [intOf]; omega
            · obtain rfl : m = d + 1 := by omega
              have hst2 := GSt.round hrd hst
              have HS := Lib.hid hst2
              clear hst hst2 htm
              go_wp2
              go_roundw
              case rel => exact ⟨i, d + 1, by have := HN.out; omega, by go_num, HS.out⟩
              case measure => simp [intOf]
end Go.Proofs.Ytgjpdjihjphbdaa

/- Appends onto a row of the call's own: laws for the walk. -/
namespace Go.Proofs.Ytgjpdjihjphbdaa
open Go.RowKit
section
variable {P : Program} {W : World} {ops : Array Oper} {rest : List Oper} {o : Oper} {a : Act} {Q : Exit → Act → World → Prop}
theorem app1 (hgd : o.guard = none) (s x : Operand) (t : TypeId) (ho : o.op = .call { callee := .builtin .append, args := #[s, x], argTypes := #[t, t] })
    (base : Nat) (e : TypeId) (size bytes : Nat) (z : Value) (ht : P.underlying t = some (.slice e)) (hinfo : (P.info? e).map (fun i => (i.zero, i.size, i.bytes)) = some (some z, size, bytes)) (hzs : z.cells.size = size) (hsz : 0 < size)
    (v : Value) (n : Nat) (xs : List Value) (hs : a.eval s = v) (hown : W.ownsRow base e size v n xs) (cs : Array Value) (T : TypeId) (hx : a.eval x = .slice (some ⟨W.heap.size, 0, none⟩) 1 1) (hl : cs.size = size)
    (h1 : ∀ u ∈ cs.toList, u.oneCell' = true) (hn : n + 1 ≤ 1000000) (hby : bytes ≤ 1000) (hbase : base ≤ W.heap.size)
    (h : ∀ v' w', w'.ownsRow base e size v' (n + 1) (xs ++ cs.toList) → Below base W w' → v' ≠ .slice none 0 0 → wpList P ops Q rest (a.put o.dst v') w') : wpList P ops Q (o :: rest) a (W.alloc (.cells cs T)) := by
  obtain ⟨i, hi, hz0, hz1, hz2⟩ := info_parts hinfo
  refine wpList_append_own (W.alloc (.cells cs T)) hgd s x t ho base e i z size bytes ht hi hz0 hz1 hz2 hzs hsz v n xs hs (hown.alloc _) ⟨W.heap.size, 0, none⟩ 1 1 cs.toList hx (by simp [hl]) (fun j u hu => ?_) h1 (by unfold maxLen; omega) ?_ (by simp; omega) (fun v' w' h2 h3 h4 => ?_)
  · have hadd : (⟨W.heap.size, 0, none⟩ : Addr).add j = ⟨W.heap.size, j, none⟩ := by unfold Addr.add; split <;> simp_all
    rw [hadd, World.cell?_alloc_at _ _ _ _ rfl]
    simpa using hu
  · have : (n + 1) * bytes ≤ 1000000 * 1000 := Nat.mul_le_mul hn hby
    omega
  · refine h v' w' h2 (((Below.refl _ W).alloc hbase _).grown h3 (by simp; omega) (fun k hk => (hown.lt k hk).1)) (fun e => ?_)
    have := (h4.1 e).2
    omega
end
end Go.Proofs.Ytgjpdjihjphbdaa

/- The reference of groups, and small helpers of the base. -/
namespace Go.Proofs.Ytgjpdjihjphbdaa
open Go.RowKit
def grpCost (fixed lead : Int) (l : List (Int × Int)) : Int := fixed + 2 * lead + (l.getD (l.length - 1) (0, 0)).2 - (l.getD 0 (0, 0)).1
set_option maxRecDepth 100000 in
set_option maxHeartbeats 1000000 in
theorem rCost_any (fixed lead : Int) (A : Option Addr) (n c : Nat) (xs : List (Int × Int)) (w : World) (hf : 0 ≤ fixed ∧ fixed ≤ 10000) (hl : 0 ≤ lead ∧ lead ≤ 10000) (hbd : ∀ p ∈ xs, 0 ≤ p.1 ∧ p.1 ≤ 200 ∧ 0 ≤ p.2 ∧ p.2 ≤ 200)
    (h0 : 0 < xs.length) (h1 : xs.length ≤ 1000000) (hr : Rd w 2 A n (enc2 xs)) :
    Calls Try.prog 23 #[.agg #[.int .i64 fixed, .int .i64 lead], .slice A n c] w (Ret w (.int .i64 (grpCost fixed lead xs))) := by
  obtain rfl := hr.len2
  obtain ⟨f1, f2⟩ := hf
  obtain ⟨l1, l2⟩ := hl
  obtain ⟨b, off, rfl, z1, _, c1⟩ := hr.at2 (xs.length - 1) (by omega)
  obtain ⟨b', off', e', _, c2, _⟩ := hr.at2 0 (by omega)
  cases e'
  rw [Nat.zero_mul, Nat.add_zero] at c2
  have z2 : b < w.heap.size + 1 := by omega
  have d1 := hbd xs[xs.length - 1] (List.getElem_mem _)
  have d2 := hbd xs[0] (List.getElem_mem _)
  have HG := Lib.hid (show grpCost fixed lead xs = fixed + 2 * lead + (xs[xs.length - 1]).2 - (xs[0]).1 by unfold grpCost; simp [h0, show xs.length - 1 < xs.length by omega])
  clear hr hbd
  generalize (xs[xs.length - 1]).2 = hv at *
  generalize (xs[0]).1 = lv at *
  obtain ⟨_, _, d3, d4⟩ := d1
  obtain ⟨d5, d6, _, _⟩ := d2
  have w1 : IntKind.i64.wrap (2 * lead) = 2 * lead := IntWalk.i64_in _ (by omega)
  have w2 : IntKind.i64.wrap (fixed + 2 * lead) = fixed + 2 * lead := IntWalk.i64_in _ (by omega)
  have w3 : IntKind.i64.wrap (fixed + 2 * lead + hv) = fixed + 2 * lead + hv := IntWalk.i64_in _ (by omega)
  have w4 : IntKind.i64.wrap (fixed + 2 * lead + hv - lv) = fixed + 2 * lead + hv - lv := IntWalk.i64_in _ (by omega)
  have w5 : IntKind.i64.wrap ((xs.length : Int) - 1) = (xs.length : Int) - 1 := IntWalk.i64_in _ (by omega)
  have w6 : ((xs.length : Int) - 1).toNat = xs.length - 1 := by omega
  have w7 : 0 ≤ (xs.length : Int) - 1 := by omega
  go_enter Try.func23, Try.ntmps23
  go_upto_region 1 with fail
  refine wp_region_calm (by kernel_rfl) (by kernel_rfl) ?_
  repeat (go_big_quiet_step (fail))
  refine wpQuiet_nil ?_
  intro wx hbx
  go_wp2
  go_ret
  exact ⟨ret_int HG.out.symm, ((Below.refl _ w).alloc (Nat.le_refl _) _).trans (hbx.mono (by simp))⟩
end Go.Proofs.Ytgjpdjihjphbdaa
namespace Go.Proofs.Ytgjpdjihjphbdaa
open Go.RowKit
end Go.Proofs.Ytgjpdjihjphbdaa

/- The reference of groups computes what the program computes. -/
namespace Go.Proofs.Ytgjpdjihjphbdaa
open Go.RowKit
theorem grpCost_sub (fixed lead : Int) (xs : List (Int × Int)) (i m : Nat) (h : i + (m + 1) ≤ xs.length) : grpCost fixed lead ((xs.drop i).take (m + 1)) = fixed + 2 * lead + pHi xs (i + m) - pLo xs i := by
  have hl : ((xs.drop i).take (m + 1)).length = m + 1 := by rw [List.length_take, List.length_drop]; omega
  unfold grpCost pHi pLo
  rw [hl]
  simp only [List.getD_eq_getElem?_getD, Nat.add_sub_cancel]
  rw [List.getElem?_take_of_lt (by omega), List.getElem?_take_of_lt (by omega), List.getElem?_drop, List.getElem?_drop, Nat.add_zero]
def GroupsPostR (fixed lead : Int) (xs : List (Int × Int)) (w : World) (e : Ending) (w' : World) : Prop :=
  ∃ v, e = .returned (.tuple #[v, .int .i64 (gCost fixed lead xs)]) ∧ w'.ownsRow w.heap.size 3 1 v (gSizes fixed lead xs).length (enc1 (gSizes fixed lead xs)) ∧ Below w.heap.size w w'
theorem GroupsPostR.mk {fixed lead : Int} {xs : List (Int × Int)} {w wo wr wx : World} {v : Value} {c : Int} {acc : List Int} {e : Ending} (he : e = .returned (.tuple #[v, .int .i64 c])) (hc : c = gCost fixed lead xs) (ha : acc = gSizes fixed lead xs)
    (ho : wr.ownsRow wo.heap.size 3 1 v acc.length (enc1 acc)) (hx : Below wr.heap.size wr wx) (hb : Below w.heap.size w wo) (hbr : Below wo.heap.size wo wr) : GroupsPostR fixed lead xs w e wx := by
  subst he hc ha
  exact ⟨v, rfl, owns_base (owns_below ho hx) hb.size, (hb.trans (hbr.mono hb.size)).trans (hx.mono (Nat.le_trans hb.size hbr.size))⟩
theorem GSt.startR {w : World} {fixed lead : Int} {n : Nat} : GSt w fixed lead n (n + 1) (w.heap.size + 1) (w.heap.size + 2) (fun _ => 0) (fun _ => 0)
    (((w.alloc (.cells #[.int .i64 fixed, .int .i64 lead] 23)).alloc (.cells (madeCells #[.int .i64 0] (n + 1)) 3)).alloc (.cells (madeCells #[.int .i64 0] (n + 1)) 3)) := by
  refine ⟨by omega, by omega, by omega, ?_, ?_, ((((Below.refl _ w).alloc (Nat.le_refl _) _).alloc (by simp) _).alloc (by simp; omega) _), cell_alloc (cell_alloc (by simp) _) _, cell_alloc (cell_alloc (by simp) _) _⟩
  · have := World.rowIs_made (w.alloc (.cells #[.int .i64 fixed, .int .i64 lead] 23)) (.int .i64 0) (n + 1) 3
    simpa using this.alloc _
  · have := World.rowIs_made ((w.alloc (.cells #[.int .i64 fixed, .int .i64 lead] 23)).alloc (.cells (madeCells #[.int .i64 0] (n + 1)) 3)) (.int .i64 0) (n + 1) 3
    simpa using this
set_option maxRecDepth 100000 in
set_option maxHeartbeats 4000000 in
theorem rGroups_any (fixed lead : Int) (A : Option Addr) (n cap : Nat) (xs : List (Int × Int)) (w : World) (hx : xs.length ≤ 30) (hcap : n ≤ cap) (hr : Rd w 2 A n (enc2 xs))
    (hf : 0 ≤ fixed ∧ fixed ≤ 10000) (hl : 0 ≤ lead ∧ lead ≤ 10000) (hbd : ∀ p ∈ xs, 0 ≤ p.1 ∧ p.1 ≤ 200 ∧ 0 ≤ p.2 ∧ p.2 ≤ 200) :
    Calls Try.prog 20 #[.agg #[.int .i64 fixed, .int .i64 lead], .slice A n cap] w (GroupsPostR fixed lead xs w) := by
  obtain rfl := hr.len2
  have hmk1 := make_int (xs.length + 1) (by omega)
  have ec : ((xs.length + 1 : Nat) : Int) = (xs.length : Int) + 1 := by omega
  rw [ec] at hmk1
  clear ec
  go_enter Try.func20, Try.ntmps20
  have HST0 := Lib.hid (GSt.startR (w := w) (fixed := fixed) (lead := lead) (n := xs.length))
  have BLO := Lib.hid (show ∀ j, 0 ≤ pLo xs j ∧ pLo xs j ≤ 200 from fun j => by
    unfold pLo
    by_cases hj : j < xs.length
    · have := hbd xs[j] (List.getElem_mem hj); simp [hj]; omega
    · simp [hj])
  have BHI := Lib.hid (show ∀ j, 0 ≤ pHi xs j ∧ pHi xs j ≤ 200 from fun j => by
    unfold pHi
    by_cases hj : j < xs.length
    · have := hbd xs[j] (List.getElem_mem hj); simp [hj]; omega
    · simp [hj])
  have HBD := Lib.hid hbd
  clear hbd
  go_wp2
  go_loopw [8, 9, 10] (fun fr _ _ wr => ∃ r d, r + d = xs.length ∧ fr = .int .i64 ((r : Int) - 1) ∧ GSt w fixed lead xs.length (xs.length + 1) (w.heap.size + 1) (w.heap.size + 2) (tabC (fixed + 2 * lead) (pLo xs) (pHi xs) xs.length d) (tabS (fixed + 2 * lead) (pLo xs) (pHi xs) xs.length d) wr) (fun fr _ _ _ => (intOf fr + 1).toNat)
  case atStart => exact ⟨xs.length, 0, by omega, rfl, HST0.out⟩
  case round =>
    obtain ⟨r, d, hrd, rfl, hst⟩ := hrel
    have HST := Lib.hid hst
    clear hst HST0 hmk1
    rcases r with _ | i
    · obtain rfl : d = xs.length := by omega
      have e : ((0 : Nat) : Int) - 1 = -1 := rfl
      rw [e]
      clear hr e hrd
      obtain ⟨S, hS⟩ : ∃ S, S = tabS (fixed + 2 * lead) (pLo xs) (pHi xs) xs.length xs.length := ⟨_, rfl⟩
      have hsz : ∀ j, j < xs.length → 1 ≤ S j ∧ S j ≤ ((xs.length - j : Nat) : Int) := fun j hj => by rw [hS]; exact tabS_size (fixed + 2 * lead) (pLo xs) (pHi xs) xs.length xs.length (Nat.le_refl _) j (by omega) hj
      have HSZ := Lib.hid hsz
      rw [← hS] at HST
      have HSS := Lib.hid hS
      clear hsz hS
      obtain ⟨i0, hi0, hz0, hz1, hz2⟩ := info_parts Try.infoInt
      go_wp2
      obtain ⟨wo, rfl⟩ : ∃ wo : World, wo = wr := ⟨_, rfl⟩
      go_loopw [11, 12] (fun out fr wr => ∃ (i f : Nat) (acc : List Int), i ≤ xs.length ∧ fr = .int .i64 (i : Int) ∧ xs.length - i ≤ f ∧ acc ++ gOut S xs.length f i = gOut S xs.length xs.length 0 ∧ acc.length ≤ i ∧ wr.ownsRow wo.heap.size 3 1 out acc.length (enc1 acc) ∧ Below wo.heap.size wo wr) (fun _ fr _ => xs.length - (intOf fr).toNat)
      case atStart => exact ⟨0, xs.length, [], by omega, rfl, by omega, rfl, by simp, World.ownsRow_nil _ _ _ _, Below.refl _ _⟩
      case round =>
        obtain ⟨i, f, acc, hin, rfl, hf1, hacc, hal, hown, hbl⟩ := hrel
        have HA := Lib.hid hacc
        have HST2 := Lib.hid (HST.out.later hbl)
        clear hacc
        by_cases hlt : i < xs.length
        · have hcq := HST2.out.rq.cell (i := i) (by omega)
          obtain ⟨s1, s2⟩ := HSZ.out i hlt
          obtain ⟨s, hs⟩ : ∃ s, s = S i := ⟨_, rfl⟩
          rw [← hs] at hcq s1 s2
          have HSI := Lib.hid hs
          clear hs
          have hB := hbl.size
          go_wp2_with (at_builtin; refine wpList_append_own _ rfl _ _ 25 rfl wo.heap.size 3 i0 (.int .i64 0) 1 8 Try.underlying25 hi0 hz0 hz1 hz2 rfl (by decide) _ _ _ rfl (hown.alloc _) ⟨wr.heap.size, 0, none⟩ 1 1 [.int .i64 s] rfl rfl ?c1 ?c2 ?c3 ?c4 ?c5 ?_)
          case c1 => exact cell_one_new _ _ _
          case c2 => simp [Value.oneCell']
          case c3 => unfold maxLen; omega
          case c4 => omega
          case c5 => simp; omega
          intro v' w1 hown1 hgrow1 _
          have hb1 : Below wo.heap.size wr w1 := ((Below.refl _ wr).alloc hB _).grown hgrow1 (by simp; omega) (fun k hk => (hown.lt k hk).1)
          have hcq1 := (hb1.cell (p := ⟨w.heap.size + 2, i, none⟩) HST.out.rq.lt).trans hcq
          have HO := Lib.hid hown1
          have HB := Lib.hid (hbl.trans hb1)
          have hw : IntKind.i64.wrap ((i : Int) + s) = (i : Int) + s := IntWalk.i64_in _ (by omega)
          clear hown1 hgrow1 hb1 hcq hown hbl hi0 hz0 hz1 hz2
          go_wp2
          go_roundw
          case rel =>
            refine ⟨i + s.toNat, f - 1, acc ++ [s], by omega, ret_num (by omega), by omega, ?_, by simp; omega, by simpa [enc1] using HO.out, HB.out⟩
            have e := HA.out
            rw [show f = (f - 1) + 1 by omega, gOut_step _ _ _ _ hlt, ← HSI.out] at e
            simpa using e
          case measure => simp [intOf]; omega
        · obtain rfl : i = xs.length := by omega
          have hc0 := HST2.out.rp.cell (i := 0) (by omega)
          have hacc2 : acc = gOut S xs.length xs.length 0 := by rw [← HA.out, gOut_end _ _ _ _ (Nat.le_refl _), List.append_nil]
          have HACC := Lib.hid hacc2
          obtain ⟨cv, hcv⟩ : ∃ cv, cv = tabC (fixed + 2 * lead) (pLo xs) (pHi xs) xs.length xs.length 0 := ⟨_, rfl⟩
          rw [← hcv] at hc0
          have HCV := Lib.hid hcv
          clear hacc2 hcv hin hf1 hal hlt
          have hz := cell_lt hc0
          dsimp only at hz
          go_upto_region 17 with fail
          refine wp_region_calm (by kernel_rfl) (by kernel_rfl) ?_
          repeat (go_big_quiet_step (fail))
          refine wpQuiet_nil ?_
          intro wx hbx
          have HOW := Lib.hid hown
          have HBL := Lib.hid hbl
          clear hown hbl hi0 hz0 hz1 hz2
          go_wp2
          go_ret2
          exact GroupsPostR.mk rfl (by rw [HCV.out]; rfl) (by rw [HACC.out, HSS.out]; rfl) HOW.out hbx HST.out.below HBL.out
    · have e : ((i + 1 : Nat) : Int) - 1 = i := by omega
      rw [e]
      go_wp2
      obtain ⟨wo, rfl⟩ : ∃ wo : World, wo = wr := ⟨_, rfl⟩
      go_loopw [9, 10] (fun t _ wr => ∃ m, m ≤ d + 1 ∧ t = .int .i64 ((m : Int) + 1) ∧ GSt w fixed lead xs.length (xs.length + 1) (w.heap.size + 1) (w.heap.size + 2) (midF (tabC (fixed + 2 * lead) (pLo xs) (pHi xs) xs.length d) i m (gin (fixed + 2 * lead) (pLo xs) (pHi xs) (tabC (fixed + 2 * lead) (pLo xs) (pHi xs) xs.length d) i m).1) (midF (tabS (fixed + 2 * lead) (pLo xs) (pHi xs) xs.length d) i m (gin (fixed + 2 * lead) (pLo xs) (pHi xs) (tabC (fixed + 2 * lead) (pLo xs) (pHi xs) xs.length d) i m).2) wr) (fun t _ _ => xs.length + 1 - (intOf t).toNat)
      case atStart => exact ⟨0, by omega, rfl, HST.out.congr (fun j => by simp [midF]) (fun j => by simp [midF])⟩
      case round =>
        clear HST
        obtain ⟨m, hmd, rfl, hst⟩ := hrel
        have HN := Lib.hid hrd
        by_cases hlt : i + (m + 1) ≤ xs.length
        · have hil : i < xs.length := by omega
          have hrw := hr.below rfl hst.below
          obtain ⟨b, off, rfl, hbl, _, _⟩ := hrw.at2 i hil
          have hsub := Rd.sub2 hrw i (m + 1) hlt
          have hcp := hst.rp.cell (i := i + m + 1) (by omega)
          have hmt : midF (tabC (fixed + 2 * lead) (pLo xs) (pHi xs) xs.length d) i m (gin (fixed + 2 * lead) (pLo xs) (pHi xs) (tabC (fixed + 2 * lead) (pLo xs) (pHi xs) xs.length d) i m).1 (i + m + 1) = tabC (fixed + 2 * lead) (pLo xs) (pHi xs) xs.length d (i + m + 1) := by
            unfold midF; rw [if_neg (by omega)]
          rw [hmt] at hcp
          clear hmt hrd
          obtain ⟨cv, hcv⟩ : ∃ cv, cv = tabC (fixed + 2 * lead) (pLo xs) (pHi xs) xs.length d (i + m + 1) := ⟨_, rfl⟩
          rw [← hcv] at hcp
          have hd30 : d ≤ 30 := by have := HN.out; omega
          have b3 : -(d * 31000 : Int) ≤ cv ∧ cv ≤ d * 31000 := by rw [hcv]; exact tabC_bound _ _ _ xs.length d (by omega) BLO.out BHI.out (i + m + 1)
          obtain ⟨b31, b32⟩ := b3
          have b4 := BLO.out i
          have b5 := BHI.out (i + m)
          have hcost := Lib.hid (fun W (hW : Rd W 2 (some ⟨b, off + i * 2, none⟩) (m + 1) (enc2 ((xs.drop i).take (m + 1)))) => rCost_any fixed lead (some ⟨b, off + i * 2, none⟩) (m + 1) (cap - i) ((xs.drop i).take (m + 1)) W hf hl (fun p hp => HBD.out p (List.mem_of_mem_drop (List.mem_of_mem_take hp))) (by rw [List.length_take, List.length_drop]; omega) (by rw [List.length_take]; omega) hW)
          obtain ⟨g, hg⟩ : ∃ g, g = grpCost fixed lead ((xs.drop i).take (m + 1)) := ⟨_, rfl⟩
          rw [← hg] at hcost
          rw [grpCost_sub fixed lead xs i m hlt] at hg
          obtain ⟨f1, f2⟩ := hf
          obtain ⟨l1, l2⟩ := hl
          have g1 : -200 ≤ g ∧ g ≤ 31000 := by omega
          obtain ⟨g11, g12⟩ := g1
          have HG := Lib.hid hg
          have Hcv := Lib.hid hcv
          clear hg hcv b4 b5
          have hst0 := hst.c0
          have hst1 := hst.c1
          have z1 := cell_lt hst0
          have z2 := cell_lt hcp
          dsimp only at z1 z2
          have HS := Lib.hid hst
          have HSUB := Lib.hid hsub
          clear hst hsub hrw
          go_upto_region 9 with fail
          go_cut [10] (fun c wx => c = .int .i64 (g + cv) ∧ Below wr.heap.size wr wx)
          case first =>
            have w1 : IntKind.i64.wrap ((i : Int) + ((m : Int) + 1)) = (i : Int) + ((m : Int) + 1) := IntWalk.i64_in _ (by omega)
            have w2 : IntKind.i64.wrap (g + cv) = g + cv := IntWalk.i64_in _ (by omega)
            have w3 : ((i : Int) + ((m : Int) + 1)).toNat = i + m + 1 := by omega
            have w4 : ¬ cap = i := by omega
            have w5 : 0 ≤ (i : Int) + ((m : Int) + 1) := by omega
            have w6 : (i : Int) + ((m : Int) + 1) ≤ cap := by omega
            have w7 : i ≤ i + m + 1 := by omega
            have w8 : i + m + 1 - i = m + 1 := by omega
            refine wp_region_calm (by kernel_rfl) (by kernel_rfl) ?_
            repeat (go_big_quiet_step ((go_at_call 23; with_reducible exact After.call (hcost.out _ (HSUB.out.below rfl (After.below _))))))
            refine wpQuiet_nil ?_
            intro wx hbx
            go_wp2_with fail
            go_meet
            exact ⟨rfl, hbx⟩
          case rest =>
            obtain ⟨rfl, hbx⟩ := hcut
            have hstx := HS.out.later hbx
            clear hbx hcp hst0 hst1 z1 z2 HS HSUB hcost
            obtain ⟨c, hc⟩ : ∃ c, c = g + cv := ⟨_, rfl⟩
            rw [← hc]
            have HC := Lib.hid (show c = fixed + 2 * lead + pHi xs (i + m) - pLo xs i + tabC (fixed + 2 * lead) (pLo xs) (pHi xs) xs.length d (i + m + 1) by rw [hc, HG.out, Hcv.out])
            clear hc HG Hcv b31 b32 f1 f2 l1 l2 g11 g12
            have hfp := hstx.rp.frozen i
            have hfq := hstx.rq.frozen i
            have hcpi := hstx.rp.cell (i := i) (by omega)
            have hcqi := hstx.rq.cell (i := i) (by omega)
            have hpq := hstx.pq
            have HS := Lib.hid hstx
            clear hstx
            have hie : i = xs.length - 1 - d := by have := HN.out; omega
            by_cases hm0 : m = 0
            · subst hm0
              have e2 : midF (tabS (fixed + 2 * lead) (pLo xs) (pHi xs) xs.length d) i 0 (gin (fixed + 2 * lead) (pLo xs) (pHi xs) (tabC (fixed + 2 * lead) (pLo xs) (pHi xs) xs.length d) i 0).2 i = 0 := by
                unfold midF; rw [if_neg (by omega)]; exact tabS_zero _ _ _ _ _ (by have := HN.out; omega) _ (by have := HN.out; omega)
              rw [e2] at hcqi
              obtain ⟨v1, hv1⟩ : ∃ v, v = midF (tabC (fixed + 2 * lead) (pLo xs) (pHi xs) xs.length d) i 0 (gin (fixed + 2 * lead) (pLo xs) (pHi xs) (tabC (fixed + 2 * lead) (pLo xs) (pHi xs) xs.length d) i 0).1 i := ⟨_, rfl⟩
              rw [← hv1] at hcpi
              clear hv1 e2 hie
              go_wp2
              go_roundw
              case rel => exact ⟨1, by omega, rfl, HS.out.better rfl HC.out (.inl rfl) (by rfl)⟩
              case measure => simp [intOf]; omega
            · obtain ⟨gg, hgg⟩ : ∃ g, g = (gin (fixed + 2 * lead) (pLo xs) (pHi xs) (tabC (fixed + 2 * lead) (pLo xs) (pHi xs) xs.length d) i m).1 := ⟨_, rfl⟩
              have e1 : midF (tabC (fixed + 2 * lead) (pLo xs) (pHi xs) xs.length d) i m (gin (fixed + 2 * lead) (pLo xs) (pHi xs) (tabC (fixed + 2 * lead) (pLo xs) (pHi xs) xs.length d) i m).1 i = gg := by rw [hgg]; unfold midF; rw [if_pos ⟨rfl, by omega⟩]
              rw [e1] at hcpi
              obtain ⟨v2, hv2⟩ : ∃ v, v = (gin (fixed + 2 * lead) (pLo xs) (pHi xs) (tabC (fixed + 2 * lead) (pLo xs) (pHi xs) xs.length d) i m).2 := ⟨_, rfl⟩
              have e2 : midF (tabS (fixed + 2 * lead) (pLo xs) (pHi xs) xs.length d) i m (gin (fixed + 2 * lead) (pLo xs) (pHi xs) (tabC (fixed + 2 * lead) (pLo xs) (pHi xs) xs.length d) i m).2 i = v2 := by rw [hv2]; unfold midF; rw [if_pos ⟨rfl, by omega⟩]
              rw [e2] at hcqi
              have hv0 : (v2 == 0) = false := by
                have := gin_size (fixed + 2 * lead) (pLo xs) (pHi xs) (tabC (fixed + 2 * lead) (pLo xs) (pHi xs) xs.length d) i m (by omega)
                rw [beq_eq_false_iff_ne]; omega
              have HGG := Lib.hid hgg
              have HM := Lib.hid hm0
              clear e1 e2 hv2 hgg hm0 hie
              by_cases hcg : c < gg
              · have HCG := Lib.hid hcg
                go_wp2
                go_roundw
                case rel => exact ⟨m + 1, by have := HN.out; omega, by go_num, HS.out.better rfl HC.out (.inr (by rw [← HGG.out]; exact HCG.out)) (by omega)⟩
                case measure => simp [intOf]; omega
              · have HCG := Lib.hid hcg
                go_wp2
                go_roundw
                case rel => exact ⟨m + 1, by have := HN.out; omega, by go_num, HS.out.worse rfl HC.out (fun h => h.elim HM.out (fun h => HCG.out (by rw [HGG.out]; exact h)))⟩
                case measure => simp [intOf]; omega
        · have hmd1 : m = d + 1 := by omega
          have hd30 : d ≤ 30 := by omega
          have hil : i < xs.length := by omega
          have HS := Lib.hid (show GSt w fixed lead xs.length (xs.length + 1) (w.heap.size + 1) (w.heap.size + 2) _ _ wr from GSt.round hrd (by rw [hmd1] at hst; exact hst))
          clear hst hrd hmd1
          go_wp2
          go_roundw
          case rel => exact ⟨i, d + 1, by have := HN.out; omega, by go_num, HS.out⟩
          case measure => simp [intOf]
end Go.Proofs.Ytgjpdjihjphbdaa

/- The law of groups: no way to join neighbours costs less; without fixed costs nothing is joined (no program). -/
namespace Go.Proofs.Ytgjpdjihjphbdaa
end Go.Proofs.Ytgjpdjihjphbdaa

/- Contracts as answers. -/
namespace Go.Proofs.Ytgjpdjihjphbdaa
open Go.RowKit
set_option linter.unusedVariables false
def encR : Int × Int → MV
  | (a, b) => .agg [I64 a, I64 b]
def decR : MV → Option (Int × Int)
  | .agg [.lit (.int .i64 a), .lit (.int .i64 b)] => some (a, b)
  | _ => none
theorem decR_enc {m : MV} {p : Int × Int} (h : decR m = some p) : m = encR p := by
  unfold decR at h
  split at h
  · cases h; rfl
  · cases h
theorem decR_all : ∀ {es : List MV} {xs : List (Int × Int)}, es.mapM decR = some xs → es = xs.map encR
  | [], xs, h => by simp at h; subst h; rfl
  | e :: es, xs, h => by
    simp only [List.mapM_cons, Option.pure_def, Option.bind_eq_bind, Option.bind_eq_some_iff, Option.some.injEq] at h
    obtain ⟨p, h1, ys, h2, rfl⟩ := h
    rw [decR_enc h1, decR_all h2]; rfl
theorem flatR : ∀ xs : List (Int × Int), flat (xs.map encR) = (enc2 xs).map .lit
  | [] => rfl
  | (a, b) :: xs => by
    have := flatR xs
    simp only [flat, List.map_cons, List.flatMap_cons] at this ⊢
    rw [this]; rfl
theorem Vs.lits {E : Env} {w : World} : ∀ {us vs : List Value}, Vs E w (us.map .lit) vs → vs = us
  | [], [], _ => rfl
  | [], _ :: _, h => by have := h.1; simp at this
  | _ :: _, [], h => by have := h.1; simp at this
  | u :: us, v :: vs, h => by
    have h0 := h.2 0 (.lit u) v rfl rfl
    have h1 : Vs E w (us.map .lit) vs := ⟨by have := h.1; simpa using this, fun i c x hc hx => h.2 (i + 1) c x (by simpa using hc) (by simpa using hx)⟩
    rw [Vs.lits h1, h0.lit_eq]
theorem V.cap {E : Env} {w : World} {m : MV} {h : MHeap} (hr : HRel E h w) {es : List MV} {A : Option Addr} {n cap : Nat} (hv : V E w m (.slice A n cap)) (he : m.elems h = some es) : n ≤ cap := by
  generalize hx : Value.slice A n cap = x at hv
  cases hv with
  | sl es vs A' cap' sz h1 => cases hx; exact h1
  | lit v =>
    subst hx
    unfold MV.elems at he
    split at he <;> try (cases he; done)
    · rename_i e; cases e
    · rename_i e; cases e; exact Nat.le_refl _
    · rename_i e; cases e
  | arr id i n' g A' cap' hk hg hd =>
    cases hx
    simp only [MV.elems] at he
    split at he
    case h_2 => cases he
    rename_i o ho
    split at he
    case isFalse => cases he
    rename_i hcond
    obtain ⟨es', q1, _⟩ := hr.obj id hk
    rw [q1] at ho; cases ho
    exact (hd hcond.1).2.1
  | junk => simp [MV.elems] at he
  | _ => cases hx
theorem rd_of {E : Env} {w : World} {m : MV} {v : Value} {h : MHeap} {xs : List (Int × Int)} (hr : HRel E h w) (hv : V E w m v) (he : m.elems h = some (xs.map encR)) : ∃ A cap, v = .slice A xs.length cap ∧ xs.length ≤ cap ∧ Rd w 2 A xs.length (enc2 xs) := by
  obtain ⟨A, cap, vs, rfl, h1, h2⟩ := V.elems hr hv he (sz := 2) (fun e he => by obtain ⟨p, _, rfl⟩ := List.mem_map.1 he; rfl)
  rw [flatR] at h1
  have e := h1.lits
  subst e
  have hc := V.cap hr hv he
  simp only [List.length_map] at h2 hc ⊢
  refine ⟨A, cap, rfl, hc, enc2_length xs, fun h0 => ?_⟩
  obtain ⟨b, off, rfl, h3⟩ := h2 h0
  refine ⟨b, off, rfl, ?_, h3⟩
  have := h3 0 ((enc2 xs)[0]'(by rw [enc2_length]; omega)) (by simp)
  exact cell_lt this
def Env.grow (E : Env) (w w' : World) : Env := { E with S := fun b => E.S b ∨ (w.heap.size ≤ b ∧ b < w'.heap.size) }
theorem grow_ok {E : Env} {h : MHeap} {w w' : World} (hr : HRel E h w) (hb : Below w.heap.size w w') : HRel (E.grow w w') h w' ∧ Ext (fun _ => true) E w (E.grow w w') w' := by
  have h1 := hr.ck (CKd.of_below (B := 0) hb)
  have hle : EnvLe E (E.grow w w') := ⟨fun b hb => .inl hb, fun id hk => ⟨hk, rfl, rfl, rfl, rfl, rfl, rfl, rfl⟩, rfl⟩
  refine ⟨⟨h1.klt, h1.top, fun id hk => ?_, h1.inj, fun id hk hc hs => ?_, fun b hb' => ?_⟩, ⟨hb.os, hb.tape, hb.output, hb.size, fun k hk _ => hb.block k hk, fun b hb => .inl hb, fun id hk => hk, fun id hk => ⟨Nat.le_refl _, fun _ => ⟨rfl, rfl, rfl, rfl, rfl, rfl⟩⟩, fun _ _ _ => rfl, fun id hk hc => .inl ⟨hk, hc, rfl⟩, rfl, fun id hk => .inl hk, rfl, fun b hb => hb.elim .inl fun h => .inr (.inr h.1)⟩⟩
  · obtain ⟨es, a1, a2, a3, a4, a5⟩ := h1.obj id hk
    exact ⟨es, a1, a2, a3, a4, fun hc => by
      obtain ⟨arr, t, b1, b2, b3⟩ := a5 hc
      exact ⟨arr, t, b1, b2, fun k c hkc => by obtain ⟨v, c1, c2⟩ := b3 k c hkc; exact ⟨v, c1, c2.env hle⟩⟩⟩
  · rcases hs with hs | hs
    · exact hr.sep id hk hc hs
    · have : E.ρ id < w.heap.size := hr.lt hk hc
      have h2 : w.heap.size ≤ E.ρ id := hs.1
      omega
  · rcases hb' with hb' | hb'
    · exact Nat.lt_of_lt_of_le (hr.slt b hb') hb.size
    · exact hb'.2
def rowM : List Int → MV
  | [] => .sl []
  | z :: zs => .arr 0 0 (z :: zs).length 0
def rowH : List Int → MHeap
  | [] => []
  | z :: zs => [⟨0, false, 1, (z :: zs).map I64⟩]
theorem flatI : ∀ zs : List Int, flat (zs.map I64) = (enc1 zs).map .lit
  | [] => rfl
  | z :: zs => by
    have ih := flatI zs
    simp only [flat, List.map_cons, List.flatMap_cons] at ih ⊢
    rw [ih]; rfl
theorem own_row {E : Env} {w w' : World} {v : Value} {zs : List Int} (hr : HRel E [] w) (hb : Below w.heap.size w w') (ho : w'.ownsRow w.heap.size 3 1 v zs.length (enc1 zs)) : ∃ E', V E' w' (rowM zs) v ∧ HRel E' (rowH zs) w' ∧ Ext (fun _ => true) E w E' w' := by
  have hne : ∀ id, ¬ E.K id := fun id hk => absurd (hr.klt id hk) (by simp)
  have ht : E.top = 0 := Nat.le_zero.1 hr.top
  cases zs with
  | nil =>
    obtain ⟨g1, g2⟩ := grow_ok hr hb
    refine ⟨_, ?_, g1, g2⟩
    rcases ho.2 with ⟨rfl, hn⟩ | ⟨g, cap, cur, rfl, hg, hh, hnc, hcm, hcs, htake⟩
    · exact .sl [] [] none 0 1 (Nat.le_refl _) (fun e he => by cases he) rfl (fun i c x hc => by simp [flat] at hc) (fun h0 => absurd h0 (by simp))
    · exact .sl [] [] (some ⟨g, 0, none⟩) cap 1 hnc (fun e he => by cases he) rfl (fun i c x hc => by simp [flat] at hc) (fun h0 => absurd h0 (by simp))
  | cons z zs =>
    rcases ho.2 with ⟨rfl, hn⟩ | ⟨g, cap, cur, rfl, hg, hh, hnc, hcm, hcs, htake⟩
    · simp at hn
    · have hsz : g < w'.heap.size := (Array.getElem?_eq_some_iff.1 hh).1
      obtain ⟨E', hE'⟩ : ∃ E' : Env, E' = { S := E.S, K := fun id => id = 0, ρ := fun _ => g, bo := fun _ => 0, cp := fun _ => cap, sz := fun _ => 1, gn := fun _ => 0, ln := fun _ => (z :: zs).length, nl := fun _ => false, top := 0, yl := E.yl } := ⟨_, rfl⟩
      refine ⟨E', ?_, ⟨fun id hk => ?_, ?_, fun id hk => ?_, fun i j hi hj _ _ _ => ?_, fun id hk hc hs => ?_, fun b hb' => ?_⟩, ⟨hb.os, hb.tape, hb.output, hb.size, fun k hk _ => hb.block k hk, fun b hb => ?_, fun id hk => absurd hk (hne id), fun id hk => absurd hk (hne id), fun id hk => absurd hk (hne id), fun id hk hc => ?_, ?_, fun id hk => ?_, ?_, fun b hb => ?_⟩⟩
      · refine .arr 0 0 _ 0 (some ⟨g, 0, none⟩) cap ?_ (Nat.zero_le _) fun _ => ?_
        · rw [hE']
        · rw [hE']
          exact ⟨by simp, hnc, (fun h => by cases h), fun _ => rfl, fun _ => ⟨by simp, by simp⟩⟩
      · rw [hE'] at hk
        have hk : id = 0 := hk
        subst hk
        simp [rowH]
      · rw [hE']; exact Nat.zero_le _
      · rw [hE'] at hk
        have hk : id = 0 := hk
        subst hk
        rw [hE']
        refine ⟨(z :: zs).map I64, rfl, by simp, fun e he => by obtain ⟨p, _, rfl⟩ := List.mem_map.1 he; rfl, by simpa using hnc, fun _ => ⟨cur, _, hh, by simpa using hcs, fun k c hk => ?_⟩⟩
        rw [flatI, List.getElem?_map, Option.map_eq_some_iff] at hk
        obtain ⟨u, hu, rfl⟩ := hk
        refine ⟨u, ?_, .lit _⟩
        have := htake
        rw [← this] at hu
        rw [List.getElem?_take] at hu
        split at hu
        · simpa using hu
        · cases hu
      · rw [hE'] at hi hj
        have hi : i = 0 := hi
        have hj : j = 0 := hj
        rw [hi, hj]
      · rw [hE'] at hs
        have := hr.slt g hs
        omega
      · rw [hE'] at hb'
        exact Nat.lt_of_lt_of_le (hr.slt b hb') hb.size
      · rw [hE']; exact hb
      · rw [hE']; exact .inr hg
      · rw [hE']; exact ht.symm
      · rw [ht]; exact .inr (Nat.zero_le _)
      · rw [hE']
      · rw [hE'] at hb; exact .inl hb
def tGroups (f : Nat) (args : List MV) (h : MHeap) : Option (MV × MHeap) :=
  match args, h with
  | [.agg [.lit (.int .i64 fixed), .lit (.int .i64 lead)], v], [] => match v.elems [] with
    | some es => match es.mapM decR with
      | some xs => if xs.length ≤ 9223372036854775807 then
          if f = 16 then
            if groupsErr fixed lead xs ≠ 0 then some (.tup [.lit (.slice none 0 0), I64 0, I64 (groupsErr fixed lead xs)], [])
            else some (.tup [rowM (gSizes fixed lead xs), I64 (gCost fixed lead xs), I64 0], rowH (gSizes fixed lead xs))
          else if f = 20 then
            if groupsErr fixed lead xs ≠ 0 then none else some (.tup [rowM (gSizes fixed lead xs), I64 (gCost fixed lead xs)], rowH (gSizes fixed lead xs))
          else none
        else none
      | none => none
    | none => none
  | _, _ => none
theorem groupsErr_ok {fixed lead : Int} {xs : List (Int × Int)} (h : groupsErr fixed lead xs = 0) : (0 ≤ fixed ∧ fixed ≤ 10000) ∧ (0 ≤ lead ∧ lead ≤ 10000) ∧ xs.length ≤ 30 ∧ piecesE (-2) xs = 0 := by
  unfold groupsErr at h
  simp only [firstE] at h
  by_cases h1 : (inB fixed 0 10000 && inB lead 0 10000) = true
  · have h2 : piecesAll xs = 0 := by
      by_cases h0 : piecesAll xs = 0
      · exact h0
      · simp [unl, h1, h0] at h
    rw [Bool.and_eq_true] at h1
    unfold piecesAll at h2
    split at h2
    · cases h2
    · exact ⟨inB_iff.1 h1.1, inB_iff.1 h1.2, by omega, h2⟩
  · simp [unl, h1] at h
theorem vs_two {E : Env} {w : World} {a b : MV} {vs : List Value} (hv : Vs E w [a, b] vs) : ∃ x y, vs = [x, y] ∧ V E w a x ∧ V E w b y := by
  obtain ⟨x, us, rfl, h1, h2⟩ := hv.uncons
  obtain ⟨y, us, rfl, h3, h4⟩ := h2.uncons
  have : us = [] := List.length_eq_zero_iff.1 h4.1.symm
  subst this
  exact ⟨x, y, rfl, h1, h3⟩
theorem v_agg {E : Env} {w : World} {us : List Value} {v : Value} (hv : V E w (.agg (us.map .lit)) v) : v = .agg us.toArray := by
  cases hv with
  | agg cs vs hl hc =>
    have : Vs E w (us.map .lit) vs := ⟨hl, hc⟩
    rw [this.lits]
theorem tGroups_ok : SoundO Try.prog tGroups := by
  intro f args h m h' he
  unfold tGroups at he
  split at he
  case h_2 => cases he
  rename_i fixed lead v
  split at he
  case h_2 => cases he
  rename_i es hes
  split at he
  case h_2 => cases he
  rename_i xs hxs
  have hes' := decR_all hxs
  subst hes'
  split at he
  case isFalse => cases he
  rename_i hlen
  split at he
  · rename_i hf
    subst hf
    refine ⟨by kernel_rfl, fun E w vs hr hv => ?_⟩
    obtain ⟨x, y, rfl, h1, h2⟩ := vs_two hv
    have := v_agg (us := [.int .i64 fixed, .int .i64 lead]) h1
    subst this
    obtain ⟨A, cap, rfl, hcap, hrd⟩ := rd_of hr h2 hes
    split at he
    · rename_i hE
      cases he
      refine (GroupsOf_bad fixed lead A xs.length cap xs w hlen hrd hE).mono fun e w' ⟨he, hb⟩ => ?_
      obtain ⟨g1, g2⟩ := grow_ok hr hb
      exact ⟨_, _, he, .tup _ [.slice none 0 0, .int .i64 0, .int .i64 (groupsErr fixed lead xs)] rfl (fun i c x hc hx => by
        have : Vs (E.grow w w') w' [.lit (.slice none 0 0), I64 0, I64 (groupsErr fixed lead xs)] [.slice none 0 0, .int .i64 0, .int .i64 (groupsErr fixed lead xs)] := Vs.cons (.lit _) (Vs.cons (.lit _) (Vs.cons (.lit _) ⟨rfl, fun i c v hc => by simp at hc⟩))
        exact this.2 i c x hc hx), g1, g2⟩
    · rename_i hE
      cases he
      have hE0 : groupsErr fixed lead xs = 0 := by simpa using hE
      obtain ⟨k1, k2, k3, k4⟩ := groupsErr_ok hE0
      refine (GroupsOf_ok fixed lead A xs.length cap xs w k3 hrd hE0 k1 k2 (piecesE_range xs (-2) k4)).mono fun e w' ⟨v', he, ho, hb⟩ => ?_
      obtain ⟨E', g0, g1, g2⟩ := own_row hr hb ho
      exact ⟨_, _, he, .tup _ [v', .int .i64 (gCost fixed lead xs), .int .i64 0] rfl (fun i c x hc hx => by
        have : Vs E' w' [rowM (gSizes fixed lead xs), I64 (gCost fixed lead xs), I64 0] [v', .int .i64 (gCost fixed lead xs), .int .i64 0] := Vs.cons g0 (Vs.cons (.lit _) (Vs.cons (.lit _) ⟨rfl, fun i c v hc => by simp at hc⟩))
        exact this.2 i c x hc hx), g1, g2⟩
  · split at he
    case isFalse => cases he
    rename_i hf
    subst hf
    refine ⟨by kernel_rfl, fun E w vs hr hv => ?_⟩
    obtain ⟨x, y, rfl, h1, h2⟩ := vs_two hv
    have := v_agg (us := [.int .i64 fixed, .int .i64 lead]) h1
    subst this
    obtain ⟨A, cap, rfl, hcap, hrd⟩ := rd_of hr h2 hes
    split at he
    · cases he
    · rename_i hE
      cases he
      have hE0 : groupsErr fixed lead xs = 0 := by simpa using hE
      obtain ⟨k1, k2, k3, k4⟩ := groupsErr_ok hE0
      refine (rGroups_any fixed lead A xs.length cap xs w k3 hcap hrd k1 k2 (piecesE_range xs (-2) k4)).mono fun e w' ⟨v', he, ho, hb⟩ => ?_
      obtain ⟨E', g0, g1, g2⟩ := own_row hr hb ho
      exact ⟨_, _, he, .tup _ [v', .int .i64 (gCost fixed lead xs)] rfl (fun i c x hc hx => by
        have : Vs E' w' [rowM (gSizes fixed lead xs), I64 (gCost fixed lead xs)] [v', .int .i64 (gCost fixed lead xs)] := Vs.cons g0 (Vs.cons (.lit _) ⟨rfl, fun i c v hc => by simp at hc⟩)
        exact this.2 i c x hc hx), g1, g2⟩
end Go.Proofs.Ytgjpdjihjphbdaa

/- Sides of polygons: the small functions. -/
namespace Go.Proofs.Ytgjpdjihjphbdaa
open Go.RowKit
theorem mul_bd {a b : Int} {A B : Int} (h1 : -A ≤ a) (h2 : a ≤ A) (h3 : -B ≤ b) (h4 : b ≤ B) : -(A * B) ≤ a * b ∧ a * b ≤ A * B := by
  have hA : 0 ≤ A := by omega
  have hB : 0 ≤ B := by omega
  have e1 : a.natAbs ≤ A.natAbs := by omega
  have e2 : b.natAbs ≤ B.natAbs := by omega
  have e3 : (a * b).natAbs ≤ (A * B).natAbs := by rw [Int.natAbs_mul, Int.natAbs_mul]; exact Nat.mul_le_mul e1 e2
  have e4 : 0 ≤ A * B := Int.mul_nonneg hA hB
  omega
abbrev Pt := Int × Int
def InP (p : Pt) : Prop := 0 ≤ p.1 ∧ p.1 ≤ 1000 ∧ 0 ≤ p.2 ∧ p.2 ≤ 1000
def crs (s t x : Pt) : Int := (t.1 - s.1) * (x.2 - s.2) - (x.1 - s.1) * (t.2 - s.2)
set_option maxRecDepth 100000 in
set_option maxHeartbeats 1000000 in
theorem cross_any (s t x : Pt) (w : World) (hs : InP s) (ht : InP t) (hx : InP x) :
    Calls Try.prog 149 #[(.agg #[.int .i64 (s.1), .int .i64 (s.2), .int .i64 (t.1), .int .i64 (t.2)]), (.agg #[.int .i64 (x.1), .int .i64 (x.2)])] w (Ret w (.int .i64 (crs s t x))) := by
  obtain ⟨a, b⟩ := s
  obtain ⟨c, d⟩ := t
  obtain ⟨e, f⟩ := x
  obtain ⟨p1, p2, p3, p4⟩ := hs
  obtain ⟨p5, p6, p7, p8⟩ := ht
  obtain ⟨p9, q1, q2, q3⟩ := hx
  dsimp only at *
  have m1 := mul_bd (a := c - a) (b := f - b) (A := 1000) (B := 1000) (by omega) (by omega) (by omega) (by omega)
  have m2 := mul_bd (a := e - a) (b := d - b) (A := 1000) (B := 1000) (by omega) (by omega) (by omega) (by omega)
  have HC := Lib.hid (show crs (a, b) (c, d) (e, f) = (c - a) * (f - b) - (e - a) * (d - b) from rfl)
  obtain ⟨m11, m12⟩ := m1
  obtain ⟨m21, m22⟩ := m2
  go_enter Try.func149, Try.ntmps149
  go_wp2
  go_ret
  exact ⟨ret_int HC.out.symm, ((Below.refl _ w).alloc (Nat.le_refl _) _).alloc (by simp) _⟩
def onS (s t x : Pt) : Bool := crs s t x == 0 && inB x.1 (mn s.1 t.1) (mx s.1 t.1) && inB x.2 (mn s.2 t.2) (mx s.2 t.2)
set_option maxRecDepth 100000 in
set_option maxHeartbeats 1000000 in
theorem has_any (s t x : Pt) (w : World) (hs : InP s) (ht : InP t) (hx : InP x) :
    Calls Try.prog 100 #[(.agg #[.int .i64 (s.1), .int .i64 (s.2), .int .i64 (t.1), .int .i64 (t.2)]), (.agg #[.int .i64 (x.1), .int .i64 (x.2)])] w (Ret w (.bool (onS s t x))) := by
  have hcr := Lib.hid (fun W => cross_any s t x W hs ht hx)
  have hon := Lib.hid (show onS s t x = (crs s t x == 0 && inB x.1 (mn s.1 t.1) (mx s.1 t.1) && inB x.2 (mn s.2 t.2) (mx s.2 t.2)) from rfl)
  generalize crs s t x = cr at hcr hon
  generalize onS s t x = os at hon
  obtain ⟨a, b⟩ := s
  obtain ⟨c, d⟩ := t
  obtain ⟨e, f⟩ := x
  dsimp only at *
  clear hs ht hx
  have hmx := run_mx
  have hmn := run_mn
  cases h1 : (cr == 0)
  · go_enter Try.func100, Try.ntmps100
    go_wp2_with ((go_at_call 149; (with_reducible refine (hcr.out _).mono ?_); rintro e w1 ⟨rfl, hb1⟩; obtain ⟨hcc, hff⟩ := bcell hb1))
    go_ret
    exact ⟨ret_bool (by rw [hon.out, h1]; rfl), (((Below.refl _ w).alloc (Nat.le_refl _) _).alloc (by simp) _).trans (hb1.mono (by simp; omega))⟩
  · cases h2 : inB e (mn a c) (mx a c)
    all_goals
      go_enter Try.func100, Try.ntmps100
      go_wp2_with (first | ((go_at_call 149; (with_reducible refine (hcr.out _).mono ?_); rintro e w1 ⟨rfl, hb1⟩; obtain ⟨hcc, hff⟩ := bcell hb1)) | (go_at_call 129; refine (within_any _ _ _ _).mono ?_; rintro e w' ⟨rfl, rfl⟩))
      go_ret
      exact ⟨ret_bool (by rw [hon.out, h1, h2]; rfl), (((Below.refl _ w).alloc (Nat.le_refl _) _).alloc (by simp) _).trans (hb1.mono (by simp; omega))⟩
end Go.Proofs.Ytgjpdjihjphbdaa
namespace Go.Proofs.Ytgjpdjihjphbdaa
open Go.RowKit
structure Box4 (w : World) (b : Nat) (s t : Pt) : Prop where
  c0 : w.cell? ⟨b, 0, none⟩ = some (.int .i64 (s.1))
  c1 : w.cell? ⟨b, 1, none⟩ = some (.int .i64 (s.2))
  c2 : w.cell? ⟨b, 2, none⟩ = some (.int .i64 (t.1))
  c3 : w.cell? ⟨b, 3, none⟩ = some (.int .i64 (t.2))
structure Box2 (w : World) (b : Nat) (p : Pt) : Prop where
  c0 : w.cell? ⟨b, 0, none⟩ = some (.int .i64 (p.1))
  c1 : w.cell? ⟨b, 1, none⟩ = some (.int .i64 (p.2))
theorem Box4.later {w w' : World} {b : Nat} {s t : Pt} (h : Box4 w b s t) (hb : Below w.heap.size w w') : Box4 w' b s t := ⟨cell_below h.c0 hb, cell_below h.c1 hb, cell_below h.c2 hb, cell_below h.c3 hb⟩
theorem Box4.alloc {w : World} {b : Nat} {s t : Pt} (h : Box4 w b s t) (o : Obj) : Box4 (w.alloc o) b s t := ⟨cell_alloc h.c0 o, cell_alloc h.c1 o, cell_alloc h.c2 o, cell_alloc h.c3 o⟩
theorem Box2.later {w w' : World} {b : Nat} {p : Pt} (h : Box2 w b p) (hb : Below w.heap.size w w') : Box2 w' b p := ⟨cell_below h.c0 hb, cell_below h.c1 hb⟩
theorem Box2.alloc {w : World} {b : Nat} {p : Pt} (h : Box2 w b p) (o : Obj) : Box2 (w.alloc o) b p := ⟨cell_alloc h.c0 o, cell_alloc h.c1 o⟩
theorem Box4.new (w : World) (s t : Pt) (T : TypeId) : Box4 (w.alloc (.cells #[.int .i64 s.1, .int .i64 s.2, .int .i64 t.1, .int .i64 t.2] T)) w.heap.size s t := ⟨by simp, by simp, by simp, by simp⟩
theorem Box2.new (w : World) (p : Pt) (T : TypeId) : Box2 (w.alloc (.cells #[.int .i64 p.1, .int .i64 p.2] T)) w.heap.size p := ⟨by simp, by simp⟩
set_option maxHeartbeats 400000 in
theorem positionErr_any (p : Pt) (w : World) :
    Calls Try.prog 96 #[(.agg #[.int .i64 (p.1), .int .i64 (p.2)])] w (Ret w (.int .i64 (unl (inB p.1 0 1000 && inB p.2 0 1000) 2))) := by
  obtain ⟨a, b⟩ := p
  dsimp only
  cases h1 : inB a 0 1000
  all_goals
    go_enter Try.func96, Try.ntmps96
    go_wp2_with (first | (go_at_call 128; refine (isPosition_any _ _).mono ?_; rintro e w' ⟨rfl, rfl⟩) | (go_at_call 93; refine (unless_any _ _ _).mono ?_; rintro e w' ⟨rfl, rfl⟩))
    go_ret
    exact ⟨rfl, (Below.refl _ w).alloc (Nat.le_refl _) _⟩
def opp (a b : Int) : Bool := decide (a < 0 ∧ 0 < b ∨ 0 < a ∧ b < 0)
set_option maxHeartbeats 400000 in
theorem opposite_any (a b : Int) (w : World) :
    Calls Try.prog 165 #[(.int .i64 (a)), (.int .i64 (b))] w fun e w' => e = .returned (.bool (opp a b)) ∧ w = w' := by
  by_cases h1 : a < 0
  · by_cases h2 : 0 < b
    · have H := Lib.hid (show opp a b = true by simp [opp, h1, h2])
      go_enter Try.func165, Try.ntmps165
      go_wp2
      go_ret
      exact ⟨ret_bool H.out.symm, rfl⟩
    · have H := Lib.hid (show opp a b = false by simp only [opp, decide_eq_false_iff_not]; omega)
      have h3 : decide ((0 : Int) < b) = false := decide_eq_false h2
      have h4 : decide ((0 : Int) < a) = false := decide_eq_false (by omega)
      go_enter Try.func165, Try.ntmps165
      go_wp2
      go_ret
      exact ⟨ret_bool H.out.symm, rfl⟩
  · have h5 : decide (a < 0) = false := decide_eq_false h1
    by_cases h2 : 0 < a
    · have H := Lib.hid (show opp a b = decide (b < 0) by simp only [opp]; rw [decide_eq_decide]; omega)
      go_enter Try.func165, Try.ntmps165
      go_wp2
      go_ret
      exact ⟨ret_bool H.out.symm, rfl⟩
    · have H := Lib.hid (show opp a b = false by simp only [opp, decide_eq_false_iff_not]; omega)
      have h4 : decide ((0 : Int) < a) = false := decide_eq_false h2
      go_enter Try.func165, Try.ntmps165
      go_wp2
      go_ret
      exact ⟨ret_bool H.out.symm, rfl⟩
end Go.Proofs.Ytgjpdjihjphbdaa
namespace Go.Proofs.Ytgjpdjihjphbdaa
open Go.RowKit
def touchS (s t o p : Pt) : Bool := onS s t o || onS s t p || onS o p s || onS o p t
def meetS (s t o p : Pt) : Bool := touchS s t o p || (opp (crs s t o) (crs s t p) && opp (crs o p s) (crs o p t))
theorem below_box2 (w : World) (o o' : Obj) : Below w.heap.size w ((w.alloc o).alloc o') := ((Below.refl _ w).alloc (Nat.le_refl _) o).alloc (by simp) o'
set_option maxRecDepth 100000 in
set_option maxHeartbeats 4000000 in
theorem meets_any (s t o p : Pt) (w : World) (hs : InP s) (ht : InP t) (ho : InP o) (hp : InP p) :
    Calls Try.prog 148 #[(.agg #[.int .i64 (s.1), .int .i64 (s.2), .int .i64 (t.1), .int .i64 (t.2)]), (.agg #[.int .i64 (o.1), .int .i64 (o.2), .int .i64 (p.1), .int .i64 (p.2)])] w (Ret w (.bool (meetS s t o p))) := by
  have h1 := Lib.hid (fun W => has_any s t o W hs ht ho)
  have h2 := Lib.hid (fun W => has_any s t p W hs ht hp)
  have h3 := Lib.hid (fun W => has_any o p s W ho hp hs)
  have h4 := Lib.hid (fun W => has_any o p t W ho hp ht)
  have k1 := Lib.hid (fun W => cross_any s t o W hs ht ho)
  have k2 := Lib.hid (fun W => cross_any s t p W hs ht hp)
  have k3 := Lib.hid (fun W => cross_any o p s W ho hp hs)
  have k4 := Lib.hid (fun W => cross_any o p t W ho hp ht)
  have HM := Lib.hid (show meetS s t o p = (touchS s t o p || (opp (crs s t o) (crs s t p) && opp (crs o p s) (crs o p t))) from rfl)
  have HT := Lib.hid (show touchS s t o p = (onS s t o || onS s t p || onS o p s || onS o p t) from rfl)
  clear hs ht ho hp
  have B1 := Lib.hid ((Box4.new w s t 150).alloc (.cells #[.int .i64 o.1, .int .i64 o.2, .int .i64 p.1, .int .i64 p.2] 150))
  have B2 := Lib.hid (Box4.new (w.alloc (.cells #[.int .i64 s.1, .int .i64 s.2, .int .i64 t.1, .int .i64 t.2] 150)) o p 150)
  generalize crs s t o = x1 at *
  generalize crs s t p = x2 at *
  generalize crs o p s = x3 at *
  generalize crs o p t = x4 at *
  generalize onS s t o = b1 at *
  generalize onS s t p = b2 at *
  generalize onS o p s = b3 at *
  generalize onS o p t = b4 at *
  generalize touchS s t o p = tt at *
  generalize meetS s t o p = mm at *
  obtain ⟨a, b⟩ := s
  obtain ⟨c, d⟩ := t
  obtain ⟨e, f⟩ := o
  obtain ⟨g, h⟩ := p
  dsimp only at *
  go_enter Try.func148, Try.ntmps148
  go_upto_region 1 with fail
  go_cut [27] (fun r wx => r = .bool tt ∧ Below w.heap.size w wx ∧ Box4 wx w.heap.size (a, b) (c, d) ∧ Box4 wx (w.heap.size + 1) (e, f) (g, h))
  case first =>
    have HB := Lib.hid (below_box2 w (.cells #[.int .i64 a, .int .i64 b, .int .i64 c, .int .i64 d] 150) (.cells #[.int .i64 e, .int .i64 f, .int .i64 g, .int .i64 h] 150))
    have z1 : w.heap.size < w.heap.size + 1 + 1 := by omega
    have z2 : w.heap.size + 1 < w.heap.size + 1 + 1 := by omega
    cases b1 <;> cases b2 <;> cases b3
    all_goals
      refine wp_region_calm_seq 22 ?_
      simp only [List.take_succ_cons, List.take_zero, List.drop_succ_cons, List.drop_zero]
      repeat (go_big_quiet_step ((go_at_call 100; first | with_reducible exact After.call (h1.out _) | with_reducible exact After.call (h2.out _) | with_reducible exact After.call (h3.out _) | with_reducible exact After.call (h4.out _))))
      refine wpQuiet_nil ?_
      intro w1 hb1
      go_wp2_with fail
      go_meet
      exact ⟨ret_boo (by rw [HT.out]; rfl), HB.out.trans (hb1.mono (by simp; omega)), B1.out.later hb1, (by have := B2.out; simpa using this.later hb1)⟩
  case rest =>
    obtain ⟨rfl, hb, ⟨q0, q1, q2, q3⟩, ⟨r0, r1, r2, r3⟩⟩ := hcut
    have z1 := cell_lt q0
    have z2 := cell_lt r0
    dsimp only at z1 z2 q0 q1 q2 q3 r0 r1 r2 r3
    cases tt
    · cases ho1 : opp x1 x2
      all_goals
        have k5 := Lib.hid (fun W => opposite_any x1 x2 W)
        rw [ho1] at k5
        go_upto_region 4 with fail
        refine wp_region_calm (by kernel_rfl) (by kernel_rfl) ?_
        repeat (go_big_quiet_step (first | ((go_at_call 149; first | with_reducible exact After.call (k1.out _) | with_reducible exact After.call (k2.out _) | with_reducible exact After.call (k3.out _) | with_reducible exact After.call (k4.out _))) | (go_at_call 165; first | with_reducible exact After.same (k5.out _) | exact After.same (opposite_any _ _ _))))
        refine wpQuiet_nil ?_
        intro w1 hb1
        go_wp2
        go_ret
        exact ⟨ret_bool (by rw [HM.out, ho1]; rfl), hb.trans (hb1.mono hb.size)⟩
    · go_wp2
      go_ret
      exact ⟨ret_bool (by rw [HM.out]; rfl), hb⟩
def clashS (i : Int) (s t : Pt) (k : Int) (o p : Pt) (n : Int) : Bool :=
  if k = i + 1 then onS s t p || onS o p s else if i = 0 ∧ k = n - 1 then onS s t o || onS o p t else meetS s t o p
set_option maxRecDepth 100000 in
set_option maxHeartbeats 4000000 in
theorem clash_any (i k n : Int) (s t o p : Pt) (w : World) (hi : 0 ≤ i ∧ i ≤ 1000) (hk : 0 ≤ k ∧ k ≤ 1000) (hn : 0 ≤ n ∧ n ≤ 1000) (hs : InP s) (ht : InP t) (ho : InP o) (hp : InP p) :
    Calls Try.prog 98 #[(.int .i64 (i)), (.agg #[.int .i64 (s.1), .int .i64 (s.2), .int .i64 (t.1), .int .i64 (t.2)]), (.int .i64 (k)), (.agg #[.int .i64 (o.1), .int .i64 (o.2), .int .i64 (p.1), .int .i64 (p.2)]), (.int .i64 (n))] w (Ret w (.bool (clashS i s t k o p n))) := by
  have h1 := Lib.hid (fun W => has_any s t p W hs ht hp)
  have h2 := Lib.hid (fun W => has_any o p s W ho hp hs)
  have h3 := Lib.hid (fun W => has_any s t o W hs ht ho)
  have h4 := Lib.hid (fun W => has_any o p t W ho hp ht)
  have h5 := Lib.hid (fun W => meets_any s t o p W hs ht ho hp)
  have HC := Lib.hid (show clashS i s t k o p n = if k = i + 1 then onS s t p || onS o p s else if i = 0 ∧ k = n - 1 then onS s t o || onS o p t else meetS s t o p from rfl)
  clear hs ht ho hp
  obtain ⟨i1, i2⟩ := hi
  obtain ⟨k1, k2⟩ := hk
  obtain ⟨n1, n2⟩ := hn
  have HB := Lib.hid (below_box2 w (.cells #[.int .i64 s.1, .int .i64 s.2, .int .i64 t.1, .int .i64 t.2] 150) (.cells #[.int .i64 o.1, .int .i64 o.2, .int .i64 p.1, .int .i64 p.2] 150))
  generalize onS s t p = b1 at *
  generalize onS o p s = b2 at *
  generalize onS s t o = b3 at *
  generalize onS o p t = b4 at *
  generalize meetS s t o p = b5 at *
  generalize clashS i s t k o p n = cc at *
  obtain ⟨a, b⟩ := s
  obtain ⟨c, d⟩ := t
  obtain ⟨e, f⟩ := o
  obtain ⟨g, h⟩ := p
  dsimp only at *
  have z1 : w.heap.size < w.heap.size + 1 + 1 := by omega
  have z2 : w.heap.size + 1 < w.heap.size + 1 + 1 := by omega
  by_cases e1 : k = i + 1
  · have HK := Lib.hid e1
    have hk1 : (k == i + 1) = true := by simp [e1]
    clear e1
    cases b1
    all_goals
      go_enter Try.func98, Try.ntmps98
      go_upto_region 2 with fail
      refine wp_region_calm_seq 10 ?_
      simp only [List.take_succ_cons, List.take_zero, List.drop_succ_cons, List.drop_zero]
      repeat (go_big_quiet_step ((go_at_call 100; first | with_reducible exact After.call (h1.out _) | with_reducible exact After.call (h2.out _))))
      refine wpQuiet_nil ?_
      intro w1 hb1
      go_wp2
      go_ret
      exact ⟨ret_bool (by rw [HC.out, if_pos HK.out]; rfl), HB.out.trans (hb1.mono (by simp; omega))⟩
  · have HK := Lib.hid e1
    have hk1 : (k == i + 1) = false := by simp [e1]
    clear e1
    by_cases e2 : i = 0 ∧ k = n - 1
    · have HL := Lib.hid e2
      have hi0 : (i == 0) = true := by simp [e2.1]
      have hk2 : (k == n - 1) = true := by simp [e2.2]
      clear e2
      cases b3
      all_goals
        go_enter Try.func98, Try.ntmps98
        go_upto_region 4 with fail
        refine wp_region_calm_seq 10 ?_
        simp only [List.take_succ_cons, List.take_zero, List.drop_succ_cons, List.drop_zero]
        repeat (go_big_quiet_step ((go_at_call 100; first | with_reducible exact After.call (h3.out _) | with_reducible exact After.call (h4.out _))))
        refine wpQuiet_nil ?_
        intro w1 hb1
        go_wp2
        go_ret
        exact ⟨ret_bool (by rw [HC.out, if_neg HK.out, if_pos HL.out]; rfl), HB.out.trans (hb1.mono (by simp; omega))⟩
    · have HL := Lib.hid e2
      have hkk : (i == 0) = false ∨ ((i == 0) = true ∧ (k == n - 1) = false) := by
        by_cases h0 : i = 0
        · right; exact ⟨by simp [h0], by rw [beq_eq_false_iff_ne]; exact fun h => e2 ⟨h0, h⟩⟩
        · left; simp [h0]
      clear e2
      rcases hkk with hi0 | ⟨hi0, hk2⟩
      all_goals
        go_enter Try.func98, Try.ntmps98
        go_wp2_with ((go_at_call 148; (with_reducible refine (h5.out _).mono ?_); rintro e w1 ⟨rfl, hb1⟩))
        go_ret
        exact ⟨ret_bool (by rw [HC.out, if_neg HK.out, if_neg HL.out]), HB.out.trans (hb1.mono (by simp; omega))⟩
end Go.Proofs.Ytgjpdjihjphbdaa

/- The iterator over the sides of a polygon. -/
namespace Go.Proofs.Ytgjpdjihjphbdaa
open Go.RowKit
attribute [local go_sem] Oper.semAt_some
theorem abides_below {β : Type} {B : Nat} {J : β → World → Prop} (hJ : AbidesFrom B J) {s : β} {A A' : World} (h : J s A) (hb : Below A.heap.size A A') : J s A' :=
  hJ s A A' none h ⟨hb.os, hb.tape, hb.output, hb.size, fun k hk _ => hb.block k hk⟩ (fun r e => by cases e)
theorem Stable.box4 {B b : Nat} {s t : Pt} : Stable B (fun W => Box4 W b s t) := fun _ _ h hk => ⟨hk.cell h.c0, hk.cell h.c1, hk.cell h.c2, hk.cell h.c3⟩
def corner (cs : List Pt) (i : Nat) : Pt := cs.getD i (0, 0)
def nextC (cs : List Pt) (i : Nat) : Pt := cs.getD ((i + 1) % cs.length) (0, 0)
def sideV (cs : List Pt) (i : Fin cs.length) : Array Value := #[(.int .i64 ((i.val : Int))), (.agg #[.int .i64 ((corner cs i.val).1), .int .i64 ((corner cs i.val).2), .int .i64 ((nextC cs i.val).1), .int .i64 ((nextC cs i.val).2)])]
def allFin (n : Nat) : List (Fin n) := List.finRange n
theorem allFin_take (n k : Nat) (h : k < n) : (allFin n).take (k + 1) = (allFin n).take k ++ [⟨k, h⟩] := by
  rw [List.take_succ_eq_append_getElem (by simpa [allFin] using h)]
  simp [allFin]
set_option maxRecDepth 100000 in
set_option maxHeartbeats 4000000 in
theorem sides1_in (n : Nat) (hn : 1 ≤ n) (l Bn b off cap : Nat) (S : Nat → Prop) (cs : List Pt) (hlen : cs.length ≤ 1000) (J Jx : List (Fin cs.length) → World → Prop) (W : World) (hJ : AbidesFrom W.heap.size J)
    (hY : ∀ pre x W1, J pre W1 → pre.length < cs.length → YieldAt Fence.wide (n - 1) Try.prog l (sideV cs x) W1 fun e W' =>
      (e = .returned (.bool true) ∧ J (pre ++ [x]) W' ∧ SameS S W1 W') ∨ (e = .returned (.bool false) ∧ Jx (pre ++ [x]) W'))
    (hB : S Bn) (hb0 : S b) (hn0 : ∀ k, S k → k < W.heap.size) (hc : W.cell? ⟨Bn, 0, none⟩ = some (.slice (some ⟨b, off, none⟩) cs.length cap)) (hr : Rd W 2 (some ⟨b, off, none⟩) cs.length (enc2 cs)) (h0 : J [] W) :
    CallsIn Fence.wide n Try.prog 147 #[.func (.yield l) #[] #[], .pointer (some ⟨Bn, 0, none⟩)] W fun e W' => (∃ v, e = .returned v) ∧
      ((∃ ys, ys = allFin cs.length ∧ J ys W') ∨ (∃ pre, pre <+: allFin cs.length ∧ Jx pre W')) := by
  refine callsIn_of_wp Try.func147 rfl trivial ?_ rfl
  simp only [Try.ntmps147, List.size_toArray, List.length_cons, List.length_nil, Nat.reduceAdd, Nat.reduceSub, Array.replicate_succ, Array.replicate_zero, List.push_toArray, List.append_toArray, List.nil_append, List.cons_append]
  gi_wp2
  gi_loopw [3, 4, 8] (fun _ _ i wr => ∃ k : Nat, k ≤ cs.length ∧ i = .int .i64 (k : Int) ∧ J ((allFin cs.length).take k) wr ∧ SameS S W wr) (fun _ _ i _ => cs.length - (intOf i).toNat)
  case atStart => exact ⟨0, Nat.zero_le _, rfl, h0, SameS.refl _ _⟩
  case round =>
    obtain ⟨k, hk, rfl, hJs, hbw⟩ := hrel
    have HJS := Lib.hid hJs
    clear hJs
    by_cases hlt : k < cs.length
    · have hn1 : (k + 1) % cs.length < cs.length := Nat.mod_lt _ (by omega)
      have hBc : wr.cell? ⟨Bn, 0, none⟩ = some (.slice (some ⟨b, off, none⟩) cs.length cap) := (hbw.cell (p := ⟨Bn, 0, none⟩) hB).trans hc
      obtain ⟨b1, o1, e1, _, c1, c2⟩ := hr.at2 k hlt
      cases e1
      obtain ⟨b2, o2, e2, _, c3, c4⟩ := hr.at2 ((k + 1) % cs.length) hn1
      cases e2
      replace c1 := (hbw.cell (p := ⟨b, off + k * 2, none⟩) hb0).trans c1
      replace c2 := (hbw.cell (p := ⟨b, off + k * 2 + 1, none⟩) hb0).trans c2
      replace c3 := (hbw.cell (p := ⟨b, off + (k + 1) % cs.length * 2, none⟩) hb0).trans c3
      replace c4 := (hbw.cell (p := ⟨b, off + (k + 1) % cs.length * 2 + 1, none⟩) hb0).trans c4
      have HC1 := Lib.hid (show cs[k] = corner cs k by simp [corner, hlt])
      have HC2 := Lib.hid (show cs[(k + 1) % cs.length] = nextC cs k by simp [nextC, hn1])
      rw [HC1.out] at c1 c2
      rw [HC2.out] at c3 c4
      have zB : Bn < wr.heap.size := cell_lt hBc
      have zb : b < wr.heap.size := by have := hbw.size; have := hn0 b hb0; omega
      have zB1 : Bn < wr.heap.size + 1 := by omega
      have zb1 : b < wr.heap.size + 1 := by omega
      obtain ⟨j, hj⟩ : ∃ j, j = (k + 1) % cs.length := ⟨_, rfl⟩
      rw [← hj] at c3 c4 hn1
      have hmod : ((k : Int) + 1) % (cs.length : Int) = (j : Int) := by rw [hj, Int.natCast_emod]; rfl
      have HJ := Lib.hid hj
      clear hj
      clear hr
      gi_wp2
      refine wpIn_region_calm_tail (r := none) 14 (by kernel_rfl) (by kernel_rfl) ?_
      simp only [List.take_succ_cons, List.take_zero, List.drop_succ_cons, List.drop_zero]
      repeat (go_big_quiet_step (fail))
      refine wpQuiet_nil ?_
      intro w1 hb1
      have hJ1 : J ((allFin cs.length).take k) w1 := abides_below hJ HJS.out (((Below.refl _ wr).alloc (Nat.le_refl _) _).trans (hb1.mono (by simp)))
      have hbw1 : SameS S W w1 := hbw.trans (SameS.of_below (((Below.refl _ wr).alloc (Nat.le_refl _) _).trans (hb1.mono (by simp))) (fun k hk => Nat.lt_of_lt_of_le (hn0 k hk) hbw.size))
      obtain ⟨fn, tmps, assign, body, hy, hR⟩ := hY _ ⟨k, hlt⟩ w1 hJ1 (by simp [allFin]; omega)
      unfold sideV at hy
      dsimp only at hy
      have HK := Lib.hid (allFin_take cs.length k hlt)
      clear hJ hY hbw
      have HB := Lib.hid hbw1
      clear hbw1 hJ1 HJS hb1 hBc
      gi_wp2
      refine hR.mono ?_
      rintro e W3 (⟨rfl, hJ3, hk3⟩ | ⟨rfl, hJx3⟩)
      · have HJ3 := Lib.hid hJ3
        clear hJ3
        gi_wp2
        go_roundw
        case rel => exact ⟨k + 1, by omega, by go_num, by rw [HK.out]; exact HJ3.out, HB.out.trans hk3⟩
        case measure => simp [intOf]; omega
      · have HJ3 := Lib.hid hJx3
        clear hJx3
        gi_wp2
        refine bodyPost_ret (results_none rfl _ _ _) rfl ?_
        exact ⟨⟨_, rfl⟩, .inr ⟨_, ⟨_, by rw [← HK.out]; exact List.take_append_drop _ _⟩, HJ3.out⟩⟩
    · gi_wp2
      go_end0
      refine ⟨⟨_, rfl⟩, .inl ⟨_, rfl, ?_⟩⟩
      have := HJS.out
      rw [List.take_of_length_le (by simp [allFin]; omega)] at this
      exact this
set_option maxHeartbeats 400000 in
theorem sides_any (v : Value) (w : World) (hv : ∃ A n c, v = .slice A n c) :
    Calls Try.prog 97 #[.agg #[v]] w fun e w' => e = .returned (.func (.func 147) #[] #[.pointer (some ⟨w.heap.size, 0, none⟩)]) ∧ w.alloc (.cells #[v] 41) = w' := by
  obtain ⟨A, n, c, rfl⟩ := hv
  go_enter Try.func97, Try.ntmps97
  go_wp2
  go_ret
  exact ⟨rfl, rfl⟩
theorem sides_stops (Bn b off cap : Nat) (S : Nat → Prop) (cs : List Pt) (hlen : cs.length ≤ 1000) (w : World) (hB : S Bn) (hb0 : S b) (hn0 : ∀ k, S k → k < w.heap.size)
    (hc : w.cell? ⟨Bn, 0, none⟩ = some (.slice (some ⟨b, off, none⟩) cs.length cap)) (hr : Rd w 2 (some ⟨b, off, none⟩) cs.length (enc2 cs)) : ∀ n, 1 ≤ n →
    SeqStopsK Fence.wide n Try.prog 147 #[.pointer (some ⟨Bn, 0, none⟩)] (sideV cs) (SameS S) (fun ys => ys = allFin cs.length) (fun pre => pre <+: allFin cs.length) cs.length w :=
  fun n hn l J Jx W hW hJ _ hY h0 => sides1_in n hn l Bn b off cap S cs hlen J Jx W hJ hY hB hb0 (fun k hk => Nat.lt_of_lt_of_le (hn0 k hk) hW.size) (cell_below hc hW) (hr.below rfl hW) h0
end Go.Proofs.Ytgjpdjihjphbdaa

/- 'AreaOf'. -/
namespace Go.Proofs.Ytgjpdjihjphbdaa
open Go.RowKit
attribute [local go_sem] Oper.semAt_some
def areaT (cs : List Pt) (i : Nat) : Int := (corner cs i).1 * (nextC cs i).2 - (nextC cs i).1 * (corner cs i).2
def areaS (cs : List Pt) (l : List (Fin cs.length)) : Int := (l.map fun i => areaT cs i.val).sum
theorem areaS_snoc (cs : List Pt) (l : List (Fin cs.length)) (x : Fin cs.length) : areaS cs (l ++ [x]) = areaS cs l + areaT cs x.val := by simp [areaS]
theorem inP_getD {cs : List Pt} (h : ∀ p ∈ cs, InP p) (i : Nat) : InP (cs.getD i (0, 0)) := by
  by_cases hi : i < cs.length
  · have := h cs[i] (List.getElem_mem hi)
    simpa [hi] using this
  · simp [hi, InP]
theorem corner_inP {cs : List Pt} (h : ∀ p ∈ cs, InP p) (i : Nat) : InP (corner cs i) := inP_getD h i
theorem nextC_inP {cs : List Pt} (h : ∀ p ∈ cs, InP p) (i : Nat) : InP (nextC cs i) := inP_getD h _
theorem areaT_bd {cs : List Pt} (h : ∀ p ∈ cs, InP p) (i : Nat) : -1000000 ≤ areaT cs i ∧ areaT cs i ≤ 1000000 := by
  obtain ⟨a1, a2, a3, a4⟩ := corner_inP h i
  obtain ⟨b1, b2, b3, b4⟩ := nextC_inP h i
  unfold areaT
  have m1 : 0 ≤ (corner cs i).1 * (nextC cs i).2 := Int.mul_nonneg a1 b3
  have m2 : 0 ≤ (nextC cs i).1 * (corner cs i).2 := Int.mul_nonneg b1 a3
  have m3 := mul_bd (a := (corner cs i).1) (b := (nextC cs i).2) (A := 1000) (B := 1000) (by omega) (by omega) (by omega) (by omega)
  have m4 := mul_bd (a := (nextC cs i).1) (b := (corner cs i).2) (A := 1000) (B := 1000) (by omega) (by omega) (by omega) (by omega)
  omega
theorem areaS_bd {cs : List Pt} (h : ∀ p ∈ cs, InP p) (l : List (Fin cs.length)) : -(l.length * 1000000 : Int) ≤ areaS cs l ∧ areaS cs l ≤ l.length * 1000000 := by
  induction l with
  | nil => simp [areaS]
  | cons x l ih =>
    have := areaT_bd h x.val
    have e : areaS cs (x :: l) = areaT cs x.val + areaS cs l := by simp [areaS]
    rw [e]
    simp only [List.length_cons]
    constructor <;> push_cast <;> omega
def areaAll (cs : List Pt) : Int := areaS cs (allFin cs.length)
set_option maxRecDepth 100000 in
set_option maxHeartbeats 4000000 in
theorem AreaOf_ok (b off cap : Nat) (cs : List Pt) (w : World) (hlen : cs.length ≤ 1000) (hr : Rd w 2 (some ⟨b, off, none⟩) cs.length (enc2 cs)) (h0 : 0 < cs.length) (hP : ∀ p ∈ cs, InP p)
    (hpe : ∀ W, Rd W 2 (some ⟨b, off, none⟩) cs.length (enc2 cs) → Calls Try.prog 99 #[.agg #[.slice (some ⟨b, off, none⟩) cs.length cap]] W (Ret W (.int .i64 (0)))) :
    Calls Try.prog 27 #[.agg #[.slice (some ⟨b, off, none⟩) cs.length cap]] w (Ret w (.tuple #[(.int .i64 (mx (areaAll cs) (-(areaAll cs)))), (.int .i64 (0))])) := by
  have HPE := Lib.hid hpe
  clear hpe
  have hbl : b < w.heap.size := by
    obtain ⟨b', off', e, hb, _⟩ := hr.2 h0
    cases e; exact hb
  have HR := Lib.hid hr
  clear hr
  refine (callsIn_wide (n := 9)).1 (callsIn_of_wp_marks Try.func27 rfl trivial ?_ rfl)
  simp only [Try.ntmps27, List.size_toArray, List.length_cons, List.length_nil, Nat.reduceAdd, Nat.reduceSub, Array.replicate_succ, Array.replicate_zero, List.push_toArray, List.append_toArray, List.nil_append, List.cons_append]
  refine wpIn_wide.2 ?_
  go_wp2_with fail
  refine (HPE.out _ (HR.out.below rfl ((Below.refl _ w).alloc (Nat.le_refl _) _))).mono ?_
  rintro e w1 ⟨rfl, hb1⟩
  obtain ⟨hcc, hff⟩ := bcell hb1
  have hz1 := lt_alloc_below hb1
  have HB1 := Lib.hid (((Below.refl _ w).alloc (Nat.le_refl _) (.cells #[.slice (some ⟨b, off, none⟩) cs.length cap] 41)).trans (hb1.mono (by simp)))
  go_wp2_with fail
  refine (sides_any _ _ ⟨_, _, _, rfl⟩).mono ?_
  rintro e w2 ⟨rfl, rfl⟩
  go_wp2_with fail
  clear hcc hff hb1
  have HO := Lib.hid ((OneC.new w1 3 (.int .i64 (0))).alloc (.cells #[.slice (some ⟨b, off, none⟩) cs.length cap] 41))
  refine (wpIn_wide (n := 9)).1 ?_
  refine wpIn_gen fun a0 ha0 => ?_
  refine range_out (m := 0) (gf := 147) (lb := #[.pointer (some ⟨w1.heap.size + 1, 0, none⟩)]) (by rw [ha0]; rfl) (enters_of Try.func147 (by kernel_rfl) rfl) (encs := sideV cs)
    (sides_stops (w1.heap.size + 1) b off cap (fun k => k < w1.heap.size ∨ k = w1.heap.size + 1) cs hlen _ (.inr rfl) (.inl (by omega)) (by intro k hk; simp; omega) ?hbox ?hrd) (Below.refl _ _) (by intro k hk; simp; omega) (fun _ => rfl)
    (fun pre W => OneC W w1.heap.size 3 (.int .i64 (areaS cs pre)) ∧ Below w1.heap.size w1 W) (fun _ _ _ => False) (fun pre => Stable.one.and (Stable.below (by simp; omega) (Nat.le_refl _))) (fun _ _ => Stable.pure _) ?h0
    (fun x bx W => w1.heap.size + 1 < bx ∧ Box4 W bx (corner cs x.val) (nextC cs x.val)) (fun x bx => [(15, (.int .i64 ((x.val : Int)))), (16, (.agg #[.int .i64 ((corner cs x.val).1), .int .i64 ((corner cs x.val).2), .int .i64 ((nextC cs x.val).1), .int .i64 ((nextC cs x.val).2)])), (7, .pointer (some ⟨bx, 0, none⟩))]) (fun x bx => (Stable.pure _).and Stable.box4) ?assign ?body ?done ?stop
  case assign =>
    intro l pre x W K hi hsz hK
    subst ha0
    unfold sideV
    gi_wp2
    simp only [World.size_alloc] at hsz
    exact hK W.heap.size _ (Kept.alloc W (by intro k hk; omega) _) ⟨hi.1.alloc _, hi.2.alloc (by omega) _⟩ ⟨by omega, Box4.new _ _ _ _⟩
  case hbox => simp
  case hrd => exact (((HR.out.below rfl HB1.out).below rfl ((Below.refl _ _).alloc (Nat.le_refl _) _)).below rfl ((Below.refl _ _).alloc (Nat.le_refl _) _))
  case h0 => exact ⟨HO.out, ((Below.refl _ _).alloc (Nat.le_refl _) _).alloc (by simp) _⟩
  case stop => intro D c pre W _ _ h; exact h.elim
  case body =>
    intro l pre x bx W hl hrec hi hsz hra hN
    obtain ⟨hi1, hi2⟩ := hi
    obtain ⟨hbx, ⟨q0, q1, q2, q3⟩⟩ := hra
    subst ha0
    simp only [setAll, List.foldl_cons, List.foldl_nil, List.setIfInBounds_toArray, List.set_cons_zero, List.set_cons_succ]
    obtain ⟨p1, p2, p3, p4⟩ := corner_inP hP x.val
    obtain ⟨p5, p6, p7, p8⟩ := nextC_inP hP x.val
    have bs := areaS_bd hP pre
    have HT := Lib.hid (show areaS cs (pre ++ [x]) = areaS cs pre + ((corner cs x.val).1 * (nextC cs x.val).2 - (nextC cs x.val).1 * (corner cs x.val).2) from areaS_snoc cs pre x)
    have hs0 := hi1.cell
    have hf0 := hi1.frozen
    have HI1 := Lib.hid hi1
    clear hi1 hP
    generalize corner cs x.val = s at *
    generalize nextC cs x.val = t at *
    generalize areaS cs pre = ar at *
    obtain ⟨a, b'⟩ := s
    obtain ⟨c, d⟩ := t
    dsimp only at *
    have m1 := mul_bd (a := a) (b := d) (A := 1000) (B := 1000) (by omega) (by omega) (by omega) (by omega)
    have m2 := mul_bd (a := c) (b := b') (A := 1000) (B := 1000) (by omega) (by omega) (by omega) (by omega)
    obtain ⟨m11, m12⟩ := m1
    obtain ⟨m21, m22⟩ := m2
    obtain ⟨bs1, bs2⟩ := bs
    gi_wp2
    exact ⟨Kept.setCell W (p := ⟨w1.heap.size, 0, none⟩) (by simp) _, by rw [HT.out]; exact HI1.out.set _, hi2.setCell (p := ⟨w1.heap.size, 0, none⟩) (Nat.le_refl _) _⟩
  case done =>
    intro D xs W hD hxs hi hk
    obtain ⟨hi1, hi2⟩ := hi
    subst hxs
    subst ha0
    have hs0 := hi1.cell
    have bs := areaS_bd hP (allFin cs.length)
    have HA := Lib.hid (show areaAll cs = areaS cs (allFin cs.length) from rfl)
    simp only [allFin, List.length_finRange] at bs
    unfold allFin at hs0 hi1 HA
    obtain ⟨bs1, bs2⟩ := bs
    generalize areaS cs (List.finRange cs.length) = ar at *
    have hmx := run_mx
    have HI2 := Lib.hid hi2
    clear hi1 hi2 hP
    go_wp2
    simp only [World.size_alloc] at hD
    refine ret_marks (B := w.heap.size) ⟨⟨D, rfl, by omega, hk, by simp⟩, trivial⟩ (fun W' hck => ⟨results_tmp2 rfl _ _ _, ?_⟩)
    exact ⟨by rw [HA.out]; rfl, (HB1.out.trans (HI2.out.mono (by omega))).trans (hck.below (by have := HI2.out.size; omega))⟩
end Go.Proofs.Ytgjpdjihjphbdaa

/- 'CheckPolygon': the index of a corner, and the error of a polygon. -/
namespace Go.Proofs.Ytgjpdjihjphbdaa
open Go.RowKit
attribute [local go_sem] Oper.semAt_some
def shapeE (n : Nat) : Int := firstE [unl (decide ((3 : Int) ≤ n)) 10, unl (decide ((n : Int) ≤ 12)) 8]
def posE (p : Pt) : Int := unl (inB p.1 0 1000 && inB p.2 0 1000) 2
def badS (cs : List Pt) (i : Nat) : Bool :=
  (corner cs i == nextC cs i) || (List.range cs.length).any fun k => decide (i < k) && clashS i (corner cs i) (nextC cs i) k (corner cs k) (nextC cs k) cs.length
def polyCheck (cs : List Pt) : Int × Int :=
  if shapeE cs.length ≠ 0 then (0, shapeE cs.length) else
  match (List.range cs.length).find? (fun i => posE (corner cs i) != 0) with
  | some i => ((i : Int), posE (corner cs i))
  | none => match (List.range cs.length).find? (badS cs) with
    | some i => ((i : Int), 13)
    | none => (0, 0)
theorem posE_inP {p : Pt} (h : posE p = 0) : InP p := by
  unfold posE unl at h
  cases h1 : (inB p.1 0 1000 && inB p.2 0 1000)
  · rw [h1] at h; simp at h
  · simp only [Bool.and_eq_true, inB_iff] at h1
    unfold InP; omega
structure CPst (w : World) (v : Value) (n : Int) (i e : Int) (W : World) : Prop where
  p : OneC W w.heap.size 41 v
  r1 : OneC W (w.heap.size + 1) 3 (.int .i64 (i))
  r2 : OneC W (w.heap.size + 1 + 1) 27 (.int .i64 (e))
  n : OneC W (w.heap.size + 1 + 1 + 1) 3 (.int .i64 (n))
  below : Below w.heap.size w W
theorem CPst.later {w W W' : World} {v : Value} {n i e : Int} (h : CPst w v n i e W) (hb : Below W.heap.size W W') : CPst w v n i e W' := ⟨h.p.below hb, h.r1.below hb, h.r2.below hb, h.n.below hb, h.below.trans (hb.mono h.below.size)⟩
theorem CPst.set {w W : World} {v : Value} {n i e : Int} (h : CPst w v n i e W) (i' e' : Int) : CPst w v n i' e' ((W.setCell ⟨w.heap.size + 1, 0, none⟩ (.int .i64 (i'))).setCell ⟨w.heap.size + 1 + 1, 0, none⟩ (.int .i64 (e'))) :=
  ⟨(h.p.other (fun x => by simp at x) _).other (fun x => by dsimp only at x; omega) _, (h.r1.set _).other (fun x => by dsimp only at x; omega) _, (h.r2.other (fun x => by dsimp only at x; omega) _).set _, (h.n.other (fun x => by dsimp only at x; omega) _).other (fun x => by dsimp only at x; omega) _, (h.below.setCell (p := ⟨w.heap.size + 1, 0, none⟩) (by simp) _).setCell (p := ⟨w.heap.size + 1 + 1, 0, none⟩) (by dsimp only; omega) _⟩
theorem Stable.cpst {B : Nat} {w : World} {v : Value} {n i e : Int} (hB : w.heap.size ≤ B) : Stable B (fun W => CPst w v n i e W) := fun W W' h hk => ⟨Stable.one W W' h.p hk, Stable.one W W' h.r1 hk, Stable.one W W' h.r2 hk, Stable.one W W' h.n hk, Stable.below hB (Nat.le_refl _) W W' h.below hk⟩
theorem CPst.start (w : World) (v : Value) (n : Int) : CPst w v n 0 0 ((((w.alloc (.cells #[v] 41)).alloc (.cells #[(.int .i64 (0))] 3)).alloc (.cells #[(.int .i64 (0))] 27)).alloc (.cells #[(.int .i64 (n))] 3)) := by
  refine ⟨(((OneC.new w _ v).alloc _).alloc _).alloc _, ?_, ?_, ?_, ((((Below.refl _ w).alloc (Nat.le_refl _) _).alloc (by simp) _).alloc (by simp; omega) _).alloc (by simp; omega) _⟩
  · have := OneC.new (w.alloc (.cells #[v] 41)) 3 (.int .i64 (0))
    rw [World.size_alloc] at this
    exact (this.alloc _).alloc _
  · have := OneC.new ((w.alloc (.cells #[v] 41)).alloc (.cells #[(.int .i64 (0))] 3)) 27 (.int .i64 (0))
    rw [World.size_alloc, World.size_alloc] at this
    exact this.alloc _
  · have := OneC.new (((w.alloc (.cells #[v] 41)).alloc (.cells #[(.int .i64 (0))] 3)).alloc (.cells #[(.int .i64 (0))] 27)) 3 (.int .i64 (n))
    rw [World.size_alloc, World.size_alloc, World.size_alloc] at this
    exact this
theorem cp_results {w W : World} {v : Value} {n i e : Int} (h : CPst w v n i e W) {tmps : Array Value} (h1 : tmps[2]?.getD undef = .pointer (some ⟨w.heap.size + 1, 0, none⟩)) (h2 : tmps[3]?.getD undef = .pointer (some ⟨w.heap.size + 1 + 1, 0, none⟩)) :
    (results Try.f25 tmps).run Try.prog W = .ok (.tuple #[(.int .i64 (i)), (.int .i64 (e))]) W := by
  have c1 := h.r1.cell
  have c2 := h.r2.cell
  simp [results, Try.results25, go_sem, h1, h2, c1, c2]
set_option maxRecDepth 100000 in
set_option maxHeartbeats 4000000 in
theorem CheckPolygon_shape (A : Option Addr) (n cap : Nat) (w : World) (he : shapeE n ≠ 0) :
    Calls Try.prog 25 #[.agg #[.slice A n cap]] w (Ret w (.tuple #[(.int .i64 (0)), (.int .i64 (shapeE n))])) := by
  have HE : (shapeE n != 0) = true := by simpa using he
  clear he
  refine (callsIn_wide (n := 9)).1 (callsIn_of_wp_marks Try.func25 rfl trivial ?_ rfl)
  simp only [Try.ntmps25, List.size_toArray, List.length_cons, List.length_nil, Nat.reduceAdd, Nat.reduceSub, Array.replicate_succ, Array.replicate_zero, List.push_toArray, List.append_toArray, List.nil_append, List.cons_append]
  refine wpIn_wide.2 ?_
  go_upto_region 2 with fail
  have HC := Lib.hid (CPst.start w (.slice A n cap) n)
  go_cut [5] from 16 to 23 (fun r wx => r = (.int .i64 (shapeE n)) ∧ CPst w (.slice A n cap) n 0 0 wx)
  case first =>
    have HS := Lib.hid (show shapeE n = firstE [unl (decide ((3 : Int) ≤ n)) 10, unl (decide ((n : Int) ≤ 12)) 8] from rfl)
    refine wp_region_calm_tail 6 (by kernel_rfl) (by kernel_rfl) ?_
    simp only [List.take_succ_cons, List.take_zero, List.drop_succ_cons, List.drop_zero]
    repeat (go_big_quiet_step ((go_at_call 93; exact After.same (unless_any _ _ _))))
    refine wpQuiet_nil ?_
    intro w1 hb1
    go_wp2_with (go_at_call 92; refine (first2_new _ _ _ _).mono ?_; rintro e w' ⟨rfl, rfl⟩)
    go_meet
    exact ⟨ret_num HS.out.symm, (HC.out.later hb1).later ((Below.refl _ _).alloc (Nat.le_refl _) _)⟩
  case rest =>
    obtain ⟨rfl, hcp⟩ := hcut
    have c1 := hcp.r1.cell
    have c2 := hcp.r2.cell
    have f1 := hcp.r1.frozen
    have f2 := hcp.r2.frozen
    have HC2 := Lib.hid hcp
    clear hcp
    go_wp2
    refine ret_marks (v := .tuple #[(.int .i64 (0)), (.int .i64 (shapeE n))]) (B := w.heap.size) trivial (fun W' hck => ?_)
    have hc' := Stable.cpst (Nat.le_refl _) _ _ (HC2.out.set 0 (shapeE n)) hck
    exact ⟨cp_results hc' rfl rfl, rfl, hc'.below⟩
theorem shapeE_zero {n : Nat} (h : shapeE n = 0) : 3 ≤ n ∧ n ≤ 12 := by
  unfold shapeE unl at h
  by_cases h1 : 3 ≤ n
  · by_cases h2 : n ≤ 12
    · exact ⟨h1, h2⟩
    · have e1 : decide ((3 : Int) ≤ n) = true := by simp; omega
      have e2 : decide ((n : Int) ≤ 12) = false := by simp; omega
      rw [e1, e2] at h; simp [firstE] at h
  · have e1 : decide ((3 : Int) ≤ n) = false := by simp; omega
    rw [e1] at h; simp [firstE] at h
theorem find_range_none {n : Nat} {p : Nat → Bool} (h : ∀ i, i < n → p i = false) : (List.range n).find? p = none := by
  rw [List.find?_eq_none]
  intro i hi
  simp [h i (List.mem_range.1 hi)]
theorem find_range_some {n : Nat} {p : Nat → Bool} {k : Nat} (hk : k < n) (h : ∀ i, i < k → p i = false) (hp : p k = true) : (List.range n).find? p = some k := by
  rw [List.find?_range_eq_some]
  exact ⟨hp, List.mem_range.2 hk, fun j hj => by simp [h j hj]⟩
theorem polyCheck_pos {cs : List Pt} (h0 : shapeE cs.length = 0) {k : Nat} (hk : k < cs.length) (h : ∀ j, j < k → posE (corner cs j) = 0) (hp : posE (corner cs k) ≠ 0) : polyCheck cs = ((k : Int), posE (corner cs k)) := by
  unfold polyCheck
  rw [if_neg (by simp [h0]), find_range_some (k := k) hk (fun i hi => by simp [h i hi]) (by simpa using hp)]
theorem polyCheck_side {cs : List Pt} (h0 : shapeE cs.length = 0) (h1 : ∀ j, j < cs.length → posE (corner cs j) = 0) {k : Nat} (hk : k < cs.length) (h : ∀ j, j < k → badS cs j = false) (hp : badS cs k = true) : polyCheck cs = ((k : Int), 13) := by
  unfold polyCheck
  rw [if_neg (by simp [h0]), find_range_none (fun i hi => by simp [h1 i hi])]
  simp only
  rw [find_range_some (k := k) hk h hp]
theorem polyCheck_ok {cs : List Pt} (h0 : shapeE cs.length = 0) (h1 : ∀ j, j < cs.length → posE (corner cs j) = 0) (h : ∀ j, j < cs.length → badS cs j = false) : polyCheck cs = (0, 0) := by
  unfold polyCheck
  rw [if_neg (by simp [h0]), find_range_none (fun i hi => by simp [h1 i hi])]
  simp only
  rw [find_range_none h]
theorem Stable.kept {S : Nat → Prop} {B B2 : Nat} {W : World} (hW : W.heap.size ≤ B2) (hS : ∀ k, S k → k < W.heap.size) : Stable B2 (fun W' => Kept S B W W') := fun _ _ h hk =>
  ⟨⟨Nat.le_trans h.keeps.size hk.size, fun k o hB ho hc => (hk.low k (Nat.lt_of_lt_of_le (Array.getElem?_eq_some_iff.1 ho).1 hW) (Nat.lt_of_lt_of_le (Array.getElem?_eq_some_iff.1 ho).1 h.keeps.size)).trans (h.keeps.same k o hB ho hc)⟩,
    hk.os.trans h.same.os, hk.tape.trans h.same.tape, hk.output.trans h.same.output, Nat.le_trans h.same.size hk.size, fun k hs => (hk.low k (Nat.lt_of_lt_of_le (hS k hs) hW) (Nat.lt_of_lt_of_le (hS k hs) h.same.size)).trans (h.same.block k hs)⟩
theorem Stable.keepsFrom {B B2 : Nat} {W : World} (hW : W.heap.size ≤ B2) : Stable B2 (fun W' => KeepsFrom B W W') := fun _ _ h hk =>
  ⟨Nat.le_trans h.size hk.size, fun k o hB ho hc => (hk.low k (Nat.lt_of_lt_of_le (Array.getElem?_eq_some_iff.1 ho).1 hW) (Nat.lt_of_lt_of_le (Array.getElem?_eq_some_iff.1 ho).1 h.size)).trans (h.same k o hB ho hc)⟩
def clashB (cs : List Pt) (i k : Nat) : Bool := decide (i < k) && clashS i (corner cs i) (nextC cs i) k (corner cs k) (nextC cs k) cs.length
theorem badS_eq (cs : List Pt) (i : Nat) : badS cs i = ((corner cs i == nextC cs i) || (List.range cs.length).any (clashB cs i)) := rfl
theorem badS_clash {cs : List Pt} {i k : Nat} (hk : k < cs.length) (h : clashB cs i k = true) : badS cs i = true := by
  rw [badS_eq]; simp only [Bool.or_eq_true, List.any_eq_true]
  exact .inr ⟨k, List.mem_range.2 hk, h⟩
theorem badS_not {cs : List Pt} {i : Nat} (h : corner cs i ≠ nextC cs i) (h2 : ∀ k, k < cs.length → clashB cs i k = false) : badS cs i = false := by
  rw [badS_eq]
  have h3 : (List.range cs.length).any (clashB cs i) = false := by
    rw [List.any_eq_false]; intro k hk; simp [h2 k (List.mem_range.1 hk)]
  rw [h3]; simpa using h
theorem inP_all {cs : List Pt} (h : ∀ j, j < cs.length → posE (corner cs j) = 0) : ∀ p ∈ cs, InP p := by
  intro p hp
  obtain ⟨j, hj, rfl⟩ := List.mem_iff_getElem.1 hp
  have := posE_inP (h j hj)
  simpa [corner, hj] using this
theorem pre_small {n : Nat} {pre : List (Fin n)} {x : Fin n} (h : pre ++ [x] <+: allFin n) (j : Nat) (hj : j < x.val) : (⟨j, Nat.lt_trans hj x.isLt⟩ : Fin n) ∈ pre := by
  obtain ⟨t, ht⟩ := h
  have hl : pre.length < (allFin n).length := by rw [← ht]; simp
  have hx : (allFin n)[pre.length]'hl = x := by simp [← ht]
  have hv : x.val = pre.length := by rw [← hx]; simp [allFin]
  have hj' : (allFin n)[j]'(by omega) = pre[j]'(by omega) := by simp [← ht, List.getElem_append_left (show j < pre.length by omega)]
  have : pre[j]'(by omega) = ⟨j, Nat.lt_trans hj x.isLt⟩ := by rw [← hj']; apply Fin.ext; simp [allFin]
  rw [← this]
  exact List.getElem_mem _
end Go.Proofs.Ytgjpdjihjphbdaa

/- 'CheckPolygon' on a polygon of a good size. -/
namespace Go.Proofs.Ytgjpdjihjphbdaa
open Go.RowKit
attribute [local go_sem] Oper.semAt_some
set_option maxRecDepth 100000 in
set_option maxHeartbeats 4000000 in
theorem CheckPolygon_ok (b off cap : Nat) (cs : List Pt) (w : World) (hr : Rd w 2 (some ⟨b, off, none⟩) cs.length (enc2 cs)) (he : shapeE cs.length = 0) :
    Calls Try.prog 25 #[.agg #[.slice (some ⟨b, off, none⟩) cs.length cap]] w (Ret w (.tuple #[(.int .i64 ((polyCheck cs).1)), (.int .i64 ((polyCheck cs).2))])) := by
  have HE : (shapeE cs.length != 0) = false := by simp [he]
  have HEE := Lib.hid he
  obtain ⟨n1, n2⟩ := shapeE_zero he
  clear he
  refine (callsIn_wide (n := 9)).1 (callsIn_of_wp_marks Try.func25 rfl trivial ?_ rfl)
  simp only [Try.ntmps25, List.size_toArray, List.length_cons, List.length_nil, Nat.reduceAdd, Nat.reduceSub, Array.replicate_succ, Array.replicate_zero, List.push_toArray, List.append_toArray, List.nil_append, List.cons_append]
  refine wpIn_wide.2 ?_
  go_upto_region 2 with fail
  have HC := Lib.hid (CPst.start w (.slice (some ⟨b, off, none⟩) cs.length cap) cs.length)
  go_cut [5] from 16 to 23 (fun r wx => r = (.int .i64 (shapeE cs.length)) ∧ CPst w (.slice (some ⟨b, off, none⟩) cs.length cap) cs.length 0 0 wx)
  case first =>
    have HS := Lib.hid (show shapeE cs.length = firstE [unl (decide ((3 : Int) ≤ cs.length)) 10, unl (decide ((cs.length : Int) ≤ 12)) 8] from rfl)
    clear HE
    have d1 : (3 : Int) ≤ cs.length := by omega
    have d2 : (cs.length : Int) ≤ 12 := by omega
    refine wp_region_calm_tail 6 (by kernel_rfl) (by kernel_rfl) ?_
    simp only [List.take_succ_cons, List.take_zero, List.drop_succ_cons, List.drop_zero]
    repeat (go_big_quiet_step ((go_at_call 93; exact After.same (unless_any _ _ _))))
    refine wpQuiet_nil ?_
    intro w1 hb1
    go_wp2_with (go_at_call 92; refine (first2_new _ _ _ _).mono ?_; rintro e w' ⟨rfl, rfl⟩)
    go_meet
    exact ⟨ret_num (by rw [HS.out]; simp [d1, d2]), (HC.out.later hb1).later ((Below.refl _ _).alloc (Nat.le_refl _) _)⟩
  case rest =>
    obtain ⟨rfl, hcp⟩ := hcut
    have c0 := hcp.p.cell
    have HCP := Lib.hid hcp
    clear hcp HC
    go_wp2
    go_loopw [6, 7, 8, 30] (fun _ _ _ i wr => ∃ k : Nat, k ≤ cs.length ∧ i = (.int .i64 ((k : Int))) ∧ (∀ j, j < k → posE (corner cs j) = 0) ∧ CPst w (.slice (some ⟨b, off, none⟩) cs.length cap) cs.length 0 0 wr) (fun _ _ _ i _ => cs.length - (intOf i).toNat)
    case atStart => exact ⟨0, Nat.zero_le _, rfl, fun j hj => absurd hj (by omega), HCP.out⟩
    case round =>
      obtain ⟨k, hk, rfl, hg, hcp⟩ := hrel
      have HG := Lib.hid hg
      clear hg HCP c0
      by_cases hlt : k < cs.length
      · obtain ⟨b1, o1, e1, z1, c1, c2⟩ := (hr.below rfl hcp.below).at2 k hlt
        cases e1
        have HC1 := Lib.hid (show cs[k] = corner cs k by simp [corner, hlt])
        rw [HC1.out] at c1 c2
        have hpe := Lib.hid (fun W => positionErr_any (corner cs k) W)
        rw [show unl (inB (corner cs k).1 0 1000 && inB (corner cs k).2 0 1000) 2 = posE (corner cs k) from rfl] at hpe
        have HP := Lib.hid (show corner cs k = corner cs k from rfl)
        obtain ⟨pe, hpe'⟩ : ∃ pe, pe = posE (corner cs k) := ⟨_, rfl⟩
        rw [← hpe'] at hpe
        have HPE := Lib.hid hpe'
        clear hpe' HP HC1
        obtain ⟨xy, hxy⟩ : ∃ xy, xy = corner cs k := ⟨_, rfl⟩
        rw [← hxy] at c1 c2 hpe
        have HXY := Lib.hid hxy
        clear hxy
        obtain ⟨x, y⟩ := xy
        dsimp only at c1 c2 hpe
        have HCP := Lib.hid hcp
        clear hcp hr
        by_cases hz : pe = 0
        · subst hz
          go_wp2_with ((go_at_call 96; (with_reducible refine (hpe.out _).mono ?_); rintro e w1 ⟨rfl, hb1⟩))
          go_roundw
          case rel =>
            refine ⟨k + 1, by omega, by go_num, fun j hj => ?_, (HCP.out.later ((Below.refl _ _).alloc (Nat.le_refl _) _)).later hb1⟩
            rcases Nat.lt_succ_iff_lt_or_eq.1 hj with h | h
            · exact HG.out j h
            · rw [h]; exact HPE.out.symm
          case measure => simp [intOf]; omega
        · have hz' : (pe != 0) = true := by simpa using hz
          have HZ := Lib.hid hz
          clear hz
          have hcp2 := Lib.hid (fun (w1 : World) (h : Below (wr.alloc (.cells #[(.int .i64 (x)), (.int .i64 (y))] 43)).heap.size (wr.alloc (.cells #[(.int .i64 (x)), (.int .i64 (y))] 43)) w1) => (HCP.out.later ((Below.refl _ _).alloc (Nat.le_refl _) (.cells #[(.int .i64 (x)), (.int .i64 (y))] 43))).later h)
          go_wp2_with ((go_at_call 96; (with_reducible refine (hpe.out _).mono ?_); rintro e w1 ⟨rfl, hb1⟩; have hcp3 := hcp2.out w1 hb1; have r1 := hcp3.r1.cell; have r2 := hcp3.r2.cell; have f1 := hcp3.r1.frozen; have f2 := hcp3.r2.frozen; have HCP3 := Lib.hid hcp3; clear hcp3))
          refine ret_marks (v := .tuple #[(.int .i64 ((k : Int))), (.int .i64 (pe))]) (B := w.heap.size) trivial (fun W' hck => ?_)
          have hc' := Stable.cpst (Nat.le_refl _) _ _ (HCP3.out.set k pe) hck
          refine ⟨cp_results hc' rfl rfl, ?_, hc'.below⟩
          rw [polyCheck_pos HEE.out hlt HG.out (by rw [← HPE.out]; exact HZ.out), ← HPE.out]
      · obtain rfl : k = cs.length := by omega
        have hrW := Lib.hid (hr.below rfl hcp.below)
        have HR := Lib.hid hr
        have hbw : b < w.heap.size := by
          obtain ⟨b', off', e', hb, _⟩ := hr.2 (by omega)
          cases e'; exact hb
        have hbl : b < wr.heap.size := by
          obtain ⟨b', off', e', hb, _⟩ := hr.2 (by omega)
          cases e'; exact Nat.lt_of_lt_of_le hb hcp.below.size
        have hc0 := hcp.p.cell
        have zP := hcp.p.lt
        have HCP := Lib.hid hcp
        clear hr hcp hk hlt
        go_wp2_with fail
        refine (sides_any _ _ ⟨_, _, _, rfl⟩).mono ?_
        rintro e w2 ⟨rfl, rfl⟩
        go_wp2_with fail
        have HC2 := Lib.hid (HCP.out.later ((Below.refl _ _).alloc (Nat.le_refl _) (.cells #[.slice (some ⟨b, off, none⟩) cs.length cap] 41)))
        refine (wpIn_wide (n := 9)).1 ?_
        refine wpIn_gen fun a0 ha0 => ?_
        refine range_out (m := 0) (gf := 147) (lb := #[.pointer (some ⟨wr.heap.size, 0, none⟩)]) (by rw [ha0]; rfl) (enters_of Try.func147 (by kernel_rfl) rfl) (encs := sideV cs)
          (sides_stops wr.heap.size b off cap (fun k => k < wr.heap.size + 1) cs (by omega) _ (show wr.heap.size < wr.heap.size + 1 by omega) (show b < wr.heap.size + 1 by omega) (by intro k hk; simp; omega) ?hbox ?hrd) (Below.refl _ _) (by intro k hk; simp; omega) (fun _ => rfl)
          (fun pre W => (∀ y ∈ pre, badS cs y.val = false) ∧ CPst w (.slice (some ⟨b, off, none⟩) cs.length cap) cs.length 0 0 W ∧ wr.heap.size < W.heap.size)
          (fun c pre W => c = .ret ∧ ∃ (pre0 : List (Fin cs.length)) (x : Fin cs.length), pre = pre0 ++ [x] ∧ (∀ y ∈ pre0, badS cs y.val = false) ∧ badS cs x.val = true ∧ CPst w (.slice (some ⟨b, off, none⟩) cs.length cap) cs.length x.val 13 W)
          (fun pre => (Stable.pure _).and ((Stable.cpst (by simp; have := HC2.out.below.size; simp at this; omega)).and Stable.lt))
          (fun c pre => (Stable.pure _).and (Stable.ex fun pre0 => Stable.ex fun x => (Stable.pure _).and ((Stable.pure _).and ((Stable.pure _).and (Stable.cpst (by simp; have := HC2.out.below.size; simp at this; omega)))))) ?h0
          (fun x (bx : Nat × Nat) W => wr.heap.size < bx.1 ∧ wr.heap.size < bx.2 ∧ OneC W bx.1 3 (.int .i64 ((x.val : Int))) ∧ Box4 W bx.2 (corner cs x.val) (nextC cs x.val))
          (fun x bx => [(44, (.int .i64 ((x.val : Int)))), (45, (.agg #[.int .i64 ((corner cs x.val).1), .int .i64 ((corner cs x.val).2), .int .i64 ((nextC cs x.val).1), .int .i64 ((nextC cs x.val).2)])), (9, .pointer (some ⟨bx.1, 0, none⟩)), (10, .pointer (some ⟨bx.2, 0, none⟩))])
          (fun x bx => (Stable.pure _).and ((Stable.pure _).and (Stable.one.and Stable.box4))) ?assign ?body ?done ?stop
        case hbox => simp
        case hrd => exact hrW.out.below rfl ((Below.refl _ _).alloc (Nat.le_refl _) _)
        case h0 => exact ⟨by simp, HC2.out, by simp⟩
        case assign =>
          intro l pre x W K hi hsz hK
          obtain ⟨hi1, hi2, hi3⟩ := hi
          have HI2 := Lib.hid hi2
          clear hi2
          subst ha0
          unfold sideV
          gi_wp2
          simp only [World.size_alloc] at hsz
          refine hK (W.heap.size, W.heap.size + 1) _ ((Kept.alloc W (by intro k hk; omega) _).trans (Kept.alloc _ (by intro k hk; simp; omega) _)) ⟨hi1, (HI2.out.later ((Below.refl _ _).alloc (Nat.le_refl _) _)).later ((Below.refl _ _).alloc (Nat.le_refl _) _), by simp; omega⟩ ⟨hi3, by dsimp only; omega, (OneC.new W _ _).alloc _, ?_⟩
          have := Box4.new (W.alloc (.cells #[(.int .i64 ((x.val : Int)))] 3)) (corner cs x.val) (nextC cs x.val) 150
          rw [World.size_alloc] at this
          exact this
        case body =>
          intro l pre x bx W hl hrec hi hsz hra hN
          obtain ⟨b1, b2⟩ := bx
          obtain ⟨hi1, hi2, hi3⟩ := hi
          obtain ⟨z1, z2, ho, hb4⟩ := hra
          dsimp only at z1 z2 ho hb4
          simp only [World.size_alloc] at hsz hl
          subst ha0
          simp only [setAll, List.foldl_cons, List.foldl_nil, List.setIfInBounds_toArray, List.set_cons_zero, List.set_cons_succ]
          have HI1 := Lib.hid hi1
          have HCP3 := Lib.hid hi2
          have hcx := ho.cell
          have hP := hi2.p.cell
          have r1 := hi2.r1.cell
          have r2 := hi2.r2.cell
          have f1 := hi2.r1.frozen
          have f2 := hi2.r2.frozen
          obtain ⟨q0, q1, q2, q3⟩ := hb4
          clear hi1 hi2
          obtain ⟨s, hs⟩ : ∃ s, s = corner cs x.val := ⟨_, rfl⟩
          obtain ⟨t, ht⟩ : ∃ t, t = nextC cs x.val := ⟨_, rfl⟩
          rw [← hs] at q0 q1
          rw [← ht] at q2 q3
          rw [← hs, ← ht]
          have HS := Lib.hid hs
          have HT := Lib.hid ht
          clear hs ht
          obtain ⟨xa, xb⟩ := s
          obtain ⟨xc, xd⟩ := t
          dsimp only at q0 q1 q2 q3 ⊢
          by_cases heq : xa = xc ∧ xb = xd
          · obtain ⟨rfl, rfl⟩ := heq
            gi_wp2_with fail
            refine ⟨((KeepsOthers.setCell W ⟨w.heap.size + 1, 0, none⟩ _).trans (KeepsOthers.setCell _ ⟨w.heap.size + 1 + 1, 0, none⟩ _)).from _, rfl, pre, x, rfl, HI1.out, ?_, HCP3.out.set x.val 13⟩
            rw [badS_eq, ← HS.out, ← HT.out]; simp
          · gi_wp2_with fail
            all_goals
              refine ⟨trivial, ?_⟩
              refine (calls_in _ _ (sides_any _ _ ⟨_, _, _, rfl⟩)).mono ?_
              rintro e w2 ⟨rfl, rfl⟩
              gi_wp2_with fail
              obtain ⟨WA, hWA⟩ : ∃ WA, WA = W.alloc (.cells #[.slice (some ⟨b, off, none⟩) cs.length cap] 41) := ⟨_, rfl⟩
              rw [← hWA]
              have hBA : Below W.heap.size W WA := by rw [hWA]; exact (Below.refl _ _).alloc (Nat.le_refl _) _
              have hzA : WA.heap.size = W.heap.size + 1 := by rw [hWA]; simp
              have hKA : Kept (fun k => k < wr.heap.size + 1) (wr.heap.size + 1) W WA := Kept.of_below hBA (by intro k hk; omega)
              have hCA := Lib.hid (HCP3.out.later hBA)
              have hzw := HCP3.out.below.size
              have hne : corner cs x.val ≠ nextC cs x.val := by rw [← HS.out, ← HT.out]; intro e; exact heq (by simpa using e)
              have HNE := Lib.hid hne
              have hoA := ho.below hBA
              have hpA : WA.cell? ⟨W.heap.size, 0, none⟩ = some (.slice (some ⟨b, off, none⟩) cs.length cap) := by rw [hWA]; simp
              have hrA := HR.out.below rfl hCA.out.below
              have HBox : Hid (Box4 WA b2 (corner cs x.val) (nextC cs x.val)) := Lib.hid ((show Box4 W b2 (corner cs x.val) (nextC cs x.val) by rw [← HS.out, ← HT.out]; exact ⟨q0, q1, q2, q3⟩).later hBA)
              have hrecA : ∃ r, WA.heap[l]? = some (.loop r) := by obtain ⟨r, hr⟩ := hrec; exact ⟨r, (hBA.block l (Array.getElem?_eq_some_iff.1 hr).1).trans hr⟩
              clear hne hWA hcx hP r1 r2 f1 f2 q0 q1 q2 q3 hrec
              refine wpIn_gen fun a1 ha1 => ?_
              refine range_in (m := 4) (l₀ := l) hrecA (gf := 147) (lb := #[.pointer (some ⟨W.heap.size, 0, none⟩)]) (by rw [ha1]; rfl) (enters_of Try.func147 (by kernel_rfl) rfl) (encs := sideV cs)
                (sides_stops W.heap.size b off cap (fun k => k < W.heap.size + 1) cs (by omega) WA (show W.heap.size < W.heap.size + 1 by omega) (show b < W.heap.size + 1 by omega) (by intro k hk; omega) hpA hrA) (Below.refl _ _) (by intro k hk; omega) (fun _ => rfl)
                (fun pre2 W2 => (∀ y ∈ pre2, clashB cs x.val y.val = false) ∧ CPst w (.slice (some ⟨b, off, none⟩) cs.length cap) cs.length 0 0 W2 ∧ OneC W2 b1 3 (.int .i64 ((x.val : Int))) ∧ Box4 W2 b2 (corner cs x.val) (nextC cs x.val) ∧ Kept (fun k => k < wr.heap.size + 1) (wr.heap.size + 1) W W2)
                (fun c pre2 W2 => c = .ret ∧ ∃ (pre0 : List (Fin cs.length)) (y : Fin cs.length), pre2 = pre0 ++ [y] ∧ clashB cs x.val y.val = true ∧ CPst w (.slice (some ⟨b, off, none⟩) cs.length cap) cs.length x.val 13 W2 ∧ KeepsFrom (wr.heap.size + 1) W W2)
                (fun pre2 => (Stable.pure _).and ((Stable.cpst (by omega)).and (Stable.one.and (Stable.box4.and (Stable.kept (by omega) (by intro k hk; omega))))))
                (fun c pre2 => (Stable.pure _).and (Stable.ex fun pre0 => Stable.ex fun y => (Stable.pure _).and ((Stable.pure _).and ((Stable.cpst (by omega)).and (Stable.keepsFrom (by omega)))))) ⟨by simp, hCA.out, hoA, HBox.out, hKA⟩
                (fun y (bx : Nat) W2 => Box4 W2 bx (corner cs y.val) (nextC cs y.val))
                (fun y bx => [(54, (.int .i64 ((y.val : Int)))), (55, (.agg #[.int .i64 ((corner cs y.val).1), .int .i64 ((corner cs y.val).2), .int .i64 ((nextC cs y.val).1), .int .i64 ((nextC cs y.val).2)])), (11, (.int .i64 ((y.val : Int)))), (12, .pointer (some ⟨bx, 0, none⟩))])
                (fun y bx => Stable.box4) ?assign2 ?body2 ?done2 ?stop2
              case assign2 =>
                intro l2 pre2 y W2 K hi hsz2 hK
                obtain ⟨i1, i2, i3, i4, i5⟩ := hi
                have HI2 := Lib.hid i2
                have HI5 := Lib.hid i5
                clear i2 i5
                subst ha1
                unfold sideV
                gi_wp2
                refine hK W2.heap.size _ (Kept.alloc W2 (by intro k hk; omega) _) ⟨i1, HI2.out.later ((Below.refl _ _).alloc (Nat.le_refl _) _), i3.alloc _, i4.alloc _, HI5.out.trans (Kept.alloc W2 (by intro k hk; omega) _)⟩ ?_
                exact Box4.new W2 (corner cs y.val) (nextC cs y.val) 150
              case body2 =>
                intro l2 pre2 y bx W2 hl2 hrec2 hi hsz2 hra2 hN2
                obtain ⟨i1, i2, i3, i4, i5⟩ := hi
                subst ha1
                simp only [setAll, List.foldl_cons, List.foldl_nil, List.setIfInBounds_toArray, List.set_cons_zero, List.set_cons_succ]
                have HI1' := Lib.hid i1
                have HCP4 := Lib.hid i2
                have HB4 := Lib.hid i4
                have HK5 := Lib.hid i5
                have hcx := i3.cell
                have hcn := i2.n.cell
                have r1 := i2.r1.cell
                have r2 := i2.r2.cell
                have f1 := i2.r1.frozen
                have f2 := i2.r2.frozen
                obtain ⟨q0, q1, q2, q3⟩ := i4
                obtain ⟨p0, p1, p2, p3⟩ := hra2
                have HO := Lib.hid i3
                clear i1 i2 i3 i5
                by_cases hxy : x.val < y.val
                · have hx1 := x.isLt
                  have hy1 := y.isLt
                  have hcl := Lib.hid (fun Z => clash_any x.val y.val cs.length (corner cs x.val) (nextC cs x.val) (corner cs y.val) (nextC cs y.val) Z (by omega) (by omega) (by omega) (corner_inP (inP_all HG.out) _) (nextC_inP (inP_all HG.out) _) (corner_inP (inP_all HG.out) _) (nextC_inP (inP_all HG.out) _))
                  have HCB := Lib.hid (show clashB cs x.val y.val = clashS x.val (corner cs x.val) (nextC cs x.val) y.val (corner cs y.val) (nextC cs y.val) cs.length by unfold clashB; simp [hxy])
                  obtain ⟨cl, hcl2⟩ : ∃ cl, cl = clashS x.val (corner cs x.val) (nextC cs x.val) y.val (corner cs y.val) (nextC cs y.val) cs.length := ⟨_, rfl⟩
                  rw [← hcl2] at hcl HCB
                  clear hcl2
                  gi_wp2_with fail
                  refine ⟨trivial, ?_⟩
                  refine (calls_in _ _ (hcl.out _)).mono ?_
                  rintro e w3 ⟨rfl, hb3⟩
                  have hcp3 := HCP4.out.later hb3
                  have r1' := hcp3.r1.cell
                  have r2' := hcp3.r2.cell
                  have f1' := hcp3.r1.frozen
                  have f2' := hcp3.r2.frozen
                  have hcx' := (HO.out.below hb3).cell
                  have HCP5 := Lib.hid hcp3
                  have HK6 := Lib.hid (HK5.out.trans (Kept.of_below hb3 (by intro k hk; omega)))
                  clear hcp3
                  cases cl
                  · gi_wp2_with fail
                    refine ⟨Kept.of_below hb3 (by intro k hk; omega), ?_, HCP5.out, HO.out.below hb3, HB4.out.later hb3, HK6.out⟩
                    intro z hz
                    rcases List.mem_append.1 hz with h | h
                    · exact HI1'.out z h
                    · rw [List.mem_singleton.1 h]; exact HCB.out
                  · gi_wp2_with fail
                    refine ⟨?_, rfl, pre2, y, rfl, HCB.out, HCP5.out.set x.val 13, ?_⟩
                    · exact (Kept.of_below (S := fun _ => False) hb3 (fun _ h => h.elim)).keeps.trans (((KeepsOthers.setCell w3 ⟨w.heap.size + 1, 0, none⟩ _).trans (KeepsOthers.setCell _ ⟨w.heap.size + 1 + 1, 0, none⟩ _)).from _)
                    · exact HK6.out.keeps.trans (((KeepsOthers.setCell w3 ⟨w.heap.size + 1, 0, none⟩ _).trans (KeepsOthers.setCell _ ⟨w.heap.size + 1 + 1, 0, none⟩ _)).from _)
                · have HCB := Lib.hid (show clashB cs x.val y.val = false by unfold clashB; simp [hxy])
                  gi_wp2_with fail
                  refine ⟨trivial, ?_⟩
                  gi_wp2_with fail
                  refine ⟨Kept.refl _ _ _, ?_, HCP4.out, HO.out, HB4.out, HK5.out⟩
                  intro z hz
                  rcases List.mem_append.1 hz with h | h
                  · exact HI1'.out z h
                  · rw [List.mem_singleton.1 h]; exact HCB.out
              case done2 =>
                intro xs W2 hS hi hsz2
                obtain ⟨i1, i2, i3, i4, i5⟩ := hi
                have HI1' := Lib.hid i1
                have HCP4 := Lib.hid i2
                have HK5 := Lib.hid i5
                clear i1 i2 i4 i5
                subst ha1
                gi_wp2_with fail
                refine ⟨by simpa only [World.size_alloc] using HK5.out, ?_, HCP4.out, by have := HK5.out.same.size; omega⟩
                intro z hz
                rcases List.mem_append.1 hz with h | h
                · exact HI1.out z h
                · rw [List.mem_singleton.1 h]
                  refine badS_not HNE.out fun k hk => ?_
                  have : xs = allFin cs.length := hS
                  subst this
                  exact HI1'.out ⟨k, hk⟩ (by simp [allFin])
              case stop2 =>
                intro c pre2 W2 hS hi
                obtain ⟨rfl, pre0, y, hp, hcl, hcp4, hk⟩ := hi
                have HCP4 := Lib.hid hcp4
                clear hcp4
                subst ha1
                gi_wp2_with fail
                exact ⟨by simpa only [World.size_alloc] using hk, rfl, pre, x, rfl, HI1.out, badS_clash y.isLt hcl, HCP4.out⟩
        case done =>
          intro D xs W hD hS hi hk
          obtain ⟨hi1, hi2, hi3⟩ := hi
          have HCP3 := Lib.hid hi2
          have r1 := hi2.r1.cell
          have r2 := hi2.r2.cell
          have f1 := hi2.r1.frozen
          have f2 := hi2.r2.frozen
          have HI1 := Lib.hid hi1
          clear hi1 hi2
          subst ha0
          go_wp2_with fail
          simp only [World.size_alloc] at hD
          refine ret_marks (v := .tuple #[(.int .i64 (0)), (.int .i64 (0))]) (B := w.heap.size) ⟨⟨D, rfl, by have := HCP.out.below.size; omega, ?hm, by simp⟩, trivial⟩ (fun W' hck => ?_)
          case hm =>
            have := HCP.out.below.size
            have := zP
            exact (Below.heap_setCell _ _ _ D (by dsimp only; have := HCP.out.n.lt; omega)).trans ((Below.heap_setCell _ _ _ D (by dsimp only; have := HCP.out.n.lt; omega)).trans hk)
          have hc' := Stable.cpst (Nat.le_refl _) _ _ (HCP3.out.set 0 0) hck
          refine ⟨cp_results hc' rfl rfl, ?_, hc'.below⟩
          have : xs = allFin cs.length := hS
          subst this
          rw [polyCheck_ok HEE.out HG.out fun j hj => HI1.out ⟨j, hj⟩ (by simp [allFin])]
        case stop =>
          intro D c pre W hD hS hi hk
          obtain ⟨rfl, pre0, x, hp, hg, hb, hcp⟩ := hi
          have HCP3 := Lib.hid hcp
          have HG2 := Lib.hid hg
          clear hcp hg
          subst ha0
          refine wpIn_wide.2 ?_
          go_wp2_with fail
          simp only [World.size_alloc] at hD
          refine ret_marks (v := .tuple #[(.int .i64 ((x.val : Int))), (.int .i64 (13))]) (B := w.heap.size) ⟨⟨D, rfl, by have := HCP.out.below.size; omega, hk, by simp⟩, trivial⟩ (fun W' hck => ?_)
          have hc' := Stable.cpst (Nat.le_refl _) _ _ HCP3.out hck
          refine ⟨cp_results hc' rfl rfl, ?_, hc'.below⟩
          have hS' : pre <+: allFin cs.length := hS
          rw [polyCheck_side HEE.out HG.out x.isLt (fun j hj => HG2.out ⟨j, Nat.lt_trans hj x.isLt⟩ ?_) hb]
          rw [hp] at hS'
          exact pre_small hS' j hj
end Go.Proofs.Ytgjpdjihjphbdaa

/- 'CheckPolygon', 'polygonErr' and 'AreaOf' on any polygon. -/
namespace Go.Proofs.Ytgjpdjihjphbdaa
open Go.RowKit
theorem polyCheck_shape {cs : List Pt} (h : shapeE cs.length ≠ 0) : polyCheck cs = (0, shapeE cs.length) := by unfold polyCheck; rw [if_pos h]
theorem CheckPolygon_any (A : Option Addr) (cap : Nat) (cs : List Pt) (w : World) (hr : Rd w 2 A cs.length (enc2 cs)) :
    Calls Try.prog 25 #[.agg #[.slice A cs.length cap]] w (Ret w (.tuple #[(.int .i64 ((polyCheck cs).1)), (.int .i64 ((polyCheck cs).2))])) := by
  by_cases h : shapeE cs.length = 0
  · obtain ⟨b, off, rfl, _⟩ := hr.2 (by have := shapeE_zero h; omega)
    exact CheckPolygon_ok b off cap cs w hr h
  · rw [polyCheck_shape h]
    exact CheckPolygon_shape A cs.length cap w h
set_option maxHeartbeats 1000000 in
theorem polygonErr_any (A : Option Addr) (cap : Nat) (cs : List Pt) (w : World) (hr : Rd w 2 A cs.length (enc2 cs)) :
    Calls Try.prog 99 #[.agg #[.slice A cs.length cap]] w (Ret w (.int .i64 ((polyCheck cs).2))) := by
  have HC := Lib.hid (CheckPolygon_any A cap cs (w.alloc (.cells #[.slice A cs.length cap] 41)) (hr.below rfl ((Below.refl _ w).alloc (Nat.le_refl _) _)))
  obtain ⟨x, hx⟩ : ∃ x, x = polyCheck cs := ⟨_, rfl⟩
  rw [← hx] at HC ⊢
  clear hx hr
  obtain ⟨i, e⟩ := x
  go_enter Try.func99, Try.ntmps99
  go_wp2_with ((go_at_call 25; (with_reducible refine (HC.out).mono ?_); rintro e w1 ⟨rfl, hb1⟩))
  go_ret
  exact ⟨rfl, ((Below.refl _ w).alloc (Nat.le_refl _) _).trans (hb1.mono (by simp))⟩
theorem polyCheck_inP {cs : List Pt} (h : (polyCheck cs).2 = 0) : 3 ≤ cs.length ∧ cs.length ≤ 12 ∧ ∀ p ∈ cs, InP p := by
  unfold polyCheck at h
  by_cases h0 : shapeE cs.length = 0
  · obtain ⟨h1, h2⟩ := shapeE_zero h0
    refine ⟨h1, h2, ?_⟩
    rw [if_neg (by simp [h0])] at h
    cases hf : (List.range cs.length).find? (fun i => posE (corner cs i) != 0) with
    | some i =>
      rw [hf] at h
      have := List.find?_some hf
      simp only at h
      simp [h] at this
    | none =>
      refine inP_all fun j hj => ?_
      have := List.find?_eq_none.1 hf j (List.mem_range.2 hj)
      simpa using this
  · rw [if_pos h0] at h; exact absurd h h0
def areaRes (cs : List Pt) : Int × Int := if (polyCheck cs).2 = 0 then (mx (areaAll cs) (-(areaAll cs)), 0) else (0, (polyCheck cs).2)
set_option maxHeartbeats 1000000 in
theorem AreaOf_any (A : Option Addr) (cap : Nat) (cs : List Pt) (w : World) (hr : Rd w 2 A cs.length (enc2 cs)) :
    Calls Try.prog 27 #[.agg #[.slice A cs.length cap]] w (Ret w (.tuple #[(.int .i64 ((areaRes cs).1)), (.int .i64 ((areaRes cs).2))])) := by
  by_cases h : (polyCheck cs).2 = 0
  · obtain ⟨h1, h2, hP⟩ := polyCheck_inP h
    obtain ⟨b, off, rfl, _⟩ := hr.2 (by omega)
    unfold areaRes
    rw [if_pos h]
    refine AreaOf_ok b off cap cs w (by omega) hr (by omega) hP fun W hW => ?_
    have := polygonErr_any (some ⟨b, off, none⟩) cap cs W hW
    rwa [h] at this
  · have hpe := Lib.hid (polygonErr_any A cap cs (w.alloc (.cells #[.slice A cs.length cap] 41)) (hr.below rfl ((Below.refl _ w).alloc (Nat.le_refl _) _)))
    unfold areaRes
    rw [if_neg h]
    obtain ⟨e, he⟩ : ∃ e, e = (polyCheck cs).2 := ⟨_, rfl⟩
    rw [← he] at hpe h ⊢
    clear he hr
    have hz' : (e != 0) = true := by simpa using h
    clear h
    refine (callsIn_wide (n := 9)).1 (callsIn_of_wp_marks Try.func27 rfl trivial ?_ rfl)
    simp only [Try.ntmps27, List.size_toArray, List.length_cons, List.length_nil, Nat.reduceAdd, Nat.reduceSub, Array.replicate_succ, Array.replicate_zero, List.push_toArray, List.append_toArray, List.nil_append, List.cons_append]
    refine wpIn_wide.2 ?_
    go_wp2_with ((go_at_call 99; (with_reducible refine (hpe.out).mono ?_); rintro e w1 ⟨rfl, hb1⟩))
    refine ret_marks (B := w.heap.size) trivial (fun W' hck => ⟨results_tmp2 rfl _ _ _, rfl, ?_⟩)
    have hb := ((Below.refl w.heap.size w).alloc (Nat.le_refl _) (.cells #[.slice A cs.length cap] 41)).trans (hb1.mono (by simp))
    exact hb.trans (hck.below hb.size)
end Go.Proofs.Ytgjpdjihjphbdaa

/- The sides of a polygon as what an iterator yields. -/
namespace Go.Proofs.Ytgjpdjihjphbdaa
open Go.RowKit
set_option linter.unusedVariables false
attribute [local go_sem] Oper.semAt_some
set_option maxRecDepth 100000 in
set_option maxHeartbeats 4000000 in
theorem sides1_k (n : Nat) (hn : 1 ≤ n) (l Bn o b off cap : Nat) (S : Nat → Prop) (cs : List Pt) (hlen : cs.length ≤ 1000) (J Jx : List (Fin cs.length) → World → Prop) (W : World) (hJ : ∀ pre A A', J pre A → Below A.heap.size A A' → J pre A')
    (hY : ∀ pre x W1, J pre W1 → pre.length < cs.length → x.val = pre.length → YieldAt Fence.wide (n - 1) Try.prog l (sideV cs x) W1 fun e W' =>
      (e = .returned (.bool true) ∧ J (pre ++ [x]) W' ∧ SameS S W1 W') ∨ (e = .returned (.bool false) ∧ Jx (pre ++ [x]) W'))
    (hB : S Bn) (hb0 : S b) (hn0 : ∀ k, S k → k < W.heap.size) (hc : W.cell? ⟨Bn, o, none⟩ = some (.slice (some ⟨b, off, none⟩) cs.length cap)) (hr : Rd W 2 (some ⟨b, off, none⟩) cs.length (enc2 cs)) (h0 : J [] W) :
    CallsIn Fence.wide n Try.prog 147 #[.func (.yield l) #[] #[], .pointer (some ⟨Bn, o, none⟩)] W fun e W' => (∃ v, e = .returned v) ∧
      ((∃ ys, ys = allFin cs.length ∧ J ys W') ∨ (∃ pre, pre <+: allFin cs.length ∧ Jx pre W')) := by
  refine callsIn_of_wp Try.func147 rfl trivial ?_ rfl
  simp only [Try.ntmps147, List.size_toArray, List.length_cons, List.length_nil, Nat.reduceAdd, Nat.reduceSub, Array.replicate_succ, Array.replicate_zero, List.push_toArray, List.append_toArray, List.nil_append, List.cons_append]
  gi_wp2
  gi_loopw [3, 4, 8] (fun _ _ i wr => ∃ k : Nat, k ≤ cs.length ∧ i = .int .i64 (k : Int) ∧ J ((allFin cs.length).take k) wr ∧ SameS S W wr) (fun _ _ i _ => cs.length - (intOf i).toNat)
  case atStart => exact ⟨0, Nat.zero_le _, rfl, h0, SameS.refl _ _⟩
  case round =>
    obtain ⟨k, hk, rfl, hJs, hbw⟩ := hrel
    have HJS := Lib.hid hJs
    clear hJs
    by_cases hlt : k < cs.length
    · have hn1 : (k + 1) % cs.length < cs.length := Nat.mod_lt _ (by omega)
      have hBc : wr.cell? ⟨Bn, o, none⟩ = some (.slice (some ⟨b, off, none⟩) cs.length cap) := (hbw.cell (p := ⟨Bn, o, none⟩) hB).trans hc
      obtain ⟨b1, o1, e1, _, c1, c2⟩ := hr.at2 k hlt
      cases e1
      obtain ⟨b2, o2, e2, _, c3, c4⟩ := hr.at2 ((k + 1) % cs.length) hn1
      cases e2
      replace c1 := (hbw.cell (p := ⟨b, off + k * 2, none⟩) hb0).trans c1
      replace c2 := (hbw.cell (p := ⟨b, off + k * 2 + 1, none⟩) hb0).trans c2
      replace c3 := (hbw.cell (p := ⟨b, off + (k + 1) % cs.length * 2, none⟩) hb0).trans c3
      replace c4 := (hbw.cell (p := ⟨b, off + (k + 1) % cs.length * 2 + 1, none⟩) hb0).trans c4
      have HC1 := Lib.hid (show cs[k] = corner cs k by simp [corner, hlt])
      have HC2 := Lib.hid (show cs[(k + 1) % cs.length] = nextC cs k by simp [nextC, hn1])
      rw [HC1.out] at c1 c2
      rw [HC2.out] at c3 c4
      have zB : Bn < wr.heap.size := cell_lt hBc
      have zb : b < wr.heap.size := by have := hbw.size; have := hn0 b hb0; omega
      have zB1 : Bn < wr.heap.size + 1 := by omega
      have zb1 : b < wr.heap.size + 1 := by omega
      obtain ⟨j, hj⟩ : ∃ j, j = (k + 1) % cs.length := ⟨_, rfl⟩
      rw [← hj] at c3 c4 hn1
      have hmod : ((k : Int) + 1) % (cs.length : Int) = (j : Int) := by rw [hj, Int.natCast_emod]; rfl
      have HJ := Lib.hid hj
      clear hj
      clear hr
      gi_wp2
      refine wpIn_region_calm_tail (r := none) 14 (by kernel_rfl) (by kernel_rfl) ?_
      simp only [List.take_succ_cons, List.take_zero, List.drop_succ_cons, List.drop_zero]
      repeat (go_big_quiet_step (fail))
      refine wpQuiet_nil ?_
      intro w1 hb1
      have hJ1 : J ((allFin cs.length).take k) w1 := hJ _ _ _ HJS.out (((Below.refl _ wr).alloc (Nat.le_refl _) _).trans (hb1.mono (by simp)))
      have hbw1 : SameS S W w1 := hbw.trans (SameS.of_below (((Below.refl _ wr).alloc (Nat.le_refl _) _).trans (hb1.mono (by simp))) (fun k hk => Nat.lt_of_lt_of_le (hn0 k hk) hbw.size))
      obtain ⟨fn, tmps, assign, body, hy, hR⟩ := hY _ ⟨k, hlt⟩ w1 hJ1 (by simp [allFin]; omega) (by simp [allFin]; omega)
      unfold sideV at hy
      dsimp only at hy
      have HK := Lib.hid (allFin_take cs.length k hlt)
      clear hJ hY hbw
      have HB := Lib.hid hbw1
      clear hbw1 hJ1 HJS hb1 hBc
      gi_wp2
      refine hR.mono ?_
      rintro e W3 (⟨rfl, hJ3, hk3⟩ | ⟨rfl, hJx3⟩)
      · have HJ3 := Lib.hid hJ3
        clear hJ3
        gi_wp2
        go_roundw
        case rel => exact ⟨k + 1, by omega, by go_num, by rw [HK.out]; exact HJ3.out, HB.out.trans hk3⟩
        case measure => simp [intOf]; omega
      · have HJ3 := Lib.hid hJx3
        clear hJx3
        gi_wp2
        refine bodyPost_ret (results_none rfl _ _ _) rfl ?_
        exact ⟨⟨_, rfl⟩, .inr ⟨_, ⟨_, by rw [← HK.out]; exact List.take_append_drop _ _⟩, HJ3.out⟩⟩
    · gi_wp2
      go_end0
      refine ⟨⟨_, rfl⟩, .inl ⟨_, rfl, ?_⟩⟩
      have := HJS.out
      rw [List.take_of_length_le (by simp [allFin]; omega)] at this
      exact this
def sidesY (cs : List Pt) (n : Nat) : List (List MV) := (List.range n).map fun i : Nat => [I64 (i : Int), .agg [I64 (corner cs i).1, I64 (corner cs i).2, I64 (nextC cs i).1, I64 (nextC cs i).2]]
def tI : Iter := fun g q caps h =>
  if g = 147 then
    (match q, caps with
    | 0, [.rp (.agg [.sl es]) 0] => match es.mapM decR with
      | some cs => if 0 < cs.length ∧ cs.length ≤ 1000 then some (sidesY cs cs.length) else none
      | none => none
    | _, _ => none)
  else none
theorem tI_ok : SoundI Try.prog tI := by
  intro g q caps h xs he
  unfold tI at he
  split at he
  case isFalse => cases he
  rename_i hg
  subst hg
  split at he
  case h_2 => cases he
  rename_i es
  split at he
  case h_2 => cases he
  rename_i cs hcs
  split at he
  case isFalse => cases he
  rename_i hlen
  cases he
  have hcs' := decR_all hcs
  subst hcs'
  refine ⟨by kernel_rfl, fun x hx m hm => ?_, fun E w vs hr hv => ⟨E.S, fun k hk => .inl hk, ?_⟩⟩
  · obtain ⟨i, _, rfl⟩ := List.mem_map.1 hx
    simp only [List.mem_cons, List.not_mem_nil, or_false] at hm
    rcases hm with rfl | rfl <;> rfl
  · obtain ⟨v, us, rfl, h1, h2⟩ := hv.uncons
    obtain rfl : us = [] := List.length_eq_zero_iff.1 h2.1.symm
    intro l J Jx W hb hJ hJx hY h0
    generalize hm : MV.rp (.agg [.sl (cs.map encR)]) 0 = m at h1
    cases h1 <;> try (cases hm; done)
    rename_i e off vs b o hl hvs hS hcell
    cases hm
    simp only [MV.cells, List.length_cons, List.length_nil] at hl hvs
    match vs, hl with
    | [u], _ =>
    have hu := hvs 0 _ _ rfl rfl
    obtain ⟨A, cap, rfl, hcap, hrd⟩ := rd_of (h := h) hr hu rfl
    obtain ⟨b', off', rfl, hb', hcl⟩ := hrd.2 hlen.1
    have hSb : E.S b' := by
      generalize hx : Value.slice (some ⟨b', off', none⟩) cs.length cap = z at hu
      generalize hm2 : MV.sl (cs.map encR) = m2 at hu
      cases hu <;> try (cases hm2; done)
      rename_i A2 cap2 sz2 k1 k2 k3 k4 k5
      cases hm2
      simp only [Value.slice.injEq] at hx
      obtain ⟨rfl, -, -⟩ := hx
      obtain ⟨b3, o3, e3, k6, _⟩ := k5 (by simpa using hlen.1)
      cases e3
      exact k6
    have hc0 := hcell 0 _ rfl
    rw [Nat.add_zero] at hc0
    have := sides1_k 1 (by decide) l b o b' off' cap E.S cs hlen.2 (fun pre A => J (fun _ => False) pre.length A) (fun _ A => Jx A) W (fun pre A A' h1 h2 => hJ _ _ _ _ _ h1 h2 fun b h => h.elim) (fun pre x W1 h1 h2 h3 => ?_) hS hSb (fun k hk => Nat.lt_of_lt_of_le (hr.slt k hk) hb.size) (cell_below hc0 hb) (hrd.below rfl hb) h0
    · refine (callsIn_wide (n := 0)).2 (((callsIn_wide (n := 1)).1 this).mono ?_)
      rintro e W' ⟨k1, k2⟩
      refine ⟨k1, ?_⟩
      rcases k2 with ⟨ys, rfl, k3⟩ | ⟨pre, _, k3⟩
      · refine .inl ⟨fun _ => False, ?_⟩
        have e1 : (allFin cs.length).length = ((sidesY cs cs.length).map fun x => (x.map concV).toArray).length := by simp [allFin, sidesY]
        rw [← e1]; exact k3
      · exact .inr k3
    · have := hY (fun _ => False) pre.length (sideV cs x) W1 (by
        rw [List.getElem?_map]
        unfold sidesY
        rw [List.getElem?_map, List.getElem?_range h2, ← h3]; rfl) (fun b h => h.elim) h1
      refine this.mono ?_
      rintro e W' ⟨k1 | k1, k2, k3⟩
      · exact .inl ⟨k1.1, by simpa using k1.2, k2⟩
      · exact .inr k1
end Go.Proofs.Ytgjpdjihjphbdaa

/- The contract of slices.Grow onto nil; the memory that it leaves. -/
set_option linter.unusedVariables false
set_option linter.unusedSimpArgs false
namespace Go.Proofs.Ytgjpdjihjphbdaa
open Go.RowKit
def GrowPost (w : World) (e : Ending) (w' : World) : Prop := ∃ (cap : Nat) (cur : Array Value), e = .returned (.slice (some ⟨w.heap.size, 0, none⟩) 0 cap) ∧ w' = w.drew.alloc (.cells cur 3) ∧ cur.size = cap
set_option maxHeartbeats 2000000 in
set_option maxRecDepth 100000 in
theorem Grow_grow (n : Nat) (w : World) (h0 : 0 < n) (h1 : n ≤ 4000000) : Calls Try.prog 169 #[.slice none 0 0, .int .i64 n] w (GrowPost w) := by
  obtain ⟨i0, hi, hz0, hz1, hz2⟩ := info_parts (P := Try.prog) (e := 3) (z := .int .i64 0) (size := 1) (bytes := 8) (by kernel_rfl)
  have h2 : wrap64 ((0 : Int) - (0 : Int)) = 0 := by unfold wrap64; omega
  have h3 : wrap64 ((n : Int) - 0) = (n : Int) := by unfold wrap64; omega
  have hs0 : 0 < i0.size := by omega
  have hrz : ∀ ty, (Builtin.append_ #[25, 3] ty #[.slice none 0 0, .int .i64 (n : Int)]).run Try.prog w =
      .ok (.slice (some ⟨w.heap.size, 0, none⟩) n (grownCap w n 0 3)) (w.drew.alloc (.cells (#[] ++ Builtin.zeroCells (Value.int .i64 0).cells n ++ Builtin.zeroCells (Value.int .i64 0).cells (grownCap w n 0 3 - n)) 3)) := fun ty => by
    have h := Lib.run_append_grow_zeros w 25 3 ty 3 i0 (.int .i64 0) .i64 .i64 (by kernel_rfl) (by kernel_rfl) hi hz0 none 0 0 [] (run_firstCells_none w.drew i0.size 0 0 0) n (by omega) hs0 (by omega) (by omega)
      (by rw [hz2]; omega) (by rw [Nat.zero_add]; exact growslice_fits (by omega) (by rw [hz2]; omega))
    rw [Nat.zero_add] at h
    exact h
  have h4 : ¬ ((n : Int) < 0) := by omega
  have h5 : (n : Int) > 0 := by omega
  have hGn : n ≤ grownCap w n 0 3 := grownCap_ge w _ _ _
  obtain ⟨G, hG⟩ : ∃ G, G = grownCap w n 0 3 := ⟨_, rfl⟩
  rw [← hG] at hrz hGn
  obtain ⟨cur, hcur⟩ : ∃ cur, cur = (#[] ++ Builtin.zeroCells (Value.int .i64 0).cells n ++ Builtin.zeroCells (Value.int .i64 0).cells (G - n)) := ⟨_, rfl⟩
  have hcs : cur.size = G := by rw [hcur]; simp [Builtin.zeroCells, Value.cells]; omega
  rw [← hcur] at hrz
  clear hG hcur hi hz0 hz1 hz2 hs0
  go_enter Try.func169, Try.ntmps169
  go_wp2_with (at_builtin; refine Lib.wpList_append_run _ rfl _ _ _ _ rfl _ _ rfl rfl _ _ (hrz _) ?_)
  all_goals (go_ret; exact ⟨G, cur, rfl, rfl, hcs⟩)
theorem Grow_none (w : World) : Calls Try.prog 169 #[.slice none 0 0, .int .i64 0] w fun e w' => e = .returned (.slice none 0 0) ∧ w' = w := by
  go_enter Try.func169, Try.ntmps169
  go_wp2
  all_goals (go_ret; first | exact ⟨rfl, rfl⟩ | simp)
theorem own_room {E : Env} {w : World} {cap : Nat} {cur : Array Value} (hr : HRel E [] w) (hcs : cur.size = cap) : ∃ E', V E' (w.drew.alloc (.cells cur 3)) (.arr 0 0 0 0) (.slice (some ⟨w.heap.size, 0, none⟩) 0 cap) ∧ HRel E' [⟨0, false, 1, []⟩] (w.drew.alloc (.cells cur 3)) ∧ Ext (fun _ => true) E w E' (w.drew.alloc (.cells cur 3)) := by
  have hne : ∀ id, ¬ E.K id := fun id hk => absurd (hr.klt id hk) (by simp)
  have ht : E.top = 0 := Nat.le_zero.1 hr.top
  have hb : Below w.heap.size w (w.drew.alloc (.cells cur 3)) := ((Below.refl _ w).drew).alloc (Nat.le_refl _) _
  obtain ⟨h1, h2⟩ := hr.put (lk := fun _ => true) (w' := w.drew.alloc (.cells cur 3)) (h' := [⟨0, false, 1, []⟩]) (id := 0) (b := w.heap.size) (bo := 0) (cp := cap) (sz := 1) (g := 0) (nl := false) (es := []) (OnlyObj.of_below hb) (fun hk => absurd hk (hne 0)) (fun _ => .inl (Nat.le_refl _)) (fun j hj hk => absurd hk (hne j)) rfl (fun e he => by cases he) (by simp)
    (fun _ => ⟨_, _, World.alloc_heap_new w.drew _, by simpa using hcs, fun q m hq => by simp [flat] at hq⟩) (by simp) (.inr (by rw [ht]; exact Nat.zero_le _))
  refine ⟨_, ?_, h1, h2⟩
  refine .arr 0 0 0 0 (some ⟨w.heap.size, 0, none⟩) cap (.inr rfl) (by simp [Env.put]) fun _ => ?_
  simp [Env.put]
def tGrow (f : Nat) (args : List MV) (h : MHeap) : Option (MV × MHeap) :=
  match args, h with
  | [.lit (.slice none 0 0), .lit (.int .i64 n)], [] =>
    if f = 169 then
      if n = 0 then some (.lit (.slice none 0 0), []) else if 0 < n ∧ n ≤ 4000000 then some (.arr 0 0 0 0, [⟨0, false, 1, []⟩]) else none
    else none
  | _, _ => none
theorem tGrow_ok : SoundO Try.prog tGrow := by
  intro f args h m h' he
  unfold tGrow at he
  split at he
  case h_2 => cases he
  rename_i n
  split at he
  case isFalse => cases he
  rename_i hf
  subst hf
  refine ⟨by kernel_rfl, fun E w vs hr hv => ?_⟩
  obtain ⟨x, y, rfl, h1, h2⟩ := vs_two hv
  obtain rfl := h1.lit_eq
  obtain rfl := h2.lit_eq
  split at he
  · rename_i h0
    subst h0
    cases he
    refine (Grow_none w).mono ?_
    rintro e w' ⟨rfl, rfl⟩
    exact ⟨_, _, rfl, .lit _, hr, Ext.refl _ _ _⟩
  · split at he
    case isFalse => cases he
    rename_i hn0 hn
    cases he
    obtain ⟨k, rfl⟩ : ∃ k : Nat, n = (k : Int) := ⟨n.toNat, by omega⟩
    refine (Grow_grow k w (by omega) (by omega)).mono ?_
    rintro e w' ⟨cap, cur, rfl, rfl, hcs⟩
    obtain ⟨E', g0, g1, g2⟩ := own_room hr hcs
    exact ⟨_, _, rfl, g0, g1, g2⟩
end Go.Proofs.Ytgjpdjihjphbdaa
