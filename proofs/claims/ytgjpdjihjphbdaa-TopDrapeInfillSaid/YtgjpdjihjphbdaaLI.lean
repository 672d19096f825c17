/- Iterators: their evaluation. -/
import Derived.Test.YtgjpdjihjphbdaaLR
/- Iterators: their evaluation. -/
namespace Go.Proofs.Ytgjpdjihjphbdaa
open Go.RowKit

/-- The state of an iterator: slots, its own objects, how many of them are locked, what has been yielded, whether it was told to stop. -/
structure ISt where
  s : List MV
  h : MHeap
  ln : Nat
  xs : List (List MV)
  stop : Bool

def isY (s : List MV) : MO → Option (List MV)
  | .callv x as_ => match x.get s with
    | .yld => some (as_.map (MX.get s))
    | _ => none
  | _ => none
def bindL {α β : Type} (f : α → Option (List β)) : List α → Option (List β)
  | [] => some []
  | a :: r => match f a with
    | some l => match bindL f r with
      | some m => some (l ++ m)
      | none => none
    | none => none
def lkn (n : Nat) : Nat → Bool := fun id => decide (id < n)
def evGI (O : Oracle) (o : GO) (st : ISt) : Option (List ISt) :=
  match wantM st.s o.guard, isY st.s o.op with
  | some true, some ms => if st.stop = false ∧ ms.all MV.cl = true then
      some [⟨putM st.s o.dst (.lit (.bool true)), st.h, st.h.length, st.xs ++ [ms], false⟩, ⟨putM st.s o.dst (.lit (.bool false)), st.h, st.h.length, st.xs, true⟩] else none
  | _, _ => (evG (lkn st.ln) O o ⟨st.s, st.h⟩).map fun st' => [⟨st'.s, st'.h, st.ln, st.xs, st.stop⟩]
def evRI (O : Oracle) : List GO → ISt → Option (List ISt)
  | [], st => some [st]
  | o :: os, st => match evGI O o st with
    | some l => bindL (evRI O os) l
    | none => none
def isCv : MO → Bool
  | .callv _ _ => true
  | _ => false
def hasY (gl : List GO) : Bool := gl.any fun o => isCv o.op
def contI (f : ISt → Option (List (MX2 × ISt))) (p : MX2 × ISt) : Option (List (MX2 × ISt)) :=
  match p.1 with
  | .normal => f p.2
  | _ => some [p]
def roundsI (f : ISt → Option (List (MX2 × ISt))) : Nat → ISt → Option (List (MX2 × ISt))
  | 0, _ => none
  | n + 1, st => match f st with
    | some l => bindL (contI (roundsI f n)) l
    | none => none
def leaveB (id : Nat) (p : MX2 × ISt) : MX2 × ISt :=
  match p.1 with
  | .exit k => if k = id then (.normal, p.2) else p
  | _ => p
def evI (O : Oracle) (N : Nat) : MC → ISt → Option (List (MX2 × ISt))
  | .skip, st => some [(.normal, st)]
  | .reg ops, st => if hasY ops then (evRI O ops st).map fun l => l.map fun st => (.normal, st)
      else (evR (lkn st.ln) O ops ⟨st.s, st.h⟩).map fun st' => [(.normal, ⟨st'.s, st'.h, st.ln, st.xs, st.stop⟩)]
  | .seq a b, st => match evI O N a st with
    | some l => bindL (contI (evI O N b)) l
    | none => none
  | .cond c a b, st => match c.get st.s with
    | .lit (.bool t) => if t then evI O N a st else evI O N b st
    | _ => none
  | .block id b, st => (evI O N b st).map fun l => l.map (leaveB id)
  | .loop _ b, st => roundsI (evI O N b) N st
  | .exit id, st => some [(.exit id, st)]
  | .ret, st => some [(.ret, st)]
  | _, _ => none

theorem bindL_some {α β : Type} {f : α → Option (List β)} : ∀ {l : List α} {m : List β}, bindL f l = some m → ∀ a ∈ l, ∃ r, f a = some r ∧ ∀ x ∈ r, x ∈ m
  | [], m, h, a, ha => by simp at ha
  | b :: l, m, h, a, ha => by
    simp only [bindL] at h
    split at h
    case h_2 => cases h
    rename_i r hr
    split at h
    case h_2 => cases h
    rename_i m' hm
    cases h
    rcases List.mem_cons.1 ha with rfl | ha
    · exact ⟨r, hr, fun x hx => List.mem_append_left _ hx⟩
    · obtain ⟨r', h1, h2⟩ := bindL_some hm a ha
      exact ⟨r', h1, fun x hx => List.mem_append_right _ (h2 x hx)⟩

/-- What goes on yields more and more. -/
def Goes (st : ISt) (outs : List (MX2 × ISt)) : Prop := st.stop = false → ∃ o, o ∈ outs ∧ o.2.stop = false ∧ st.xs <+: o.2.xs
theorem Goes.cont {f : ISt → Option (List (MX2 × ISt))} (hf : ∀ st outs, f st = some outs → Goes st outs) {st : ISt} {l outs : List (MX2 × ISt)} (h : Goes st l) (hb : bindL (contI f) l = some outs) : Goes st outs := by
  intro hs
  obtain ⟨o, h1, h2, h3⟩ := h hs
  obtain ⟨r, h4, h5⟩ := bindL_some hb o h1
  obtain ⟨x, st'⟩ := o
  cases x with
  | normal =>
    obtain ⟨o', k1, k2, k3⟩ := hf _ _ h4 h2
    exact ⟨o', h5 _ k1, k2, h3.trans k3⟩
  | exit id =>
    simp only [contI, Option.some.injEq] at h4
    subst h4
    exact ⟨_, h5 _ (by simp), h2, h3⟩
  | ret =>
    simp only [contI, Option.some.injEq] at h4
    subst h4
    exact ⟨_, h5 _ (by simp), h2, h3⟩
theorem Goes.rounds {f : ISt → Option (List (MX2 × ISt))} (hf : ∀ st outs, f st = some outs → Goes st outs) : ∀ n st outs, roundsI f n st = some outs → Goes st outs := by
  intro n
  induction n with
  | zero => intro st outs h; simp [roundsI] at h
  | succ n ih =>
    intro st outs h
    simp only [roundsI] at h
    split at h
    case h_2 => cases h
    rename_i l hl
    exact (hf _ _ hl).cont ih h
theorem evGI_goes {O : Oracle} {o : GO} {st : ISt} {l : List ISt} (h : evGI O o st = some l) (hs : st.stop = false) : ∃ st', st' ∈ l ∧ st'.stop = false ∧ st.xs <+: st'.xs := by
  unfold evGI at h
  split at h
  · split at h
    case isFalse => cases h
    cases h
    exact ⟨_, List.mem_cons_self, rfl, List.prefix_append _ _⟩
  · rw [Option.map_eq_some_iff] at h
    obtain ⟨st', _, rfl⟩ := h
    exact ⟨_, List.mem_cons_self, hs, List.prefix_refl _⟩
theorem evRI_goes {O : Oracle} : ∀ {gl : List GO} {st : ISt} {l : List ISt}, evRI O gl st = some l → st.stop = false → ∃ st', st' ∈ l ∧ st'.stop = false ∧ st.xs <+: st'.xs
  | [], st, l, h, hs => by
    simp only [evRI, Option.some.injEq] at h
    subst h
    exact ⟨_, List.mem_cons_self, hs, List.prefix_refl _⟩
  | o :: gl, st, l, h, hs => by
    simp only [evRI] at h
    split at h
    case h_2 => cases h
    rename_i l1 h1
    obtain ⟨st1, k1, k2, k3⟩ := evGI_goes h1 hs
    obtain ⟨r, h2, h3⟩ := bindL_some h st1 k1
    obtain ⟨st2, j1, j2, j3⟩ := evRI_goes h2 k2
    exact ⟨st2, h3 _ j1, j2, k3.trans j3⟩
theorem evI_goes {O : Oracle} {N : Nat} : ∀ (mc : MC) (st : ISt) (outs : List (MX2 × ISt)), evI O N mc st = some outs → Goes st outs := by
  intro mc
  induction mc with
  | skip => intro st outs h hs; simp only [evI, Option.some.injEq] at h; subst h; exact ⟨_, List.mem_cons_self, hs, List.prefix_refl _⟩
  | ret => intro st outs h hs; simp only [evI, Option.some.injEq] at h; subst h; exact ⟨_, List.mem_cons_self, hs, List.prefix_refl _⟩
  | exit id => intro st outs h hs; simp only [evI, Option.some.injEq] at h; subst h; exact ⟨_, List.mem_cons_self, hs, List.prefix_refl _⟩
  | bad => intro st outs h; simp [evI] at h
  | rf => intro st outs h; simp [evI] at h
  | reg gl =>
    intro st outs h hs
    simp only [evI] at h
    split at h
    · rw [Option.map_eq_some_iff] at h
      obtain ⟨l, h1, rfl⟩ := h
      obtain ⟨st', k1, k2, k3⟩ := evRI_goes h1 hs
      exact ⟨(.normal, st'), List.mem_map.2 ⟨st', k1, rfl⟩, k2, k3⟩
    · rw [Option.map_eq_some_iff] at h
      obtain ⟨st', h1, rfl⟩ := h
      exact ⟨_, List.mem_cons_self, hs, List.prefix_refl _⟩
  | seq a b iha ihb =>
    intro st outs h
    simp only [evI] at h
    split at h
    case h_2 => cases h
    rename_i l hl
    exact (iha _ _ hl).cont ihb h
  | cond c a b iha ihb =>
    intro st outs h
    simp only [evI] at h
    split at h
    case h_2 => cases h
    split at h
    · exact iha _ _ h
    · exact ihb _ _ h
  | block id b ih =>
    intro st outs h hs
    simp only [evI, Option.map_eq_some_iff] at h
    obtain ⟨l, h1, rfl⟩ := h
    obtain ⟨o, k1, k2, k3⟩ := ih _ _ h1 hs
    refine ⟨leaveB id o, List.mem_map.2 ⟨o, k1, rfl⟩, ?_⟩
    have : (leaveB id o).2 = o.2 := by unfold leaveB; split; split <;> rfl; rfl
    rw [this]
    exact ⟨k2, k3⟩
  | loop keep b ih =>
    intro st outs h
    simp only [evI] at h
    exact Goes.rounds ih _ _ _ h

/-- Calls of function values. -/
def isCallV : Op → Bool
  | .call c => match c.callee with
    | .value (.func _) => false
    | .value _ => true
    | _ => false
  | _ => false
/-- Regions that draw their order hold no such call. -/
def seqY : Code → Bool
  | .region _ ops draw => !draw || ops.toList.all fun o => !isCallV o.op
  | .seq a b => seqY a && seqY b
  | .cond _ a b => seqY a && seqY b
  | .block _ b => seqY b
  | .loop b => seqY b
  | _ => true

theorem callv_inv {P : Program} {o : Oper} {x' : MX} {as' : List MX} (hc : compO P o = some (.callv x' as')) : ∃ c x, o.op = .call c ∧ c.callee = .value x ∧ (∀ f, x ≠ .func f) ∧ cX x = some x' ∧ cXs c.args.toList = some as' := by
  obtain ⟨dst, op, type, pos, after, guard⟩ := o
  cases op <;> simp only [compO] at hc <;> try (cases hc; done)
  case call c =>
    obtain ⟨callee, args, argTypes⟩ := c
    cases callee with
    | invoke r m => simp only at hc; cases hc
    | value x =>
      cases x with
      | func f =>
        simp only at hc
        split at hc
        · simp only [Option.bind_eq_bind, Option.bind_eq_some_iff] at hc
          obtain ⟨_, _, h⟩ := hc
          cases h
        · cases hc
      | tmp t =>
        simp only [Option.bind_eq_bind, Option.bind_eq_some_iff, Option.some.injEq, MO.callv.injEq] at hc
        obtain ⟨x1, h1, a1, h2, rfl, rfl⟩ := hc
        exact ⟨_, _, rfl, rfl, (fun f h => by cases h), h1, h2⟩
      | const v =>
        simp only [Option.bind_eq_bind, Option.bind_eq_some_iff, Option.some.injEq, MO.callv.injEq] at hc
        obtain ⟨x1, h1, a1, h2, rfl, rfl⟩ := hc
        exact ⟨_, _, rfl, rfl, (fun f h => by cases h), h1, h2⟩
      | global g => simp [cX] at hc
    | builtin b =>
      exfalso
      simp only at hc
      repeat' (split at hc)
      all_goals (first | (cases hc; done) | (simp [Option.map_eq_some_iff, Option.bind_eq_some_iff] at hc; done) | skip)
      all_goals (simp only [Option.bind_eq_bind, Option.bind_eq_some_iff] at hc; obtain ⟨_, _, _, _, hc⟩ := hc; split at hc)
      all_goals (first | (cases hc; done) | (simp [Option.bind_eq_some_iff] at hc))
  case build t parts =>
    exfalso
    simp only [Option.bind_eq_bind, Option.bind_eq_some_iff] at hc
    obtain ⟨_, _, _, _, hc⟩ := hc
    split at hc
    · simp [Option.bind_eq_some_iff] at hc
    · cases hc
  case makeFunc fn first caps =>
    exfalso
    cases fn <;> simp only at hc <;> try (cases hc; done)
    simp [Option.bind_eq_some_iff] at hc
  case slice t x lo hi mx =>
    exfalso
    cases mx <;> simp only at hc <;> try (cases hc; done)
    simp [Option.bind_eq_some_iff] at hc
  all_goals
    exfalso
    repeat' (split at hc)
    all_goals (first | (cases hc; done) | (simp [Option.map_eq_some_iff, Option.bind_eq_some_iff] at hc; done) | skip)
  all_goals (simp only [Option.bind_eq_bind, Option.bind_eq_some_iff] at hc)

end Go.Proofs.Ytgjpdjihjphbdaa

/- Iterators: what they yield is so. -/
namespace Go.Proofs.Ytgjpdjihjphbdaa
open Go.RowKit

theorem V.sameB {E : Env} {w w' : World} (hS : ∀ b, E.S b → w'.heap[b]? = w.heap[b]?) {m : MV} {v : Value} (hv : V E w m v) : V E w' m v := by
  induction hv with
  | junk v => exact .junk v
  | yld => exact .yld
  | lit v => exact .lit v
  | agg cs vs hl _ ih => exact .agg cs vs hl ih
  | tup cs vs hl _ ih => exact .tup cs vs hl ih
  | fn f k cs vs hl _ ih => exact .fn f k cs vs hl ih
  | sl es vs A cap sz hc hs hl _ hA ih =>
    refine .sl es vs A cap sz hc hs hl ih fun h0 => ?_
    obtain ⟨b, off, e, hb, hcell⟩ := hA h0
    exact ⟨b, off, e, hb, fun i v hi => (World.cell?_of_block (w := w) (a := ⟨b, off + i, none⟩) (hS b hb)).trans (hcell i v hi)⟩
  | rp e off vs b o hl _ hb hcell ih =>
    exact .rp e off vs b o hl ih hb fun i v hi => (World.cell?_of_block (w := w) (a := ⟨b, o + i, none⟩) (hS b hb)).trans (hcell i v hi)
  | ptr id i off g b o hk hg hd => exact .ptr id i off g b o hk hg hd
  | arr id i n g A cap hk hg hd => exact .arr id i n g A cap hk hg hd
theorem HRel.sameB {E : Env} {h : MHeap} {w w' : World} (hr : HRel E h w) (hS : ∀ b, E.S b → w'.heap[b]? = w.heap[b]?) (hK : ∀ id, E.K id → 0 < E.cp id → w'.heap[E.ρ id]? = w.heap[E.ρ id]?) (hsz : w.heap.size ≤ w'.heap.size) : HRel E h w' :=
  ⟨hr.klt, hr.top, fun id hk => by
    obtain ⟨es, a1, a2, a3, a4, a5⟩ := hr.obj id hk
    refine ⟨es, a1, a2, a3, a4, fun hc => ?_⟩
    obtain ⟨arr, t, b1, b2, b3⟩ := a5 hc
    exact ⟨arr, t, (hK id hk hc).trans b1, b2, fun k c hk => by obtain ⟨v, c1, c2⟩ := b3 k c hk; exact ⟨v, c1, c2.sameB hS⟩⟩, hr.inj, hr.sep, fun b hb => Nat.lt_of_lt_of_le (hr.slt b hb) hsz⟩

theorem V.cl_eq {E : Env} {w : World} {m : MV} {v : Value} (hv : V E w m v) (hc : m.cl = true) : v = concV m := by
  cases hv with
  | lit v => rfl
  | agg cs vs hl hv =>
    simp only [concV, Value.agg.injEq]
    congr 1
    simp only [MV.cl, List.all_eq_true] at hc
    refine List.ext_getElem? fun i => ?_
    rw [List.getElem?_map]
    by_cases hi : i < cs.length
    · have h1 : cs[i]? = some cs[i] := by simp
      have hi' : i < vs.length := hl ▸ hi
      have h2 : vs[i]? = some vs[i] := by simp
      have := hv i _ _ h1 h2
      have hcl := hc cs[i] (List.getElem_mem _)
      rw [h1, h2]
      generalize hm : cs[i] = m at this hcl
      cases m <;> simp at hcl
      simp [this.lit_eq]
    · have hi' : ¬ i < vs.length := hl ▸ hi
      simp [Nat.not_lt.1 hi, Nat.not_lt.1 hi']
  | _ => cases hc
theorem Vs.cl_eq {E : Env} {w : World} {ms : List MV} {vs : List Value} (hv : Vs E w ms vs) (hc : ms.all MV.cl = true) : vs = ms.map concV := by
  refine List.ext_getElem? fun i => ?_
  rw [List.getElem?_map]
  by_cases hi : i < ms.length
  · have h1 : ms[i]? = some ms[i] := by simp
    have hi' : i < vs.length := hv.1 ▸ hi
    have h2 : vs[i]? = some vs[i] := by simp
    rw [h1, h2, (hv.2 i _ _ h1 h2).cl_eq (List.all_eq_true.1 hc _ (List.getElem_mem _))]
    rfl
  · have hi' : ¬ i < vs.length := hv.1 ▸ hi
    simp [Nat.not_lt.1 hi, Nat.not_lt.1 hi']

section
variable {P : Program} {O : Oracle} {N : Nat} {full : List (List MV)} {l : Nat} {S : Nat → Prop} {J : (Nat → Prop) → Nat → World → Prop} {Jx : World → Prop}

structure ItH (P : Program) (full : List (List MV)) (l : Nat) (S : Nat → Prop) (J : (Nat → Prop) → Nat → World → Prop) (Jx : World → Prop) : Prop where
  ab : ∀ T T' k A A', J T k A → Below A.heap.size A A' → (∀ b, T' b → T b ∨ A.heap.size ≤ b) → J T' k A'
  abx : ∀ A A', Jx A → Below A.heap.size A A' → Jx A'
  yield : ∀ (T : Nat → Prop) (k : Nat) (x : Array Value) (W1 : World), (full.map fun x => (x.map concV).toArray)[k]? = some x → (∀ b, T b → b < W1.heap.size) → J T k W1 →
    YieldAt Fence.wide 0 P l x W1 fun e W' => ((e = .returned (.bool true) ∧ J T (k + 1) W') ∨ (e = .returned (.bool false) ∧ Jx W')) ∧ SameS S W1 W' ∧ SameS T W1 W'

def RelI (l : Nat) (S : Nat → Prop) (J : (Nat → Prop) → Nat → World → Prop) (Jx : World → Prop) (st : ISt) (a : Act) (w : World) : Prop :=
  ∃ (E E1 : Env) (w1 : World) (T : Nat → Prop), Slots E w st.s a ∧ HRel E st.h w ∧ E.yl = l ∧ Ext (lkn st.ln) E1 w1 E w ∧ (∀ id, E1.K id → id < st.ln) ∧ (∀ b, E1.S b → S b ∨ T b) ∧ (∀ id, E1.K id → 0 < E1.cp id → T (E1.ρ id)) ∧
    (∀ b, T b → b < w1.heap.size) ∧ (st.stop = true → Jx w1) ∧ (st.stop = false → J T st.xs.length w1) ∧ a.defers = []

theorem ext_below {n : Nat} {E1 E : Env} {w1 w : World} (hx : Ext (lkn n) E1 w1 E w) (hn : ∀ id, E1.K id → id < n) : Below w1.heap.size w1 w :=
  ⟨hx.os, hx.tape, hx.output, hx.size, fun k hk => hx.keep k hk fun id hid hl _ => by simp [lkn, hn id hid] at hl⟩

theorem evGI_ok (hO : SoundO P O) (hH : ItH P full l S J Jx) {ops : Array Oper} {o : Oper} {go : GO} (hc : compG P ops o = some go) {st : ISt} {outs : List ISt} (he : evGI O go st = some outs) (hpre : ∀ st' ∈ outs, st'.stop = false → st'.xs <+: full)
    {a : Act} {w : World} (hR : RelI l S J Jx st a w) {n : Nat} {K : Act → World → Prop} {Q : Exit → Act → World → Prop} (hK : ∀ st' ∈ outs, ∀ a' w', RelI l S J Jx st' a' w' → K a' w') :
    if Region.wanted o (yielded ops a.tmps) then o.wpIn (Fw none) n P a w K Q else (∀ f, o.about P w a.eval = some f → (Fw none).fn f) ∧ K (a.put o.dst undef) w := by
  obtain ⟨E, E1, w1, T, hs, hr, hyl, hx, hn, hS1, hK1, hT, hJx, hJ, hd⟩ := hR
  unfold evGI at he
  split at he
  · rename_i ms hw hy
    split at he
    case isFalse => cases he
    rename_i hcl
    obtain ⟨hstop, hcl⟩ := hcl
    cases he
    rw [wantM_wanted hc hs hw]
    simp only [if_true]
    -- the call
    unfold isY at hy
    split at hy
    case h_2 => cases hy
    rename_i x' as' hop
    split at hy
    case h_2 => cases hy
    rename_i hxy
    cases hy
    rw [compG_op hc] at hop
    cases hco : compO P o with
    | none => rw [hco] at hop; cases hop
    | some mo =>
    rw [hco] at hop
    simp only [Option.getD_some] at hop
    subst hop
    obtain ⟨c, x, ho, hcal, hnf, hcx, hcas⟩ := callv_inv hco
    have hnd : ∀ c, o.op ≠ .defer c := fun c' e => by rw [ho] at e; cases e
    have hxv : a.eval x = .func (.yield l) #[] #[] := by
      have := hs.x hcx
      rw [hxy] at this
      generalize a.eval x = v at this
      cases this
      rw [hyl]
    have hav : c.args.toList.map a.eval = (as'.map (MX.get st.s)).map concV := (hs.xs hcas).cl_eq hcl
    obtain ⟨T', hT'⟩ : ∃ T' : Nat → Prop, T' = fun b => (E.S b ∧ ¬ S b) ∨ ∃ id, E.K id ∧ 0 < E.cp id ∧ E.ρ id = b := ⟨_, rfl⟩
    have hbel := ext_below hx hn
    have hTT : ∀ b, T' b → T b ∨ w1.heap.size ≤ b := fun b hb => by
      rw [hT'] at hb
      rcases hb with ⟨h1, h2⟩ | ⟨id, h1, h2, rfl⟩
      · rcases hx.srcS b h1 with h | ⟨id, k1, k2, rfl⟩ | h
        · exact .inl ((hS1 b h).resolve_left h2)
        · exact .inl (hK1 id k1 k2)
        · exact .inr h
      · rcases hx.src id h1 h2 with ⟨k1, k2, k3⟩ | h
        · exact .inl (k3 ▸ hK1 id k1 k2)
        · exact .inr h
    have hTlt : ∀ b, T' b → b < w.heap.size := fun b hb => by
      rw [hT'] at hb
      rcases hb with ⟨h1, h2⟩ | ⟨id, h1, h2, rfl⟩
      · exact hr.slt b h1
      · exact hr.lt h1 h2
    have hJ' : J T' st.xs.length w := hH.ab T T' _ _ _ (hJ hstop) hbel hTT
    have hk : (full.map fun x => (x.map concV).toArray)[st.xs.length]? = some ((as'.map (MX.get st.s)).map concV).toArray := by
      have hp := hpre _ List.mem_cons_self rfl
      obtain ⟨t, ht⟩ := hp
      simp only at ht
      rw [← ht]
      simp
    obtain ⟨fn, tmps, assign, body, hy1, hy2⟩ := hH.yield T' st.xs.length _ w hk hTlt hJ'
    have hrun : (execOp a.eval o).run P w = .ok (.round l fn tmps assign body) w := by
      have e1 : c.args.map a.eval = ((as'.map (MX.get st.s)).map concV).toArray := by
        apply Array.ext'
        rw [Array.toList_map, hav]
      simp only [List.map_map] at e1 hy1
      simp [execOp, ho, hcal, resolve, hxv, Deferred.ofValue, invoke, e1, hy1]
    refine ⟨about_wide o a w, ?_⟩
    rw [Oper.semAt_eq _ _ _ hnd, hrun]
    refine ⟨fun h => by simp [Fence.wide] at h, ?_⟩
    refine (roundIn_n 0 (n - 1) hy2).mono ?_
    rintro e W' ⟨hcase, hsS, hsT⟩
    have hES : ∀ b, E.S b → W'.heap[b]? = w.heap[b]? := fun b hb => by
      by_cases h : S b
      · exact hsS.block b h
      · exact hsT.block b (by rw [hT']; exact .inl ⟨hb, h⟩)
    have hEK : ∀ id, E.K id → 0 < E.cp id → W'.heap[E.ρ id]? = w.heap[E.ρ id]? := fun id h1 h2 => hsT.block _ (by rw [hT']; exact .inr ⟨id, h1, h2, rfl⟩)
    have hr' : HRel E st.h W' := hr.sameB hES hEK hsS.size
    have hs' : Slots E W' st.s a := ⟨hs.1, fun i m v h1 h2 => (hs.2 i m v h1 h2).sameB hES⟩
    have hTW : ∀ b, T' b → b < W'.heap.size := fun b hb => Nat.lt_of_lt_of_le (hTlt b hb) hsS.size
    have hES2 : ∀ b, E.S b → S b ∨ T' b := fun b hb => by
      by_cases h : S b
      · exact .inl h
      · exact .inr (by rw [hT']; exact .inl ⟨hb, h⟩)
    have hEK2 : ∀ id, E.K id → 0 < E.cp id → T' (E.ρ id) := fun id h1 h2 => by rw [hT']; exact .inr ⟨id, h1, h2, rfl⟩
    have hputd : ∀ (v : Value), (a.put o.dst v).defers = [] := fun v => by rw [← hd]; cases o.dst <;> rfl
    rcases hcase with ⟨rfl, hJ2⟩ | ⟨rfl, hJ2⟩
    · refine hK _ List.mem_cons_self _ _ ⟨E, E, W', T', ?_, hr', hyl, Ext.refl _ _ _, hr.klt, hES2, hEK2, hTW, (fun h => by cases h), (fun _ => by simpa using hJ2), hputd _⟩
      rw [compG_dst hc]
      exact hs'.put (.lit _) _
    · refine hK _ (List.mem_cons_of_mem _ List.mem_cons_self) _ _ ⟨E, E, W', T', ?_, hr', hyl, Ext.refl _ _ _, hr.klt, hES2, hEK2, hTW, fun _ => hJ2, fun h => (by cases h), hputd _⟩
      rw [compG_dst hc]
      exact hs'.put (.lit _) _
  · rw [Option.map_eq_some_iff] at he
    obtain ⟨st', he, rfl⟩ := he
    exact evG_ok hO hc hs hr he fun a' w' E' h1 h2 h3 h4 => hK _ List.mem_cons_self _ _ ⟨E', E1, w1, T, h1, h2, by rw [h3.yl]; exact hyl, hx.trans h3, hn, hS1, hK1, hT, hJx, hJ, h4.trans hd⟩

theorem evRI_ok (hO : SoundO P O) (hH : ItH P full l S J Jx) {ops : Array Oper} {n : Nat} {Q : Exit → Act → World → Prop} : ∀ {ol : List Oper} {gl : List GO} {st : ISt} {outs : List ISt} {a : Act} {w : World}, ol.mapM (compG P ops) = some gl → evRI O gl st = some outs →
    (∀ st' ∈ outs, st'.stop = false → st'.xs <+: full) → RelI l S J Jx st a w → (∀ st' ∈ outs, ∀ a' w', RelI l S J Jx st' a' w' → Q .normal a' w') → wpListIn (Fw none) n P ops Q ol a w
  | [], gl, st, outs, a, w, hm, he, hpre, hR, hQ => by
    simp at hm; subst hm
    simp [evRI] at he; subst he
    exact hQ _ List.mem_cons_self a w hR
  | o :: ol, gl, st, outs, a, w, hm, he, hpre, hR, hQ => by
    simp only [List.mapM_cons, Option.pure_def, Option.bind_eq_bind, Option.bind_eq_some_iff, Option.some.injEq] at hm
    obtain ⟨go, hgo, gl', hgl, rfl⟩ := hm
    simp only [evRI] at he
    split at he
    case h_2 => cases he
    rename_i l1 he1
    unfold wpListIn
    refine evGI_ok hO hH hgo he1 (fun st' hst' hs' => ?_) hR fun st' hst' a' w' hR' => ?_
    · obtain ⟨r, h1, h2⟩ := bindL_some he st' hst'
      obtain ⟨st2, k1, k2, k3⟩ := evRI_goes h1 hs'
      exact k3.trans (hpre _ (h2 _ k1) k2)
    · obtain ⟨r, h1, h2⟩ := bindL_some he st' hst'
      exact evRI_ok hO hH hgl h1 (fun st2 h3 => hpre st2 (h2 _ h3)) hR' fun st2 h3 => hQ st2 (h2 _ h3)

def CodeI (P : Program) (O : Oracle) (N : Nat) (full : List (List MV)) (l : Nat) (S : Nat → Prop) (J : (Nat → Prop) → Nat → World → Prop) (Jx : World → Prop) (c : Code) (mc : MC) : Prop :=
  ∀ (st : ISt) (outs : List (MX2 × ISt)), evI O N mc st = some outs → (∀ o ∈ outs, o.2.stop = false → o.2.xs <+: full) → ∀ (n : Nat) (a : Act) (w : World) (Q : Exit → Act → World → Prop), RelI l S J Jx st a w →
    (∀ o ∈ outs, ∀ a' w', RelI l S J Jx o.2 a' w' → Q (exitOf o.1) a' w') → c.wpIn (Fw none) n P Q a w

theorem pre_cont {f : ISt → Option (List (MX2 × ISt))} (hf : ∀ st outs, f st = some outs → Goes st outs) {l1 outs : List (MX2 × ISt)} (hb : bindL (contI f) l1 = some outs) (hpre : ∀ o ∈ outs, o.2.stop = false → o.2.xs <+: full) : ∀ o ∈ l1, o.2.stop = false → o.2.xs <+: full := fun o ho hs => by
  obtain ⟨r, h4, h5⟩ := bindL_some hb o ho
  obtain ⟨x, st'⟩ := o
  cases x with
  | normal =>
    obtain ⟨o', k1, k2, k3⟩ := hf _ _ h4 hs
    exact k3.trans (hpre _ (h5 _ k1) k2)
  | exit id =>
    simp only [contI, Option.some.injEq] at h4
    subst h4
    exact hpre _ (h5 _ (by simp)) hs
  | ret =>
    simp only [contI, Option.some.injEq] at h4
    subst h4
    exact hpre _ (h5 _ (by simp)) hs

theorem compC_itok (hm : P.follows .mixedOrders = true) (hO : SoundO P O) (hA : AppO O) (hH : ItH P full l S J Jx) : ∀ (c : Code) (mc : MC), compC P c = mc.strip → seqY c = true → CodeI P O N full l S J Jx c mc := by
  have bad : ∀ (c : Code) (mc : MC), mc.strip = .bad → CodeI P O N full l S J Jx c mc := fun c mc h => by
    cases mc <;> simp [MC.strip] at h
    intro st outs he
    simp [evI] at he
  intro c
  induction c with
  | skip =>
    intro mc h _; simp only [compC] at h; cases mc <;> simp [MC.strip] at h
    intro st outs he hpre n a w Q hR hQ
    simp only [evI, Option.some.injEq] at he; subst he
    exact wpIn_skip (hQ _ List.mem_cons_self a w hR)
  | ret =>
    intro mc h _; simp only [compC] at h; cases mc <;> simp [MC.strip] at h
    intro st outs he hpre n a w Q hR hQ
    simp only [evI, Option.some.injEq] at he; subst he
    exact wpIn_ret (hQ _ List.mem_cons_self a w hR)
  | exit id =>
    intro mc h _; simp only [compC] at h; cases mc <;> simp [MC.strip] at h; subst h
    intro st outs he hpre n a w Q hR hQ
    simp only [evI, Option.some.injEq] at he; subst he
    exact wpIn_exit (hQ _ List.mem_cons_self a w hR)
  | region id ops draw =>
    intro mc h hy
    simp only [compC] at h
    split at h
    case h_2 => exact bad _ mc h.symm
    rename_i gl hg
    split at h
    · rename_i hdr
      split at h
      case isFalse => exact bad _ mc h.symm
      rename_i hv
      rw [Bool.and_eq_true] at hdr
      obtain ⟨hdr1, _⟩ := hdr
      subst hdr1
      cases mc <;> simp [MC.strip] at h
      subst h
      intro st outs he hpre n a w Q hR hQ
      simp only [evI] at he
      obtain ⟨q1, -⟩ := mapM_some hg
      have hnoY : hasY (virt ops gl) = false := by
        rw [← Bool.not_eq_true]
        intro hy2
        simp only [seqY, Bool.not_true, Bool.false_or, List.all_eq_true, Bool.not_eq_true'] at hy
        obtain ⟨g, hg1, hg2⟩ := List.any_eq_true.1 hy2
        obtain ⟨i, hi⟩ := List.getElem?_of_mem hg1
        have hi2 : i < ops.toList.length := by
          have := (List.getElem?_eq_some_iff.1 hi).1
          rw [virt_len (by rw [← q1]; simp)] at this
          simpa using this
        rcases virt_comp hg i ops.toList[i] g (by simp) hi with hc | ⟨_, _, _, _, _, _, _, _, rfl⟩
        · have hop := compG_op hc
          cases hco : compO P ops.toList[i] with
          | none => rw [hco] at hop; rw [hop] at hg2; cases hg2
          | some mo =>
            rw [hco] at hop
            simp only [Option.getD_some] at hop
            rw [hop] at hg2
            cases mo <;> simp only [isCv, Bool.false_eq_true] at hg2
            obtain ⟨c, x, h1, h2, h3, -, -⟩ := callv_inv hco
            have := hy _ (List.getElem_mem hi2)
            rw [h1] at this
            simp only [isCallV, h2] at this
            cases x <;> simp at this
            all_goals exact h3 _ rfl
        · simp [isCv] at hg2
      rw [if_neg (by simp [hnoY])] at he
      rw [Option.map_eq_some_iff] at he
      obtain ⟨st', he, rfl⟩ := he
      obtain ⟨E, E1, w1, T, hs, hr, hyl, hx, hn, hS1, hK1, hT, hJx, hJ, hdf⟩ := hR
      have key : ∀ a' w' E', Slots E' w' st'.s a' → HRel E' st'.h w' → Ext (lkn st.ln) E w E' w' → a'.defers = a.defers → Q .normal a' w' := fun a' w' E' h1 h2 h3 h4 =>
        hQ _ List.mem_cons_self a' w' ⟨E', E1, w1, T, h1, h2, by rw [h3.yl]; exact hyl, hx.trans h3, hn, hS1, hK1, hT, hJx, hJ, h4.trans hdf⟩
      exact draw_okV hm hO hA (virt_len (by rw [← q1]; simp)) (virt_comp hg) hv he hs hr key
    rename_i hd
    cases mc <;> simp [MC.strip] at h
    subst h
    intro st outs he hpre n a w Q hR hQ
    simp only [evI] at he
    split at he
    · rename_i hy2
      rw [Option.map_eq_some_iff] at he
      obtain ⟨l1, he, rfl⟩ := he
      cases draw with
      | false =>
        exact wpIn_region_list (evRI_ok hO hH hg he (fun st' h => hpre (.normal, st') (List.mem_map.2 ⟨st', h, rfl⟩)) hR fun st' h => hQ (.normal, st') (List.mem_map.2 ⟨st', h, rfl⟩))
      | true =>
        exfalso
        simp only [seqY, Bool.not_true, Bool.false_or, List.all_eq_true, Bool.not_eq_true'] at hy
        obtain ⟨g, hg1, hg2⟩ := List.any_eq_true.1 hy2
        obtain ⟨i, hi⟩ := List.getElem?_of_mem hg1
        obtain ⟨q1, q2⟩ := mapM_some hg
        have hi2 : i < ops.toList.length := by rw [q1]; exact (List.getElem?_eq_some_iff.1 hi).1
        have := q2 i ops.toList[i] g (by simp) hi
        have hop := compG_op this
        cases hco : compO P ops.toList[i] with
        | none => rw [hco] at hop; rw [hop] at hg2; cases hg2
        | some mo =>
          rw [hco] at hop
          simp only [Option.getD_some] at hop
          rw [hop] at hg2
          cases mo <;> simp only [isCv, Bool.false_eq_true] at hg2
          obtain ⟨c, x, h1, h2, h3, -, -⟩ := callv_inv hco
          have := hy _ (List.getElem_mem hi2)
          rw [h1] at this
          simp only [isCallV, h2] at this
          cases x <;> simp at this
          all_goals exact h3 _ rfl
    · rw [Option.map_eq_some_iff] at he
      obtain ⟨st', he, rfl⟩ := he
      obtain ⟨E, E1, w1, T, hs, hr, hyl, hx, hn, hS1, hK1, hT, hJx, hJ, hdf⟩ := hR
      have key : ∀ a' w' E', Slots E' w' st'.s a' → HRel E' st'.h w' → Ext (lkn st.ln) E w E' w' → a'.defers = a.defers → Q .normal a' w' := fun a' w' E' h1 h2 h3 h4 =>
        hQ _ List.mem_cons_self a' w' ⟨E', E1, w1, T, h1, h2, by rw [h3.yl]; exact hyl, hx.trans h3, hn, hS1, hK1, hT, hJx, hJ, h4.trans hdf⟩
      cases draw with
      | false => exact wpIn_region_list (evR_ok hO hg he hs hr key)
      | true => exact draw_ok hm hO hA hg (by simpa using hd) he hs hr key
  | seq a b iha ihb =>
    intro mc h hy
    simp only [compC] at h; cases mc <;> simp [MC.strip] at h
    simp only [seqY, Bool.and_eq_true] at hy
    intro st outs he hpre n a' w Q hR hQ
    simp only [evI] at he
    split at he
    case h_2 => cases he
    rename_i l1 hl1
    refine wpIn_seq (iha _ h.1 hy.1 st l1 hl1 (pre_cont (fun st outs h => evI_goes _ st outs h) he hpre) n a' w _ hR fun o ho a2 w2 hR2 => ?_)
    obtain ⟨r, h4, h5⟩ := bindL_some he o ho
    obtain ⟨x, st'⟩ := o
    cases x with
    | normal => exact ihb _ h.2 hy.2 st' r h4 (fun o ho => hpre o (h5 o ho)) n a2 w2 Q hR2 fun o ho => hQ o (h5 o ho)
    | exit id =>
      simp only [contI, Option.some.injEq] at h4
      subst h4
      exact hQ _ (h5 _ (by simp)) a2 w2 hR2
    | ret =>
      simp only [contI, Option.some.injEq] at h4
      subst h4
      exact hQ _ (h5 _ (by simp)) a2 w2 hR2
  | cond c a b iha ihb =>
    intro mc h hy
    simp only [compC] at h
    split at h
    case h_2 => exact bad _ mc h.symm
    rename_i c' hc
    cases mc <;> simp [MC.strip] at h
    obtain ⟨rfl, h1, h2⟩ := h
    simp only [seqY, Bool.and_eq_true] at hy
    intro st outs he hpre n a' w Q hR hQ
    simp only [evI] at he
    obtain ⟨E, hrest⟩ := hR
    have hv := (hrest.choose_spec.choose_spec.choose_spec.1).x hc
    split at he
    case h_2 => cases he
    rename_i t ht
    rw [ht] at hv
    refine wpIn_cond hv.lit_eq ?_
    cases t
    · exact ihb _ h2 hy.2 st outs he hpre n a' w Q ⟨E, hrest⟩ hQ
    · exact iha _ h1 hy.1 st outs he hpre n a' w Q ⟨E, hrest⟩ hQ
  | block id b ih =>
    intro mc h hy
    simp only [compC] at h; cases mc <;> simp [MC.strip] at h; obtain ⟨rfl, h⟩ := h
    simp only [seqY] at hy
    intro st outs he hpre n a' w Q hR hQ
    simp only [evI, Option.map_eq_some_iff] at he
    obtain ⟨l1, hl1, rfl⟩ := he
    have same : ∀ o : MX2 × ISt, (leaveB id o).2 = o.2 := fun o => by unfold leaveB; split; split <;> rfl; rfl
    refine wpIn_block (ih _ h hy st l1 hl1 (fun o ho hs => ?_) n a' w _ hR fun o ho a2 w2 hR2 => ?_)
    · have := hpre _ (List.mem_map.2 ⟨o, ho, rfl⟩)
      rw [same] at this
      exact this hs
    · have := hQ _ (List.mem_map.2 ⟨o, ho, rfl⟩) a2 w2 (by rw [same]; exact hR2)
      obtain ⟨x, st'⟩ := o
      cases x with
      | normal => simpa [leaveB, exitOf, Exit.inBlock] using this
      | ret => simpa [leaveB, exitOf, Exit.inBlock] using this
      | exit k =>
        by_cases e : k = id
        · simpa [leaveB, exitOf, Exit.inBlock, e] using this
        · simpa [leaveB, exitOf, Exit.inBlock, e] using this
  | loop b ih =>
    intro mc h hy
    simp only [compC] at h; cases mc <;> simp [MC.strip] at h
    simp only [seqY] at hy
    rename_i keep mb
    intro st outs he hpre n a' w Q hR hQ
    simp only [evI] at he
    refine wpIn_loop_rounds N ?_
    have key : ∀ (M : Nat) (st1 : ISt) (outs1 : List (MX2 × ISt)) (a1 : Act) (w1 : World), roundsI (evI O N mb) M st1 = some outs1 → (∀ o ∈ outs1, o.2.stop = false → o.2.xs <+: full) → RelI l S J Jx st1 a1 w1 → (∀ o ∈ outs1, ∀ a' w', RelI l S J Jx o.2 a' w' → Q (exitOf o.1) a' w') →
        Code.roundsIn (Fw none) n P b Q M a1 w1 := by
      intro M
      induction M with
      | zero => intro st1 outs1 a1 w1 he; simp [roundsI] at he
      | succ M ihM =>
        intro st1 outs1 a1 w1 he hpre hR1 hQ1
        simp only [roundsI] at he
        split at he
        case h_2 => cases he
        rename_i l1 hl1
        rw [roundsIn_succ]
        refine ih _ h hy st1 l1 hl1 (pre_cont (fun st outs h => Goes.rounds (fun st outs h => evI_goes _ st outs h) M st outs h) he hpre) n a1 w1 _ hR1 fun o ho a2 w2 hR2 => ?_
        obtain ⟨r, h4, h5⟩ := bindL_some he o ho
        obtain ⟨x, st'⟩ := o
        cases x with
        | normal => exact ihM st' r a2 w2 h4 (fun o ho => hpre o (h5 o ho)) hR2 fun o ho => hQ1 o (h5 o ho)
        | exit id =>
          simp only [contI, Option.some.injEq] at h4
          subst h4
          exact hQ1 _ (h5 _ (by simp)) a2 w2 hR2
        | ret =>
          simp only [contI, Option.some.injEq] at h4
          subst h4
          exact hQ1 _ (h5 _ (by simp)) a2 w2 hR2
    exact key N st outs a' w he hpre hR hQ
  | rangeFunc f ps a b iha ihb =>
    intro mc h hy
    simp only [compC] at h
    split at h
    case h_2 => exact bad _ mc h.symm
    cases mc <;> simp [MC.strip] at h
    intro st outs he
    simp [evI] at he
  | _ => intro mc h _; exact bad _ mc h.symm
end

end Go.Proofs.Ytgjpdjihjphbdaa

/- Answers by the program's own text: functions, iterators. -/
namespace Go.Proofs.Ytgjpdjihjphbdaa
open Go.RowKit

def outX : MX2 → Bool
  | .exit _ => false
  | _ => true
/-- What an iterator yields. -/
def itM (O : Oracle) (N : Nat) (mf : MF) (q : Nat) (caps : List MV) (h : MHeap) : Option (List (List MV)) :=
  let ids := caps.flatMap (MV.ids h 6)
  match caps.mapM (frz 0 ((List.range h.length).filter fun i => !ids.contains i) h 8) with
  | some cs => match mf.res, evI O N mf.body ⟨cs.take q ++ [.yld] ++ cs.drop q ++ List.replicate (mf.ntmps - (cs.length + 1)) (.lit undef), [], 0, [], false⟩ with
    | [], some outs => if outs.all fun o => outX o.1 then match outs.filter fun o => !o.2.stop with
        | [o] => if o.2.xs.all fun x => x.all MV.cl then some o.2.xs else none
        | _ => none
      else none
    | _, _ => none
  | none => none
def bodySeq (P : Program) (g : Nat) : Bool :=
  match P.funcs[g]? with
  | some fn => match fn.body with
    | some b => seqY b
    | none => false
  | none => false

theorem SoundI_one {P : Program} {O : Oracle} {N : Nat} (hm : P.follows .mixedOrders = true) (hO : SoundO P O) (hA : AppO O) {g : Nat} {mf : MF} (hf : IsF P g mf) (hsq : bodySeq P g = true) {q : Nat} {caps : List MV} {h : MHeap} {xs : List (List MV)} (he : itM O N mf q caps h = some xs) :
    (∀ x ∈ xs, ∀ m ∈ x, m.cl = true) ∧ ∀ E w vs, HRel E h w → Vs E w caps vs →
    ∃ S : Nat → Prop, (∀ k, S k → E.S k ∨ ∃ id, id ∈ caps.flatMap (MV.ids h 6) ∧ E.K id ∧ 0 < E.cp id ∧ E.ρ id = k) ∧ IterK P g (vs.take q).toArray (vs.drop q).toArray (xs.map fun x => (x.map concV).toArray) S w := by
  obtain ⟨fn, b, h1, h2, h3, h4, h5⟩ := hf
  have hsb : seqY b = true := by unfold bodySeq at hsq; rw [h1] at hsq; simp only [h2] at hsq; exact hsq
  unfold itM at he
  dsimp only at he
  split at he
  case h_2 => cases he
  rename_i cs hcs
  split at he
  case h_2 => cases he
  rename_i outs hres hev
  split at he
  case isFalse => cases he
  rename_i hout
  split at he
  case h_2 => cases he
  rename_i o hfil
  split at he
  case isFalse => cases he
  rename_i hcl
  cases he
  have hin : o ∈ outs ∧ o.2.stop = false := by
    have : o ∈ outs.filter fun o => !o.2.stop := by rw [hfil]; simp
    simpa using List.mem_filter.1 this
  have hone : ∀ p ∈ outs, p.2.stop = false → p = o := fun p hp hs => by
    have : p ∈ outs.filter fun o => !o.2.stop := List.mem_filter.2 ⟨hp, by simp [hs]⟩
    rw [hfil] at this
    simpa using this
  refine ⟨fun x hx m hmx => List.all_eq_true.1 (List.all_eq_true.1 hcl x hx) m hmx, fun E w vs hr hv => ⟨fun k => E.S k ∨ ∃ id, id ∈ caps.flatMap (MV.ids h 6) ∧ E.K id ∧ 0 < E.cp id ∧ E.ρ id = k, fun k hk => hk, ?_⟩⟩
  obtain ⟨S, hS⟩ : ∃ S : Nat → Prop, S = fun k => E.S k ∨ ∃ id, id ∈ caps.flatMap (MV.ids h 6) ∧ E.K id ∧ 0 < E.cp id ∧ E.ρ id = k := ⟨_, rfl⟩
  rw [← hS]
  intro l J Jx W hb ab abx hyield h0
  obtain ⟨Ei, hEi⟩ : ∃ Ei : Env, Ei = { E.res 0 with S := S, top := 0, yl := l } := ⟨_, rfl⟩
  have hVi : ∀ m v, V E w m v → m.lt 0 = true → V Ei w m v := fun m v hv hl => by
    have := V.resY l hv hl
    refine V.env ⟨fun b hb => ?_, fun id hk => ?_, ?_⟩ this
    · rw [hEi, hS]; exact Or.inl hb
    · rw [hEi]; exact ⟨hk, rfl, rfl, rfl, rfl, rfl, rfl, rfl⟩
    · rw [hEi]
  have hck : CK 0 w W := CK.of_below hb
  obtain ⟨c1, c2⟩ := mapM_some hcs
  have hcv : Vs Ei W cs vs := ⟨by rw [← c1]; exact hv.1, fun i c v hc hx => by
    have hi : i < caps.length := by rw [c1]; exact (List.getElem?_eq_some_iff.1 hc).1
    have hci : caps[i]? = some caps[i] := by simp
    refine V.ck hck (frz_okG (Es := Ei) hr hVi (fun b hb => by rw [hEi, hS]; exact Or.inl hb) (fun id hk _ hni hc0 => ?_) 8 _ _ _ (hv.2 i _ v hci hx) (c2 i _ c hci hc))
    rw [hEi, hS]
    refine Or.inr ⟨id, ?_, hk, hc0, rfl⟩
    have hlt := hr.klt id hk
    refine Classical.byContradiction fun hn => hni (List.mem_filter.2 ⟨List.mem_range.2 hlt, ?_⟩)
    simpa using hn⟩
  have hSlt : ∀ k, S k → k < w.heap.size := fun k hk => by
    rw [hS] at hk
    rcases hk with hk | ⟨id, _, hk, hc, rfl⟩
    · exact hr.slt k hk
    · exact hr.lt hk hc
  have hri : HRel Ei [] W := ⟨fun id hk => by rw [hEi] at hk; exact absurd hk.2 (by omega), by rw [hEi]; exact Nat.le_refl _, fun id hk => by rw [hEi] at hk; exact absurd hk.2 (by omega), fun id _ hk => by rw [hEi] at hk; exact absurd hk.2 (by omega), fun id hk => by rw [hEi] at hk; exact absurd hk.2 (by omega), fun b hbS => by
    rw [hEi] at hbS
    exact Nat.lt_of_lt_of_le (hSlt b hbS) hb.size⟩
  have hargs : Vs Ei W (cs.take q ++ [.yld] ++ cs.drop q) (vs.take q ++ [.func (.yield l) #[] #[]] ++ vs.drop q) := by
    refine ((hcv.take q).append (Vs.cons ?_ ⟨rfl, fun i c v hc => by simp at hc⟩)).append (hcv.drop q)
    have : Ei.yl = l := by rw [hEi]
    rw [← this]
    exact .yld
  have hlen : (cs.take q ++ [MV.yld] ++ cs.drop q).length = cs.length + 1 := by simp; omega
  have hlen2 : (vs.take q ++ [Value.func (.yield l) #[] #[]] ++ vs.drop q).length = vs.length + 1 := by simp; omega
  have e1 : (vs.take q).toArray ++ #[Value.func (.yield l) #[] #[]] ++ (vs.drop q).toArray = (vs.take q ++ [Value.func (.yield l) #[] #[]] ++ vs.drop q).toArray := by apply Array.ext'; simp
  rw [e1]
  refine callsIn_of_wp h1 h2 trivial ?_ rfl
  refine compC_itok (full := o.2.xs) (l := l) (S := S) (J := J) (Jx := Jx) (N := N) hm hO hA ⟨ab, abx, hyield⟩ b mf.body h5 hsb _ outs hev (fun p hp hs => by rw [hone p hp hs]; exact List.prefix_refl _) 0 _ W _ ?_ fun p hp a' w' hR' => ?_
  · refine ⟨Ei, Ei, W, fun _ => False, ⟨?_, fun i c v hc hcv' => ?_⟩, hri, by rw [hEi], Ext.refl _ _ _, fun id hk => by rw [hEi] at hk; exact hk.2, fun b hbS => .inl (by rw [hEi] at hbS; exact hbS), fun id hk => by rw [hEi] at hk; exact absurd hk.2 (by omega), fun b hb => hb.elim, (fun h => by cases h), (fun _ => h0), rfl⟩
    · rw [List.length_append, hlen, h3]
      simp only [List.length_replicate, Array.size_append, List.size_toArray, hlen2, Array.size_replicate]
      rw [hcv.1]
    · by_cases hi : i < cs.length + 1
      · rw [List.getElem?_append_left (by rw [hlen]; exact hi)] at hc
        have hi' : i < (vs.take q ++ [Value.func (.yield l) #[] #[]] ++ vs.drop q).length := by rw [hlen2, ← hcv.1]; exact hi
        simp only [Array.getElem?_append, List.size_toArray, hi', if_true] at hcv'
        exact hargs.2 i c v hc (by simpa using hcv')
      · rw [List.getElem?_append_right (by rw [hlen]; omega)] at hc
        have hi' : ¬ i < (vs.take q ++ [Value.func (.yield l) #[] #[]] ++ vs.drop q).length := by rw [hlen2, ← hcv.1]; exact hi
        simp only [Array.getElem?_append, List.size_toArray, hi', if_false] at hcv'
        rw [List.getElem?_replicate] at hc
        rw [Array.getElem?_replicate] at hcv'
        split at hc
        · split at hcv'
          · cases hc; cases hcv'; exact .lit _
          · cases hcv'
        · cases hc
  · obtain ⟨E', E1, w1, T, k1, k2, k3, k4, k5, k6, k7, k8, k9, k10, k11⟩ := hR'
    have hbel := ext_below k4 k5
    have hrz : fn.results = #[] := by
      rw [hres] at h4
      have := (mapM_some h4).1
      simp at this
      exact this
    have hgo : (∃ v, Ending.returned (.tuple #[]) = .returned v) ∧ ((∃ T, J T (List.map (fun x => (List.map concV x).toArray) o.2.xs).length w') ∨ Jx w') := by
      refine ⟨⟨_, rfl⟩, ?_⟩
      cases hs : p.2.stop
      · have := hone p hp hs
        subst this
        refine .inl ⟨T, ?_⟩
        rw [List.length_map]
        exact ab T T _ _ _ (k10 hs) hbel fun b h => .inl h
      · exact .inr (abx _ _ (k9 hs) hbel)
    have hx := List.all_eq_true.1 hout p hp
    obtain ⟨x, st'⟩ := p
    cases x with
    | normal => exact bodyPost_end (results_none hrz _ _ _) k11 hgo
    | ret => exact bodyPost_ret (results_none hrz _ _ _) k11 hgo
    | exit id => simp [outX] at hx

/-- Answers by fuel: a table first, then the program's text. -/
structure Tab where
  mf : Nat → Option MF
  sq : Nat → Bool
def orI (M : Tab) (I0 : Iter) (O : Oracle) (N : Nat) : Iter := fun g q caps h =>
  match I0 g q caps h with
  | some xs => some xs
  | none => if M.sq g then match M.mf g with
    | some mf => itM O N mf q caps h
    | none => none else none
def orF (M : Tab) (T : Oracle) (I0 : Iter) (N : Nat) : Nat → Oracle
  | 0, f, args, h => T f args h
  | k + 1, f, args, h => match T f args h with
    | some r => some r
    | none => match M.mf f with
      | some mf => runF (orF M T I0 N k) (orI M I0 (orF M T I0 N k) N) N mf args h
      | none => none
/-- The table holds the program's functions. -/
def TabOK (P : Program) (M : Tab) : Prop := ∀ f mf, M.mf f = some mf → hasBody P f = true ∧ IsF P f mf ∧ (M.sq f = true → bodySeq P f = true)

theorem orI_ok {P : Program} {M : Tab} (hm : P.follows .mixedOrders = true) (hM : TabOK P M) {I0 : Iter} (hI : SoundI P I0) {O : Oracle} (hO : SoundO P O) (hA : AppO O) {N : Nat} : SoundI P (orI M I0 O N) := by
  intro g q caps h xs he
  unfold orI at he
  split at he
  · rename_i xs' hx
    cases he
    exact hI g q caps h xs hx
  · split at he
    case isFalse => cases he
    rename_i hs
    split at he
    case h_2 => cases he
    rename_i mf hmf
    obtain ⟨k1, k2, k3⟩ := hM g mf hmf
    exact ⟨k1, SoundI_one hm hO hA k2 (k3 hs) he⟩
theorem orF_ok {P : Program} {M : Tab} (hm : P.follows .mixedOrders = true) (hM : TabOK P M) {T : Oracle} {I0 : Iter} (hT : SoundO P T) (hTA : AppO T) (hI : SoundI P I0) {N : Nat} : ∀ k, SoundO P (orF M T I0 N k) ∧ AppO (orF M T I0 N k)
  | 0 => ⟨hT, hTA⟩
  | k + 1 => by
    obtain ⟨h1, h2⟩ := orF_ok (N := N) hm hM hT hTA hI k
    have hI' : SoundI P (orI M I0 (orF M T I0 N k) N) := orI_ok hm hM hI h1 h2
    refine ⟨fun f args h m h' he => ?_, fun f args h m h' he => ?_⟩
    · simp only [orF] at he
      split at he
      · rename_i r hr
        cases he
        exact hT f args h m h' hr
      · split at he
        case h_2 => cases he
        rename_i mf hmf
        obtain ⟨k1, k2, k3⟩ := hM f mf hmf
        exact ⟨k1, fun E w vs hr hv => runF_ok hm h1 h2 hI' k2 he hr hv⟩
    · simp only [orF] at he
      split at he
      · rename_i r hr
        cases he
        exact hTA f args h m h' hr
      · split at he
        case h_2 => cases he
        exact runF_app he

def noO : Oracle := fun _ _ _ => none
def noI : Iter := fun _ _ _ _ => none
theorem noO_ok (P : Program) : SoundO P noO := fun f args h m h' he => by cases he
theorem noO_app : AppO noO := fun f args h m h' he => by cases he
theorem noI_ok (P : Program) : SoundI P noI := fun g q caps h xs he => by cases he

/-- The table of a program. -/
def tabOf (P : Program) : Tab := ⟨fun f => if hasBody P f then compF P f else none, bodySeq P⟩
theorem tabOf_ok (P : Program) : TabOK P (tabOf P) := fun f mf h => by
  simp only [tabOf] at h
  split at h
  · rename_i hb
    exact ⟨hb, compF_isF h, fun h => h⟩
  · cases h

end Go.Proofs.Ytgjpdjihjphbdaa

/- Calls with a memory of their own: arguments that are frozen, an empty memory. -/
namespace Go.Proofs.Ytgjpdjihjphbdaa
open Go.RowKit
set_option linter.unusedVariables false

mutual
/-- Speaks of no memory. -/
def MV.pure : MV → Bool
  | .lit _ | .junk => true
  | .agg cs => pureL cs
  | .tup vs => pureL vs
  | .fn _ _ cs => pureL cs
  | .sl [] => true
  | _ => false
def pureL : List MV → Bool
  | [] => true
  | v :: vs => v.pure && pureL vs
end
theorem pureL_at : ∀ {l : List MV}, pureL l = true → ∀ (i : Nat) m, l[i]? = some m → m.pure = true
  | [], h, i, m, hi => by simp at hi
  | v :: vs, h, 0, m, hi => by simp at hi; subst hi; simp only [pureL, Bool.and_eq_true] at h; exact h.1
  | v :: vs, h, i + 1, m, hi => by simp at hi; simp only [pureL, Bool.and_eq_true] at h; exact pureL_at h.2 i m hi
theorem V.pure {E E2 : Env} {w w2 : World} {m : MV} {v : Value} (hv : V E w m v) : m.pure = true → V E2 w2 m v := by
  induction hv with
  | junk v => exact fun _ => .junk v
  | lit v => exact fun _ => .lit v
  | agg cs vs hl _ ih => exact fun h => .agg cs vs hl fun i c v hc hx => ih i c v hc hx (by simp only [MV.pure] at h; exact pureL_at h i c hc)
  | tup cs vs hl _ ih => exact fun h => .tup cs vs hl fun i c v hc hx => ih i c v hc hx (by simp only [MV.pure] at h; exact pureL_at h i c hc)
  | fn f k cs vs hl _ ih => exact fun h => .fn f k cs vs hl fun i c v hc hx => ih i c v hc hx (by simp only [MV.pure] at h; exact pureL_at h i c hc)
  | sl es vs A cap sz hc hs hl _ _ _ =>
    intro h
    cases es with
    | nil => exact .sl [] vs A cap sz hc hs hl (fun i c v hc => by simp [flat] at hc) (fun h0 => absurd h0 (by simp))
    | cons e es => simp [MV.pure] at h
  | _ => intro h; simp [MV.pure] at h
theorem pure_cells {m : MV} (h : m.pure = true) : ∀ (i : Nat) c, m.cells[i]? = some c → c.pure = true := by
  intro i c hc
  cases m <;> simp only [MV.cells] at hc
  case agg cs => simp only [MV.pure] at h; exact pureL_at h i c hc
  all_goals
    cases i with
    | zero => simp at hc; subst hc; exact h
    | succ i => simp at hc

def sh1 (n : Nat) : MV → MV
  | .arr id i k g => .arr (id + n) i k g
  | m => m
def shV (n : Nat) : MV → MV
  | .tup vs => .tup (vs.map (sh1 n))
  | m => sh1 n m
def ok1 (p : Bool) : MV → Bool
  | .arr _ _ _ _ => true
  | m => m.lt 0 && (p || m.pure)
def okV (p : Bool) : MV → Bool
  | .tup vs => vs.all (ok1 p)
  | m => ok1 p m
def okH (p : Bool) (news : MHeap) : Bool := news.all fun o => ltL 0 o.es && (p || pureL o.es)
/-- A call with frozen arguments, and a memory of its own. -/
def frzCall (run : List MV → Option (MV × MHeap)) (args : List MV) (h : MHeap) : Option (MV × MHeap) :=
  match args.mapM (frz 0 [] h 8) with
  | some args' => match run args' with
    | some (m, news) => if okV (ltL 0 args) m && okH (ltL 0 args) news then some (shV h.length m, h ++ news) else none
    | none => none
  | none => none

/-- What a call hands back. -/
def Post (E : Env) (w : World) (m : MV) (h' : MHeap) (e : Ending) (w' : World) : Prop := ∃ v E', e = .returned v ∧ V E' w' m v ∧ HRel E' h' w' ∧ Ext (fun _ => true) E w E' w'

theorem frz_lt0 {h : MHeap} {m m' : MV} (hl : m.lt 0 = true) (he : frz 0 [] h 8 m = some m') : m' = m := by
  simp [frz, hl] at he
  exact he.symm

theorem post_back {E : Env} {h : MHeap} {w : World} {S0 : Nat → Prop} {news : MHeap} {m : MV} {e : Ending} {w' : World} {p : Bool} (hr : HRel E h w) (h1 : ∀ b, E.S b → S0 b) (h2 : ∀ b, S0 b → E.S b ∨ ∃ id, E.K id ∧ 0 < E.cp id ∧ E.ρ id = b)
    (hp : p = true → ∀ b, S0 b → E.S b) (hm : okV p m = true) (hn : okH p news = true) (hP : Post { E with K := fun _ => False, S := S0, top := 0 } w m news e w') : Post E w (shV h.length m) (h ++ news) e w' := by
  obtain ⟨v, E1, rfl, hv1, hr1, hx1⟩ := hP
  have hnew : ∀ id, E1.K id → 0 < E1.cp id → w.heap.size ≤ E1.ρ id := fun id hk hc => by
    rcases hx1.src id hk hc with ⟨hf, _⟩ | hge
    · exact hf.elim
    · exact hge
  have hkeep : ∀ k, k < w.heap.size → w'.heap[k]? = w.heap[k]? := fun k hk => hx1.keep k hk fun id hf => hf.elim
  have hS1 : ∀ b, E1.S b → S0 b ∨ w.heap.size ≤ b := fun b hb => by
    rcases hx1.srcS b hb with hb | ⟨id, hf, _⟩ | hb
    · exact .inl hb
    · exact hf.elim
    · exact .inr hb
  obtain ⟨E', hE'⟩ : ∃ E' : Env, E' = { S := fun b => E.S b ∨ (p = true ∧ E1.S b), K := fun id => E.K id ∨ (h.length ≤ id ∧ E1.K (id - h.length)), ρ := fun id => if id < h.length then E.ρ id else E1.ρ (id - h.length), bo := fun id => if id < h.length then E.bo id else E1.bo (id - h.length), cp := fun id => if id < h.length then E.cp id else E1.cp (id - h.length), sz := fun id => if id < h.length then E.sz id else E1.sz (id - h.length), gn := fun id => if id < h.length then E.gn id else E1.gn (id - h.length), ln := fun id => if id < h.length then E.ln id else E1.ln (id - h.length), nl := fun id => if id < h.length then E.nl id else E1.nl (id - h.length), top := E.top, yl := E.yl } := ⟨_, rfl⟩
  have eS : ∀ b, E'.S b ↔ E.S b ∨ (p = true ∧ E1.S b) := fun b => by rw [hE']
  have eK : ∀ id, E'.K id ↔ E.K id ∨ (h.length ≤ id ∧ E1.K (id - h.length)) := fun id => by rw [hE']
  have eold : ∀ id, E.K id → id < h.length ∧ E'.ρ id = E.ρ id ∧ E'.bo id = E.bo id ∧ E'.cp id = E.cp id ∧ E'.sz id = E.sz id ∧ E'.gn id = E.gn id ∧ E'.ln id = E.ln id ∧ E'.nl id = E.nl id := fun id hk => by
    have hl := hr.klt id hk
    rw [hE']; simp [hl]
  have enew : ∀ id, E'.ρ (id + h.length) = E1.ρ id ∧ E'.bo (id + h.length) = E1.bo id ∧ E'.cp (id + h.length) = E1.cp id ∧ E'.sz (id + h.length) = E1.sz id ∧ E'.gn (id + h.length) = E1.gn id ∧ E'.ln (id + h.length) = E1.ln id ∧ E'.nl (id + h.length) = E1.nl id := fun id => by
    have hl : ¬ id + h.length < h.length := by omega
    rw [hE']; simp [hl]
  have kcase : ∀ id, E'.K id → E.K id ∨ ∃ j, id = j + h.length ∧ E1.K j := fun id hk => by
    rcases (eK id).1 hk with hk | ⟨h1, h2⟩
    · exact .inl hk
    · exact .inr ⟨id - h.length, by omega, h2⟩
  have ey : E'.yl = E1.yl := by rw [hx1.yl, hE']
  have ey2 : E'.yl = E.yl := by rw [hE']
  have et : E'.top = E.top := by rw [hE']
  have hx : Ext (fun _ => true) E w E' w' := by
    refine ⟨hx1.os, hx1.tape, hx1.output, hx1.size, fun k hk _ => hkeep k hk, fun b hb => (eS b).2 (.inl hb), fun id hk => (eK id).2 (.inl hk), fun id hk => ?_, fun id hk _ => ?_, fun id hk hc => ?_, et, fun id hk => ?_, ey2, fun b hb => ?_⟩
    · obtain ⟨_, a1, a2, a3, a4, a5, a6, a7⟩ := eold id hk
      exact ⟨by omega, fun _ => ⟨a1, a2, a3, a4, a6, a7⟩⟩
    · exact (eold id hk).2.2.2.2.2.1
    · rcases kcase id hk with hk | ⟨j, rfl, hk'⟩
      · obtain ⟨_, a1, a2, a3, a4, a5, a6, a7⟩ := eold id hk
        exact .inl ⟨hk, by rw [← a3]; exact hc, a1⟩
      · obtain ⟨a1, a2, a3, _⟩ := enew j
        rw [a1]
        exact .inr (hnew j hk' (by rw [← a3]; exact hc))
    · rcases kcase id hk with hk | ⟨j, rfl, hk'⟩
      · exact .inl hk
      · exact .inr (by have := hr.top; omega)
    · rcases (eS b).1 hb with hb | ⟨hp1, hb⟩
      · exact .inl hb
      · rcases hS1 b hb with hb | hb
        · exact .inl (hp hp1 b hb)
        · exact .inr (.inr hb)
  have hT : ∀ c x, V E1 w' c x → c.lt 0 = true → (p || c.pure) = true → V E' w' c x := fun c x hc hl hpc => by
    cases hpp : p
    · rw [hpp] at hpc
      exact hc.pure (by simpa using hpc)
    · exact V.env (E := E1.res 0) ⟨fun b hb => (eS b).2 (.inr ⟨hpp, hb⟩), fun id hk => absurd hk.2 (by omega), ey⟩ (hc.res hl)
  have hT1 : ∀ c x, V E1 w' c x → ok1 p c = true → V E' w' (sh1 h.length c) x := fun c x hc ho => by
    cases c with
    | arr id i k g =>
      cases hc with
      | arr _ _ _ _ A cap hk hg hd =>
        obtain ⟨a1, a2, a3, a4, a5, a6, a7⟩ := enew id
        refine .arr _ _ _ _ A cap ((eK _).2 (.inr ⟨by omega, by rw [Nat.add_sub_cancel]; exact hk⟩)) (by rw [a5]; exact hg) fun e => ?_
        rw [a1, a2, a3, a4, a6, a7]
        exact hd (by rw [← a5]; exact e)
    | _ =>
      simp only [ok1, Bool.and_eq_true] at ho
      exact hT _ x hc ho.1 ho.2
  have hV : V E' w' (shV h.length m) v := by
    cases m with
    | tup vs =>
      cases hv1 with
      | tup _ us hl hc =>
        refine .tup _ us (by simpa using hl) fun i c x hci hx => ?_
        rw [List.getElem?_map, Option.map_eq_some_iff] at hci
        obtain ⟨c0, h0, rfl⟩ := hci
        exact hT1 c0 x (hc i c0 x h0 hx) (List.all_eq_true.1 hm c0 (List.mem_of_getElem? h0))
    | _ => exact hT1 _ v hv1 hm
  refine ⟨v, E', rfl, hV, ⟨fun id hk => ?_, ?_, fun id hk => ?_, fun i j hi hj ci cj e => ?_, fun id hk hc hb => ?_, fun b hb => ?_⟩, hx⟩
  · rcases kcase id hk with hk | ⟨j, rfl, hk'⟩
    · have := hr.klt id hk; simp; omega
    · have := hr1.klt j hk'; simp; omega
  · rw [et]; have := hr.top; simp; omega
  · rcases kcase id hk with hk | ⟨j, rfl, hk'⟩
    · obtain ⟨es, o1, o2, o3, o4, o5⟩ := hr.obj id hk
      obtain ⟨hl, a1, a2, a3, a4, a5, a6, a7⟩ := eold id hk
      rw [a1, a2, a3, a4, a5, a6, a7]
      refine ⟨es, by rw [List.getElem?_append_left hl]; exact o1, o2, o3, o4, fun hc => ?_⟩
      obtain ⟨arr, t, b1, b2, b3⟩ := o5 hc
      refine ⟨arr, t, by rw [hkeep _ (hr.lt hk hc)]; exact b1, b2, fun k c hkc => ?_⟩
      obtain ⟨x, c1, c2⟩ := b3 k c hkc
      exact ⟨x, c1, c2.ext hr hx⟩
    · obtain ⟨es, o1, o2, o3, o4, o5⟩ := hr1.obj j hk'
      obtain ⟨a1, a2, a3, a4, a5, a6, a7⟩ := enew j
      rw [a1, a2, a3, a4, a5, a6, a7]
      have hok : (ltL 0 es && (p || pureL es)) = true := List.all_eq_true.1 hn _ (List.mem_of_getElem? o1)
      simp only [Bool.and_eq_true, Bool.or_eq_true] at hok
      refine ⟨es, by rw [List.getElem?_append_right (by omega), Nat.add_sub_cancel]; exact o1, o2, o3, o4, fun hc => ?_⟩
      obtain ⟨arr, t, b1, b2, b3⟩ := o5 hc
      refine ⟨arr, t, b1, b2, fun k c hkc => ?_⟩
      obtain ⟨x, c1, c2⟩ := b3 k c hkc
      obtain ⟨ei, hei, hci⟩ := List.mem_flatMap.1 (List.mem_of_getElem? hkc)
      obtain ⟨i1, hi1⟩ := List.getElem?_of_mem hei
      obtain ⟨i2, hi2⟩ := List.getElem?_of_mem hci
      refine ⟨x, c1, hT c x c2 (lt_cells (ltL_at hok.1 i1 ei hi1) i2 c hi2) ?_⟩
      rcases hok.2 with hp1 | hp1
      · simp [hp1]
      · simp [pure_cells (pureL_at hp1 i1 ei hi1) i2 c hi2]
  · rcases kcase i hi with hi | ⟨i', rfl, hi'⟩
    · rcases kcase j hj with hj | ⟨j', rfl, hj'⟩
      · obtain ⟨_, a1, _, a3, _⟩ := eold i hi
        obtain ⟨_, b1, _, b3, _⟩ := eold j hj
        rw [a3] at ci; rw [b3] at cj; rw [a1, b1] at e
        exact hr.inj i j hi hj ci cj e
      · obtain ⟨_, a1, _, a3, _⟩ := eold i hi
        obtain ⟨b1, _, b3, _⟩ := enew j'
        rw [a3] at ci; rw [b3] at cj; rw [a1, b1] at e
        have := hr.lt hi ci
        have := hnew j' hj' cj
        omega
    · rcases kcase j hj with hj | ⟨j', rfl, hj'⟩
      · obtain ⟨a1, _, a3, _⟩ := enew i'
        obtain ⟨_, b1, _, b3, _⟩ := eold j hj
        rw [a3] at ci; rw [b3] at cj; rw [a1, b1] at e
        have := hr.lt hj cj
        have := hnew i' hi' ci
        omega
      · obtain ⟨a1, _, a3, _⟩ := enew i'
        obtain ⟨b1, _, b3, _⟩ := enew j'
        rw [a3] at ci; rw [b3] at cj; rw [a1, b1] at e
        rw [hr1.inj i' j' hi' hj' ci cj e]
  · rcases kcase id hk with hk | ⟨j, rfl, hk'⟩
    · obtain ⟨_, a1, _, a3, _⟩ := eold id hk
      rw [a3] at hc; rw [a1] at hb
      have hlt := hr.lt hk hc
      rcases (eS _).1 hb with hb | ⟨hp1, hb⟩
      · exact hr.sep id hk hc hb
      · rcases hS1 _ hb with hb | hb
        · exact hr.sep id hk hc (hp hp1 _ hb)
        · omega
    · obtain ⟨a1, _, a3, _⟩ := enew j
      rw [a3] at hc; rw [a1] at hb
      rcases (eS _).1 hb with hb | ⟨hp1, hb⟩
      · have := hr.slt _ hb
        have := hnew j hk' hc
        omega
      · exact hr1.sep j hk' hc hb
  · rcases (eS _).1 hb with hb | ⟨hp1, hb⟩
    · exact Nat.lt_of_lt_of_le (hr.slt b hb) hx1.size
    · exact hr1.slt b hb

theorem frzCall_ok {P : Program} {f : Nat} {run : List MV → Option (MV × MHeap)} (hrun : ∀ args' m news, run args' = some (m, news) → ∀ E w vs, HRel E [] w → Vs E w args' vs → Calls P f vs.toArray w (Post E w m news))
    {args : List MV} {h h' : MHeap} {m : MV} (he : frzCall run args h = some (m, h')) {E : Env} {w : World} {vs : List Value} (hr : HRel E h w) (hv : Vs E w args vs) : Calls P f vs.toArray w (Post E w m h') := by
  unfold frzCall at he
  split at he
  case h_2 => cases he
  rename_i args' hargs
  split at he
  case h_2 => cases he
  rename_i m0 news hm
  split at he
  case isFalse => cases he
  rename_i hok
  simp only [Bool.and_eq_true] at hok
  cases he
  obtain ⟨q1, q2⟩ := mapM_some hargs
  by_cases hA : ltL 0 args = true
  · rw [hA] at hok
    have hv' : Vs { E with K := fun _ => False, S := E.S, top := 0 } w args' vs := by
      refine ⟨by rw [← q1]; exact hv.1, fun i c x hc hx => ?_⟩
      have hi : i < args.length := by rw [q1]; exact (List.getElem?_eq_some_iff.1 hc).1
      have hci : args[i]? = some args[i] := by simp
      have hl := ltL_at hA i _ hci
      rw [frz_lt0 hl (q2 i _ c hci hc)]
      exact V.env (E := E.res 0) (E2 := { E with K := fun _ => False, S := E.S, top := 0 }) ⟨fun b hb => hb, fun id hk => absurd hk.2 (by omega), rfl⟩ ((hv.2 i _ x hci hx).res hl)
    have hri : HRel { E with K := fun _ => False, S := E.S, top := 0 } [] w := ⟨fun _ hk => hk.elim, Nat.le_refl _, fun _ hk => hk.elim, fun _ _ hk => hk.elim, fun _ hk => hk.elim, hr.slt⟩
    exact (hrun args' m0 news hm _ w vs hri hv').mono fun e w' hP => post_back hr (fun b hb => hb) (fun b hb => .inl hb) (fun _ b hb => hb) hok.1 hok.2 hP
  · have hA' : ltL 0 args = false := by simpa using hA
    rw [hA'] at hok
    obtain ⟨S0, hS0⟩ : ∃ S0 : Nat → Prop, S0 = fun b => E.S b ∨ ∃ id, E.K id ∧ 0 < E.cp id ∧ E.ρ id = b := ⟨_, rfl⟩
    have hv' : Vs { E with K := fun _ => False, S := S0, top := 0 } w args' vs := by
      refine ⟨by rw [← q1]; exact hv.1, fun i c x hc hx => ?_⟩
      have hi : i < args.length := by rw [q1]; exact (List.getElem?_eq_some_iff.1 hc).1
      have hci : args[i]? = some args[i] := by simp
      refine frz_okG (Es := { E with K := fun _ => False, S := S0, top := 0 }) hr (fun m v hv hl => V.env (E := E.res 0) (E2 := { E with K := fun _ => False, S := S0, top := 0 }) ⟨fun b hb => (by rw [hS0]; exact .inl hb : S0 b), fun id hk => absurd hk.2 (by omega), rfl⟩ (hv.res hl)) (fun b hb => ?_) (fun id hk _ _ hc0 => ?_) 8 _ _ _ (hv.2 i _ x hci hx) (q2 i _ c hci hc)
      · show S0 b
        rw [hS0]; exact .inl hb
      · show S0 (E.ρ id)
        rw [hS0]; exact .inr ⟨id, hk, hc0, rfl⟩
    have hri : HRel { E with K := fun _ => False, S := S0, top := 0 } [] w := ⟨fun _ hk => hk.elim, Nat.le_refl _, fun _ hk => hk.elim, fun _ _ hk => hk.elim, fun _ hk => hk.elim, fun b hb => by
      have hb : S0 b := hb
      rw [hS0] at hb
      rcases hb with hb | ⟨id, hk, hc, rfl⟩
      · exact hr.slt b hb
      · exact hr.lt hk hc⟩
    exact (hrun args' m0 news hm _ w vs hri hv').mono fun e w' hP => post_back hr (fun b hb => by rw [hS0]; exact .inl hb) (fun b hb => by rw [hS0] at hb; exact hb) (fun h => by cases h) hok.1 hok.2 hP

theorem frzCall_app {run : List MV → Option (MV × MHeap)} {args : List MV} {h h' : MHeap} {m : MV} (he : frzCall run args h = some (m, h')) : ∃ t, h' = h ++ t := by
  unfold frzCall at he
  split at he
  · split at he
    · split at he
      · cases he; exact ⟨_, rfl⟩
      · cases he
    · cases he
  · cases he

/-- The program's answers, by the depth of calls: first with a memory of their own (a table, then the text), then as they are. -/
def runZ (M : Tab) (O : Oracle) (I : Iter) (N f : Nat) (args : List MV) (h : MHeap) : Option (MV × MHeap) :=
  match M.mf f with
  | some mf => runF O I N mf args h
  | none => none
def tabZ (M : Tab) (T O : Oracle) (I : Iter) (N f : Nat) (args : List MV) : Option (MV × MHeap) :=
  match T f args [] with
  | some r => some r
  | none => runZ M O I N f args []
def orZ (M : Tab) (T : Oracle) (I0 : Iter) (N : Nat) : Nat → Oracle
  | 0, _, _, _ => none
  | k + 1, f, args, h => match frzCall (tabZ M T (orZ M T I0 N k) (orI M I0 (orZ M T I0 N k) N) N f) args h with
    | some r => some r
    | none => runZ M (orZ M T I0 N k) (orI M I0 (orZ M T I0 N k) N) N f args h

theorem runZ_ok {P : Program} {M : Tab} (hm : P.follows .mixedOrders = true) (hM : TabOK P M) {O : Oracle} {I : Iter} (hO : SoundO P O) (hA : AppO O) (hI : SoundI P I) {N f : Nat} {args : List MV} {h h' : MHeap} {m : MV} (he : runZ M O I N f args h = some (m, h')) :
    hasBody P f = true ∧ ∀ E w vs, HRel E h w → Vs E w args vs → Calls P f vs.toArray w (Post E w m h') := by
  unfold runZ at he
  split at he
  case h_2 => cases he
  rename_i mf hmf
  obtain ⟨k1, k2, k3⟩ := hM f mf hmf
  exact ⟨k1, fun E w vs hr hv => runF_ok hm hO hA hI k2 he hr hv⟩
theorem runZ_app {M : Tab} {O : Oracle} {I : Iter} {N f : Nat} {args : List MV} {h h' : MHeap} {m : MV} (he : runZ M O I N f args h = some (m, h')) : ∃ t, h' = h ++ t := by
  unfold runZ at he
  split at he
  case h_2 => cases he
  exact runF_app he
theorem tabZ_ok {P : Program} {M : Tab} (hm : P.follows .mixedOrders = true) (hM : TabOK P M) {T O : Oracle} {I : Iter} (hT : SoundO P T) (hO : SoundO P O) (hA : AppO O) (hI : SoundI P I) {N f : Nat} {args : List MV} {h' : MHeap} {m : MV} (he : tabZ M T O I N f args = some (m, h')) :
    hasBody P f = true ∧ ∀ E w vs, HRel E [] w → Vs E w args vs → Calls P f vs.toArray w (Post E w m h') := by
  unfold tabZ at he
  split at he
  · rename_i r hr
    cases he
    exact hT f args [] m h' hr
  · exact runZ_ok hm hM hO hA hI he

theorem orZ_ok {P : Program} {M : Tab} (hm : P.follows .mixedOrders = true) (hM : TabOK P M) {T : Oracle} {I0 : Iter} (hT : SoundO P T) (hI : SoundI P I0) {N : Nat} : ∀ k, SoundO P (orZ M T I0 N k) ∧ AppO (orZ M T I0 N k)
  | 0 => ⟨fun f args h m h' he => by simp [orZ] at he, fun f args h m h' he => by simp [orZ] at he⟩
  | k + 1 => by
    obtain ⟨h1, h2⟩ := orZ_ok (N := N) hm hM hT hI k
    have hI' : SoundI P (orI M I0 (orZ M T I0 N k) N) := orI_ok hm hM hI h1 h2
    refine ⟨fun f args h m h' he => ?_, fun f args h m h' he => ?_⟩
    · simp only [orZ] at he
      split at he
      · rename_i r hr
        cases he
        have hb : hasBody P f = true := by
          unfold frzCall at hr
          split at hr
          case h_2 => cases hr
          split at hr
          case h_2 => cases hr
          rename_i hrun
          exact (tabZ_ok hm hM hT h1 h2 hI' hrun).1
        exact ⟨hb, fun E w vs hrl hv => frzCall_ok (fun args' m news hrun => (tabZ_ok hm hM hT h1 h2 hI' hrun).2) hr hrl hv⟩
      · exact runZ_ok hm hM h1 h2 hI' he
    · simp only [orZ] at he
      split at he
      · rename_i r hr
        cases he
        exact frzCall_app hr
      · exact runZ_app he

/-- How a call is answered. -/
theorem orZ_call {M : Tab} {T : Oracle} {I0 : Iter} {N k f : Nat} {args args' : List MV} {h : MHeap} {m : MV} {news : MHeap} (h1 : args.mapM (frz 0 [] h 8) = some args') (h2 : tabZ M T (orZ M T I0 N k) (orI M I0 (orZ M T I0 N k) N) N f args' = some (m, news))
    (h3 : okV (ltL 0 args) m = true) (h4 : okH (ltL 0 args) news = true) : orZ M T I0 N (k + 1) f args h = some (shV h.length m, h ++ news) := by
  simp only [orZ, frzCall, h1, h2, h3, h4, Bool.and_self, if_true]

end Go.Proofs.Ytgjpdjihjphbdaa
