/- Contracts: the program's check of a net. -/
import Derived.Shelf.SlSortCmp.NoneTotal
import Derived.Shelf.SlLaysC2
import Derived.Shelf.SlicesG.Cmp
import Derived.Test.YtbdleggmdbihnaaChecked
import Derived.Test.YtbdleggmdbihnaaRows
import Derived.ProofKit
import Derived.Test.YtbdleggmdbihnaaFlowsProofsPb
/- Iterators: their evaluation. -/
namespace Go.Proofs.Ytbdleggmdbihnaa
open Go.RowKit
structure ISt where
  s : List MV
  h : MHeap
  ln : Nat
  xs : List (List MV)
  stop : Bool
def isY (s : List MV) : MO → Option (List MV)
  | .callv x as_ => match x.get s with
    | .yld => some (as_.map (MX.get s))
    | _ => none
  | _ => none
def bindL {α β : Type} (f : α → Option (List β)) : List α → Option (List β)
  | [] => some []
  | a :: r => match f a with
    | some l => match bindL f r with
      | some m => some (l ++ m)
      | none => none
    | none => none
def lkn (n : Nat) : Nat → Bool := fun id => decide (id < n)
def evGI (O : Oracle) (o : GO) (st : ISt) : Option (List ISt) :=
  match wantM st.s o.guard, isY st.s o.op with
  | some true, some ms => if st.stop = false ∧ ms.all MV.cl = true then
      some [⟨putM st.s o.dst (.lit (.bool true)), st.h, st.h.length, st.xs ++ [ms], false⟩, ⟨putM st.s o.dst (.lit (.bool false)), st.h, st.h.length, st.xs, true⟩] else none
  | _, _ => (evG (lkn st.ln) O o ⟨st.s, st.h⟩).map fun st' => [⟨st'.s, st'.h, st.ln, st.xs, st.stop⟩]
def evRI (O : Oracle) : List GO → ISt → Option (List ISt)
  | [], st => some [st]
  | o :: os, st => match evGI O o st with
    | some l => bindL (evRI O os) l
    | none => none
def hasY (gl : List GO) : Bool := gl.any fun o => isCv o.op
def contI (f : ISt → Option (List (MX2 × ISt))) (p : MX2 × ISt) : Option (List (MX2 × ISt)) :=
  match p.1 with
  | .normal => f p.2
  | _ => some [p]
def roundsI (f : ISt → Option (List (MX2 × ISt))) : Nat → ISt → Option (List (MX2 × ISt))
  | 0, _ => none
  | n + 1, st => match f st with
    | some l => bindL (contI (roundsI f n)) l
    | none => none
def leaveB (id : Nat) (p : MX2 × ISt) : MX2 × ISt :=
  match p.1 with
  | .exit k => if k = id then (.normal, p.2) else p
  | _ => p
def evI (O : Oracle) (N : Nat) : MC → ISt → Option (List (MX2 × ISt))
  | .skip, st => some [(.normal, st)]
  | .reg ops, st => if hasY ops then (evRI O ops st).map fun l => l.map fun st => (.normal, st)
      else (evR (lkn st.ln) O ops ⟨st.s, st.h⟩).map fun st' => [(.normal, ⟨st'.s, st'.h, st.ln, st.xs, st.stop⟩)]
  | .seq a b, st => match evI O N a st with
    | some l => bindL (contI (evI O N b)) l
    | none => none
  | .cond c a b, st => match c.get st.s with
    | .lit (.bool t) => if t then evI O N a st else evI O N b st
    | _ => none
  | .block id b, st => (evI O N b st).map fun l => l.map (leaveB id)
  | .loop _ b, st => roundsI (evI O N b) N st
  | .exit id, st => some [(.exit id, st)]
  | .ret, st => some [(.ret, st)]
  | _, _ => none
theorem bindL_some {α β : Type} {f : α → Option (List β)} : ∀ {l : List α} {m : List β}, bindL f l = some m → ∀ a ∈ l, ∃ r, f a = some r ∧ ∀ x ∈ r, x ∈ m
  | [], m, h, a, ha => by simp at ha
  | b :: l, m, h, a, ha => by
    simp only [bindL] at h
    split at h
    case h_2 => cases h
    rename_i r hr
    split at h
    case h_2 => cases h
    rename_i m' hm
    cases h
    rcases List.mem_cons.1 ha with rfl | ha
    · exact ⟨r, hr, fun x hx => List.mem_append_left _ hx⟩
    · obtain ⟨r', h1, h2⟩ := bindL_some hm a ha
      exact ⟨r', h1, fun x hx => List.mem_append_right _ (h2 x hx)⟩
def Goes (st : ISt) (outs : List (MX2 × ISt)) : Prop := st.stop = false → ∃ o, o ∈ outs ∧ o.2.stop = false ∧ st.xs <+: o.2.xs
theorem Goes.cont {f : ISt → Option (List (MX2 × ISt))} (hf : ∀ st outs, f st = some outs → Goes st outs) {st : ISt} {l outs : List (MX2 × ISt)} (h : Goes st l) (hb : bindL (contI f) l = some outs) : Goes st outs := by
  intro hs
  obtain ⟨o, h1, h2, h3⟩ := h hs
  obtain ⟨r, h4, h5⟩ := bindL_some hb o h1
  obtain ⟨x, st'⟩ := o
  cases x with
  | normal =>
    obtain ⟨o', k1, k2, k3⟩ := hf _ _ h4 h2
    exact ⟨o', h5 _ k1, k2, h3.trans k3⟩
  | exit id =>
    simp only [contI, Option.some.injEq] at h4
    subst h4
    exact ⟨_, h5 _ (by simp), h2, h3⟩
  | ret =>
    simp only [contI, Option.some.injEq] at h4
    subst h4
    exact ⟨_, h5 _ (by simp), h2, h3⟩
theorem Goes.rounds {f : ISt → Option (List (MX2 × ISt))} (hf : ∀ st outs, f st = some outs → Goes st outs) : ∀ n st outs, roundsI f n st = some outs → Goes st outs := by
  intro n
  induction n with
  | zero => intro st outs h; simp [roundsI] at h
  | succ n ih =>
    intro st outs h
    simp only [roundsI] at h
    split at h
    case h_2 => cases h
    rename_i l hl
    exact (hf _ _ hl).cont ih h
theorem evGI_goes {O : Oracle} {o : GO} {st : ISt} {l : List ISt} (h : evGI O o st = some l) (hs : st.stop = false) : ∃ st', st' ∈ l ∧ st'.stop = false ∧ st.xs <+: st'.xs := by
  unfold evGI at h
  split at h
  · split at h
    case isFalse => cases h
    cases h
    exact ⟨_, List.mem_cons_self, rfl, List.prefix_append _ _⟩
  · rw [Option.map_eq_some_iff] at h
    obtain ⟨st', _, rfl⟩ := h
    exact ⟨_, List.mem_cons_self, hs, List.prefix_refl _⟩
theorem evRI_goes {O : Oracle} : ∀ {gl : List GO} {st : ISt} {l : List ISt}, evRI O gl st = some l → st.stop = false → ∃ st', st' ∈ l ∧ st'.stop = false ∧ st.xs <+: st'.xs
  | [], st, l, h, hs => by
    simp only [evRI, Option.some.injEq] at h
    subst h
    exact ⟨_, List.mem_cons_self, hs, List.prefix_refl _⟩
  | o :: gl, st, l, h, hs => by
    simp only [evRI] at h
    split at h
    case h_2 => cases h
    rename_i l1 h1
    obtain ⟨st1, k1, k2, k3⟩ := evGI_goes h1 hs
    obtain ⟨r, h2, h3⟩ := bindL_some h st1 k1
    obtain ⟨st2, j1, j2, j3⟩ := evRI_goes h2 k2
    exact ⟨st2, h3 _ j1, j2, k3.trans j3⟩
theorem evI_goes {O : Oracle} {N : Nat} : ∀ (mc : MC) (st : ISt) (outs : List (MX2 × ISt)), evI O N mc st = some outs → Goes st outs := by
  intro mc
  induction mc with
  | skip => intro st outs h hs; simp only [evI, Option.some.injEq] at h; subst h; exact ⟨_, List.mem_cons_self, hs, List.prefix_refl _⟩
  | ret => intro st outs h hs; simp only [evI, Option.some.injEq] at h; subst h; exact ⟨_, List.mem_cons_self, hs, List.prefix_refl _⟩
  | exit id => intro st outs h hs; simp only [evI, Option.some.injEq] at h; subst h; exact ⟨_, List.mem_cons_self, hs, List.prefix_refl _⟩
  | bad => intro st outs h; simp [evI] at h
  | rf => intro st outs h; simp [evI] at h
  | give => intro st outs h; simp [evI] at h
  | reg gl =>
    intro st outs h hs
    simp only [evI] at h
    split at h
    · rw [Option.map_eq_some_iff] at h
      obtain ⟨l, h1, rfl⟩ := h
      obtain ⟨st', k1, k2, k3⟩ := evRI_goes h1 hs
      exact ⟨(.normal, st'), List.mem_map.2 ⟨st', k1, rfl⟩, k2, k3⟩
    · rw [Option.map_eq_some_iff] at h
      obtain ⟨st', h1, rfl⟩ := h
      exact ⟨_, List.mem_cons_self, hs, List.prefix_refl _⟩
  | seq a b iha ihb =>
    intro st outs h
    simp only [evI] at h
    split at h
    case h_2 => cases h
    rename_i l hl
    exact (iha _ _ hl).cont ihb h
  | cond c a b iha ihb =>
    intro st outs h
    simp only [evI] at h
    split at h
    case h_2 => cases h
    split at h
    · exact iha _ _ h
    · exact ihb _ _ h
  | block id b ih =>
    intro st outs h hs
    simp only [evI, Option.map_eq_some_iff] at h
    obtain ⟨l, h1, rfl⟩ := h
    obtain ⟨o, k1, k2, k3⟩ := ih _ _ h1 hs
    refine ⟨leaveB id o, List.mem_map.2 ⟨o, k1, rfl⟩, ?_⟩
    have : (leaveB id o).2 = o.2 := by unfold leaveB; split; split <;> rfl; rfl
    rw [this]
    exact ⟨k2, k3⟩
  | loop keep b ih =>
    intro st outs h
    simp only [evI] at h
    exact Goes.rounds ih _ _ _ h
def isCallV : Op → Bool
  | .call c => match c.callee with
    | .value (.func _) => false
    | .value _ => true
    | _ => false
  | _ => false
def lastY (P : Program) (ops : Array Oper) : Bool :=
  match ops.toList.mapM (compG P ops) with
  | some gl => drawOk ops gl && (ops.toList.dropLast.all fun o => !isCallV o.op) && (List.range (ops.size - 1)).all fun j => rch ops ops.size (ops.size - 1) j
  | none => false
def seqY (P : Program) : Code → Bool
  | .region _ ops draw => !draw || (ops.toList.all fun o => !isCallV o.op) || lastY P ops
  | .seq a b => seqY P a && seqY P b
  | .cond _ a b => seqY P a && seqY P b
  | .block _ b => seqY P b
  | .loop b => seqY P b
  | _ => true
theorem callv_inv {P : Program} {o : Oper} {x' : MX} {as' : List MX} (hc : compO P o = some (.callv x' as')) : ∃ c x, o.op = .call c ∧ c.callee = .value x ∧ (∀ f, x ≠ .func f) ∧ cX x = some x' ∧ cXs c.args.toList = some as' := by
  obtain ⟨dst, op, type, pos, after, guard⟩ := o
  cases op <;> simp only [compO] at hc <;> try (cases hc; done)
  case call c =>
    obtain ⟨callee, args, argTypes⟩ := c
    cases callee with
    | invoke r m => simp only at hc; cases hc
    | value x =>
      cases x with
      | func f =>
        simp only at hc
        split at hc
        · split at hc
          · simp [Option.map_eq_some_iff] at hc
          · cases hc
        split at hc
        · simp only [Option.bind_eq_bind, Option.bind_eq_some_iff] at hc
          obtain ⟨_, _, h⟩ := hc
          cases h
        · cases hc
      | tmp t =>
        simp only [Option.bind_eq_bind, Option.bind_eq_some_iff, Option.some.injEq, MO.callv.injEq] at hc
        obtain ⟨x1, h1, a1, h2, rfl, rfl⟩ := hc
        exact ⟨_, _, rfl, rfl, (fun f h => by cases h), h1, h2⟩
      | const v =>
        simp only [Option.bind_eq_bind, Option.bind_eq_some_iff, Option.some.injEq, MO.callv.injEq] at hc
        obtain ⟨x1, h1, a1, h2, rfl, rfl⟩ := hc
        exact ⟨_, _, rfl, rfl, (fun f h => by cases h), h1, h2⟩
      | global g => simp [cX] at hc
    | builtin b =>
      exfalso
      simp only at hc
      repeat' (split at hc)
      all_goals (first | (cases hc; done) | (simp [Option.map_eq_some_iff, Option.bind_eq_some_iff] at hc; done) | skip)
      all_goals (simp only [Option.bind_eq_bind, Option.bind_eq_some_iff] at hc; obtain ⟨_, _, _, _, hc⟩ := hc; split at hc)
      all_goals (first | (cases hc; done) | (simp [Option.bind_eq_some_iff] at hc))
  case build t parts =>
    exfalso
    simp only [Option.bind_eq_bind, Option.bind_eq_some_iff] at hc
    obtain ⟨_, _, _, _, hc⟩ := hc
    split at hc
    · simp [Option.bind_eq_some_iff] at hc
    · cases hc
  case makeFunc fn first caps =>
    exfalso
    cases fn <;> simp only at hc <;> try (cases hc; done)
    simp [Option.bind_eq_some_iff] at hc
  case makeMap t r =>
    exfalso
    cases r with
    | some _ => simp only at hc; cases hc
    | none =>
      simp only at hc
      split at hc
      · simp at hc
      · cases hc
  case slice t x lo hi mx =>
    exfalso
    cases mx <;> simp only at hc <;> try (cases hc; done)
    split at hc <;> simp [Option.bind_eq_some_iff] at hc
  all_goals
    exfalso
    repeat' (split at hc)
    all_goals (first | (cases hc; done) | (simp [Option.map_eq_some_iff, Option.bind_eq_some_iff] at hc; done) | skip)
  all_goals (simp only [Option.bind_eq_bind, Option.bind_eq_some_iff] at hc)
end Go.Proofs.Ytbdleggmdbihnaa
namespace Go.Proofs.Ytbdleggmdbihnaa
open Go.RowKit
theorem V.sameB {E : Env} {w w' : World} (hS : ∀ b, E.S b → w'.heap[b]? = w.heap[b]?) {m : MV} {v : Value} (hv : V E w m v) : V E w' m v := by
  induction hv with
  | junk v => exact .junk v
  | yld => exact .yld
  | emp a => exact .emp a
  | lit v => exact .lit v
  | agg cs vs hl _ ih => exact .agg cs vs hl ih
  | tup cs vs hl _ ih => exact .tup cs vs hl ih
  | fn f k cs vs hl _ ih => exact .fn f k cs vs hl ih
  | sl es vs A cap sz hc hs hl _ hA ih =>
    refine .sl es vs A cap sz hc hs hl ih fun h0 => ?_
    obtain ⟨b, off, e, hb, hcell⟩ := hA h0
    exact ⟨b, off, e, hb, fun i v hi => (World.cell?_of_block (w := w) (a := ⟨b, off + i, none⟩) (hS b hb)).trans (hcell i v hi)⟩
  | rp e off vs b o hl _ hb hcell ih =>
    exact .rp e off vs b o hl ih hb fun i v hi => (World.cell?_of_block (w := w) (a := ⟨b, o + i, none⟩) (hS b hb)).trans (hcell i v hi)
  | ptr id i off g b o hk hg hd => exact .ptr id i off g b o hk hg hd
  | arr id i n g A cap hk hg hd => exact .arr id i n g A cap hk hg hd
  | mp id g b hk hg hd => exact .mp id g b hk hg hd
  | rm es vs b ents ck hl _ hm hb hh ih => exact .rm es vs b ents ck hl ih hm hb ((hS b hb).trans hh)
theorem HRel.sameB {E : Env} {h : MHeap} {w w' : World} (hr : HRel E h w) (hS : ∀ b, E.S b → w'.heap[b]? = w.heap[b]?) (hK : ∀ id, E.K id → 0 < E.cp id → w'.heap[E.ρ id]? = w.heap[E.ρ id]?) (hsz : w.heap.size ≤ w'.heap.size) : HRel E h w' :=
  ⟨hr.klt, hr.top, fun id hk => by
    obtain ⟨es, a1, a2, a3, a4, a5⟩ := hr.obj id hk
    refine ⟨es, a1, a2, a3, a4, fun hc => ?_⟩
    obtain ⟨arr, t, b1, b2, b3⟩ := a5 hc
    exact ⟨arr, t, by rw [hK id hk hc]; exact b1, b2, fun k c hk => by obtain ⟨v, c1, c2⟩ := b3 k c hk; exact ⟨v, c1, c2.sameB hS⟩⟩, hr.inj, hr.sep, fun b hb => Nat.lt_of_lt_of_le (hr.slt b hb) hsz⟩
theorem V.cl_eq {E : Env} {w : World} {m : MV} {v : Value} (hv : V E w m v) (hc : m.cl = true) : v = concV m := by
  cases hv with
  | lit v => rfl
  | agg cs vs hl hv =>
    simp only [concV, Value.agg.injEq]
    congr 1
    simp only [MV.cl, List.all_eq_true] at hc
    refine List.ext_getElem? fun i => ?_
    rw [List.getElem?_map]
    by_cases hi : i < cs.length
    · have h1 : cs[i]? = some cs[i] := by simp
      have hi' : i < vs.length := hl ▸ hi
      have h2 : vs[i]? = some vs[i] := by simp
      have := hv i _ _ h1 h2
      have hcl := hc cs[i] (List.getElem_mem _)
      rw [h1, h2]
      generalize hm : cs[i] = m at this hcl
      cases m <;> simp at hcl
      simp [this.lit_eq]
    · have hi' : ¬ i < vs.length := hl ▸ hi
      simp [Nat.not_lt.1 hi, Nat.not_lt.1 hi']
  | _ => cases hc
theorem Vs.cl_eq {E : Env} {w : World} {ms : List MV} {vs : List Value} (hv : Vs E w ms vs) (hc : ms.all MV.cl = true) : vs = ms.map concV := by
  refine List.ext_getElem? fun i => ?_
  rw [List.getElem?_map]
  by_cases hi : i < ms.length
  · have h1 : ms[i]? = some ms[i] := by simp
    have hi' : i < vs.length := hv.1 ▸ hi
    have h2 : vs[i]? = some vs[i] := by simp
    rw [h1, h2, (hv.2 i _ _ h1 h2).cl_eq (List.all_eq_true.1 hc _ (List.getElem_mem _))]
    rfl
  · have hi' : ¬ i < vs.length := hv.1 ▸ hi
    simp [Nat.not_lt.1 hi, Nat.not_lt.1 hi']
section
variable {P : Program} {O : Oracle} {N : Nat} {full : List (List MV)} {l : Nat} {S : Nat → Prop} {J : (Nat → Prop) → Nat → World → Prop} {Jx : World → Prop}
structure ItH (P : Program) (full : List (List MV)) (l : Nat) (S : Nat → Prop) (J : (Nat → Prop) → Nat → World → Prop) (Jx : World → Prop) : Prop where
  ab : ∀ T T' k A A', J T k A → Below A.heap.size A A' → (∀ b, T' b → T b ∨ A.heap.size ≤ b) → J T' k A'
  abx : ∀ A A', Jx A → Below A.heap.size A A' → Jx A'
  yield : ∀ (T : Nat → Prop) (k : Nat) (x : Array Value) (W1 : World), (full.map fun x => (x.map concV).toArray)[k]? = some x → (∀ b, T b → b < W1.heap.size) → J T k W1 →
    YieldAt Fence.wide 0 P l x W1 fun e W' => ((e = .returned (.bool true) ∧ J T (k + 1) W') ∨ (e = .returned (.bool false) ∧ Jx W')) ∧ SameS S W1 W' ∧ SameS T W1 W'
def RelI (l : Nat) (S : Nat → Prop) (J : (Nat → Prop) → Nat → World → Prop) (Jx : World → Prop) (st : ISt) (a : Act) (w : World) : Prop :=
  ∃ (E E1 : Env) (w1 : World) (T : Nat → Prop), Slots E w st.s a ∧ HRel E st.h w ∧ E.yl = l ∧ Ext (lkn st.ln) E1 w1 E w ∧ (∀ id, E1.K id → id < st.ln) ∧ (∀ b, E1.S b → S b ∨ T b) ∧ (∀ id, E1.K id → 0 < E1.cp id → T (E1.ρ id)) ∧
    (∀ b, T b → b < w1.heap.size) ∧ (st.stop = true → Jx w1) ∧ (st.stop = false → J T st.xs.length w1) ∧ a.defers = []
theorem ext_below {n : Nat} {E1 E : Env} {w1 w : World} (hx : Ext (lkn n) E1 w1 E w) (hn : ∀ id, E1.K id → id < n) : Below w1.heap.size w1 w :=
  ⟨hx.os, hx.tape, hx.output, hx.size, fun k hk => hx.keep k hk fun id hid hl _ => by simp [lkn, hn id hid] at hl⟩
theorem evGI_ok (hO : SoundO P O) (hH : ItH P full l S J Jx) {ops : Array Oper} {o : Oper} {go : GO} (hc : compG P ops o = some go) {st : ISt} {outs : List ISt} (he : evGI O go st = some outs) (hpre : ∀ st' ∈ outs, st'.stop = false → st'.xs <+: full)
    {a : Act} {w : World} (hR : RelI l S J Jx st a w) {n : Nat} {K : Act → World → Prop} {Q : Exit → Act → World → Prop} (hK : ∀ st' ∈ outs, ∀ a' w', RelI l S J Jx st' a' w' → K a' w') :
    if Region.wanted o (yielded ops a.tmps) then o.wpIn (Fw none) n P a w K Q else (∀ f, o.about P w a.eval = some f → (Fw none).fn f) ∧ K (a.put o.dst undef) w := by
  obtain ⟨E, E1, w1, T, hs, hr, hyl, hx, hn, hS1, hK1, hT, hJx, hJ, hd⟩ := hR
  unfold evGI at he
  split at he
  · rename_i ms hw hy
    split at he
    case isFalse => cases he
    rename_i hcl
    obtain ⟨hstop, hcl⟩ := hcl
    cases he
    rw [wantM_wanted hc hs hw]
    simp only [if_true]
    unfold isY at hy
    split at hy
    case h_2 => cases hy
    rename_i x' as' hop
    split at hy
    case h_2 => cases hy
    rename_i hxy
    cases hy
    rw [compG_op hc] at hop
    cases hco : compO P o with
    | none => rw [hco] at hop; cases hop
    | some mo =>
    rw [hco] at hop
    simp only [Option.getD_some] at hop
    subst hop
    obtain ⟨c, x, ho, hcal, hnf, hcx, hcas⟩ := callv_inv hco
    have hnd : ∀ c, o.op ≠ .defer c := fun c' e => by rw [ho] at e; cases e
    have hxv : a.eval x = .func (.yield l) #[] #[] := by
      have := hs.x hcx
      rw [hxy] at this
      generalize a.eval x = v at this
      cases this
      rw [hyl]
    have hav : c.args.toList.map a.eval = (as'.map (MX.get st.s)).map concV := (hs.xs hcas).cl_eq hcl
    obtain ⟨T', hT'⟩ : ∃ T' : Nat → Prop, T' = fun b => (E.S b ∧ ¬ S b) ∨ ∃ id, E.K id ∧ 0 < E.cp id ∧ E.ρ id = b := ⟨_, rfl⟩
    have hbel := ext_below hx hn
    have hTT : ∀ b, T' b → T b ∨ w1.heap.size ≤ b := fun b hb => by
      rw [hT'] at hb
      rcases hb with ⟨h1, h2⟩ | ⟨id, h1, h2, rfl⟩
      · rcases hx.srcS b h1 with h | ⟨id, k1, k2, rfl⟩ | h
        · exact .inl ((hS1 b h).resolve_left h2)
        · exact .inl (hK1 id k1 k2)
        · exact .inr h
      · rcases hx.src id h1 h2 with ⟨k1, k2, k3⟩ | h
        · exact .inl (k3 ▸ hK1 id k1 k2)
        · exact .inr h
    have hTlt : ∀ b, T' b → b < w.heap.size := fun b hb => by
      rw [hT'] at hb
      rcases hb with ⟨h1, h2⟩ | ⟨id, h1, h2, rfl⟩
      · exact hr.slt b h1
      · exact hr.lt h1 h2
    have hJ' : J T' st.xs.length w := hH.ab T T' _ _ _ (hJ hstop) hbel hTT
    have hk : (full.map fun x => (x.map concV).toArray)[st.xs.length]? = some ((as'.map (MX.get st.s)).map concV).toArray := by
      have hp := hpre _ List.mem_cons_self rfl
      obtain ⟨t, ht⟩ := hp
      simp only at ht
      rw [← ht]
      simp
    obtain ⟨fn, tmps, assign, body, hy1, hy2⟩ := hH.yield T' st.xs.length _ w hk hTlt hJ'
    have hrun : (execOp a.eval o).run P w = .ok (.round l fn tmps assign body) w := by
      have e1 : c.args.map a.eval = ((as'.map (MX.get st.s)).map concV).toArray := by
        apply Array.ext'
        rw [Array.toList_map, hav]
      simp only [List.map_map] at e1 hy1
      simp [execOp, ho, hcal, resolve, hxv, Deferred.ofValue, invoke, e1, hy1]
    refine ⟨about_wide o a w, ?_⟩
    rw [Oper.semAt_eq _ _ _ hnd, hrun]
    refine ⟨fun h => by simp [Fence.wide] at h, ?_⟩
    refine (roundIn_n 0 (n - 1) hy2).mono ?_
    rintro e W' ⟨hcase, hsS, hsT⟩
    have hES : ∀ b, E.S b → W'.heap[b]? = w.heap[b]? := fun b hb => by
      by_cases h : S b
      · exact hsS.block b h
      · exact hsT.block b (by rw [hT']; exact .inl ⟨hb, h⟩)
    have hEK : ∀ id, E.K id → 0 < E.cp id → W'.heap[E.ρ id]? = w.heap[E.ρ id]? := fun id h1 h2 => hsT.block _ (by rw [hT']; exact .inr ⟨id, h1, h2, rfl⟩)
    have hr' : HRel E st.h W' := hr.sameB hES hEK hsS.size
    have hs' : Slots E W' st.s a := ⟨hs.1, fun i m v h1 h2 => (hs.2 i m v h1 h2).sameB hES⟩
    have hTW : ∀ b, T' b → b < W'.heap.size := fun b hb => Nat.lt_of_lt_of_le (hTlt b hb) hsS.size
    have hES2 : ∀ b, E.S b → S b ∨ T' b := fun b hb => by
      by_cases h : S b
      · exact .inl h
      · exact .inr (by rw [hT']; exact .inl ⟨hb, h⟩)
    have hEK2 : ∀ id, E.K id → 0 < E.cp id → T' (E.ρ id) := fun id h1 h2 => by rw [hT']; exact .inr ⟨id, h1, h2, rfl⟩
    have hputd : ∀ (v : Value), (a.put o.dst v).defers = [] := fun v => by rw [← hd]; cases o.dst <;> rfl
    rcases hcase with ⟨rfl, hJ2⟩ | ⟨rfl, hJ2⟩
    · refine hK _ List.mem_cons_self _ _ ⟨E, E, W', T', ?_, hr', hyl, Ext.refl _ _ _, hr.klt, hES2, hEK2, hTW, (fun h => by cases h), (fun _ => by simpa using hJ2), hputd _⟩
      rw [compG_dst hc]
      exact hs'.put (.lit _) _
    · refine hK _ (List.mem_cons_of_mem _ List.mem_cons_self) _ _ ⟨E, E, W', T', ?_, hr', hyl, Ext.refl _ _ _, hr.klt, hES2, hEK2, hTW, fun _ => hJ2, fun h => (by cases h), hputd _⟩
      rw [compG_dst hc]
      exact hs'.put (.lit _) _
  · rw [Option.map_eq_some_iff] at he
    obtain ⟨st', he, rfl⟩ := he
    exact evG_ok hO hc hs hr he fun a' w' E' h1 h2 h3 h4 => hK _ List.mem_cons_self _ _ ⟨E', E1, w1, T, h1, h2, by rw [h3.yl]; exact hyl, hx.trans h3, hn, hS1, hK1, hT, hJx, hJ, h4.trans hd⟩
theorem evRI_ok (hO : SoundO P O) (hH : ItH P full l S J Jx) {ops : Array Oper} {n : Nat} {Q : Exit → Act → World → Prop} : ∀ {ol : List Oper} {gl : List GO} {st : ISt} {outs : List ISt} {a : Act} {w : World}, ol.mapM (compG P ops) = some gl → evRI O gl st = some outs →
    (∀ st' ∈ outs, st'.stop = false → st'.xs <+: full) → RelI l S J Jx st a w → (∀ st' ∈ outs, ∀ a' w', RelI l S J Jx st' a' w' → Q .normal a' w') → wpListIn (Fw none) n P ops Q ol a w
  | [], gl, st, outs, a, w, hm, he, hpre, hR, hQ => by
    simp at hm; subst hm
    simp [evRI] at he; subst he
    exact hQ _ List.mem_cons_self a w hR
  | o :: ol, gl, st, outs, a, w, hm, he, hpre, hR, hQ => by
    simp only [List.mapM_cons, Option.pure_def, Option.bind_eq_bind, Option.bind_eq_some_iff, Option.some.injEq] at hm
    obtain ⟨go, hgo, gl', hgl, rfl⟩ := hm
    simp only [evRI] at he
    split at he
    case h_2 => cases he
    rename_i l1 he1
    unfold wpListIn
    refine evGI_ok hO hH hgo he1 (fun st' hst' hs' => ?_) hR fun st' hst' a' w' hR' => ?_
    · obtain ⟨r, h1, h2⟩ := bindL_some he st' hst'
      obtain ⟨st2, k1, k2, k3⟩ := evRI_goes h1 hs'
      exact k3.trans (hpre _ (h2 _ k1) k2)
    · obtain ⟨r, h1, h2⟩ := bindL_some he st' hst'
      exact evRI_ok hO hH hgl h1 (fun st2 h3 => hpre st2 (h2 _ h3)) hR' fun st2 h3 => hQ st2 (h2 _ h3)
def CodeI (P : Program) (O : Oracle) (N : Nat) (full : List (List MV)) (l : Nat) (S : Nat → Prop) (J : (Nat → Prop) → Nat → World → Prop) (Jx : World → Prop) (c : Code) (mc : MC) : Prop :=
  ∀ (st : ISt) (outs : List (MX2 × ISt)), evI O N mc st = some outs → (∀ o ∈ outs, o.2.stop = false → o.2.xs <+: full) → ∀ (n : Nat) (a : Act) (w : World) (Q : Exit → Act → World → Prop), RelI l S J Jx st a w →
    (∀ o ∈ outs, ∀ a' w', RelI l S J Jx o.2 a' w' → Q (exitOf o.1) a' w') → c.wpIn (Fw none) n P Q a w
theorem pre_cont {f : ISt → Option (List (MX2 × ISt))} (hf : ∀ st outs, f st = some outs → Goes st outs) {l1 outs : List (MX2 × ISt)} (hb : bindL (contI f) l1 = some outs) (hpre : ∀ o ∈ outs, o.2.stop = false → o.2.xs <+: full) : ∀ o ∈ l1, o.2.stop = false → o.2.xs <+: full := fun o ho hs => by
  obtain ⟨r, h4, h5⟩ := bindL_some hb o ho
  obtain ⟨x, st'⟩ := o
  cases x with
  | normal =>
    obtain ⟨o', k1, k2, k3⟩ := hf _ _ h4 hs
    exact k3.trans (hpre _ (h5 _ k1) k2)
  | exit id =>
    simp only [contI, Option.some.injEq] at h4
    subst h4
    exact hpre _ (h5 _ (by simp)) hs
  | ret =>
    simp only [contI, Option.some.injEq] at h4
    subst h4
    exact hpre _ (h5 _ (by simp)) hs
theorem isCv_of {ops : Array Oper} {o : Oper} {g : GO} (hc : compG P ops o = some g) (hn : isCallV o.op = false) : isCv g.op = false := by
  have hop := compG_op hc
  cases hco : compO P o with
  | none => rw [hco] at hop; rw [hop]; rfl
  | some mo =>
    rw [hco] at hop
    simp only [Option.getD_some] at hop
    rw [hop]
    cases mo <;> try rfl
    exfalso
    obtain ⟨c, x, h1, h2, h3, -, -⟩ := callv_inv hco
    rw [h1] at hn
    simp only [isCallV, h2] at hn
    cases x <;> simp at hn
    all_goals exact h3 _ rfl
theorem bindL_one {α : Type} : ∀ l : List α, bindL (fun st => some [st]) l = some l
  | [] => rfl
  | a :: l => by simp only [bindL, bindL_one l]; rfl
theorem evRI_pre : ∀ (pre gs : List GO) (st : ISt), (∀ g ∈ pre, isCv g.op = false) → evRI O (pre ++ gs) st = (evR (lkn st.ln) O pre ⟨st.s, st.h⟩).bind fun st' => evRI O gs ⟨st'.s, st'.h, st.ln, st.xs, st.stop⟩
  | [], gs, st, _ => rfl
  | g :: pre, gs, st, h => by
    have hg := h g List.mem_cons_self
    have hy : isY st.s g.op = none := by
      unfold isY
      split
      · rename_i e; rw [e] at hg; cases hg
      · rfl
    simp only [List.cons_append, evRI, evR]
    have e1 : evGI O g st = (evG (lkn st.ln) O g ⟨st.s, st.h⟩).map fun st' => [⟨st'.s, st'.h, st.ln, st.xs, st.stop⟩] := by
      unfold evGI
      rw [hy]
      split
      · rename_i h2; cases h2
      · rfl
    rw [e1]
    cases hev : evG (lkn st.ln) O g ⟨st.s, st.h⟩ with
    | none => rfl
    | some st1 =>
      simp only [Option.map_some, bindL, Option.bind_some]
      rw [evRI_pre pre gs ⟨st1.s, st1.h, st.ln, st.xs, st.stop⟩ fun g hg => h g (List.mem_cons_of_mem _ hg)]
      simp only
      cases (evR (lkn st.ln) O pre ⟨st1.s, st1.h⟩).bind fun st' => evRI O gs ⟨st'.s, st'.h, st.ln, st.xs, st.stop⟩ with
      | none => rfl
      | some r => simp
theorem codeI_seal {c : Code} {mc : MC} {t : Nat} : CodeI P O N full l S J Jx c (.give t mc) := by
  intro st outs he
  simp [evI] at he
theorem compC_itok (hm : P.follows .mixedOrders = true) (hO : SoundO P O) (hA : AppO O) (hH : ItH P full l S J Jx) : ∀ (c : Code) (mc : MC), compC P c = mc.strip → seqY P c = true → CodeI P O N full l S J Jx c mc := by
  have bad : ∀ (c : Code) (mc : MC), mc.strip = .bad → CodeI P O N full l S J Jx c mc := fun c mc h => by
    refine ungive (x := .bad) (fun t m _ => codeI_seal) ?_ mc h.symm
    clear h mc
    intro mc h hns
    cases mc <;> simp [MC.strip, MC.isSeal] at h hns
    intro st outs he
    simp [evI] at he
  intro c
  induction c with
  | skip =>
    refine fun mc h _ => ungive (fun t m _ => codeI_seal) ?_ mc h; clear h mc; intro mc h hns; simp only [compC] at h; cases mc <;> simp [MC.strip, MC.isSeal] at h hns
    intro st outs he hpre n a w Q hR hQ
    simp only [evI, Option.some.injEq] at he; subst he
    exact wpIn_skip (hQ _ List.mem_cons_self a w hR)
  | ret =>
    refine fun mc h _ => ungive (fun t m _ => codeI_seal) ?_ mc h; clear h mc; intro mc h hns; simp only [compC] at h; cases mc <;> simp [MC.strip, MC.isSeal] at h hns
    intro st outs he hpre n a w Q hR hQ
    simp only [evI, Option.some.injEq] at he; subst he
    exact wpIn_ret (hQ _ List.mem_cons_self a w hR)
  | exit id =>
    refine fun mc h _ => ungive (fun t m _ => codeI_seal) ?_ mc h; clear h mc; intro mc h hns; simp only [compC] at h; cases mc <;> simp [MC.strip, MC.isSeal] at h hns; subst h
    intro st outs he hpre n a w Q hR hQ
    simp only [evI, Option.some.injEq] at he; subst he
    exact wpIn_exit (hQ _ List.mem_cons_self a w hR)
  | region id ops draw =>
    intro mc h hy
    refine ungive (fun t m _ => codeI_seal) ?_ mc h
    clear h mc
    intro mc h hns
    simp only [compC] at h
    split at h
    case h_2 => exact bad _ mc h.symm
    rename_i gl hg
    obtain ⟨q1, q2⟩ := mapM_some hg
    have hno : (ops.toList.all fun o => !isCallV o.op) = true ∨ draw = false ∨ (draw = true ∧ drawOk ops gl = true ∧ (ops.toList.dropLast.all fun o => !isCallV o.op) = true ∧ ∀ j, j < ops.size - 1 → rch ops ops.size (ops.size - 1) j = true) := by
      simp only [seqY] at hy
      rw [Bool.or_eq_true, Bool.or_eq_true] at hy
      rcases hy with (hy | hy) | hy
      · exact .inr (.inl (by simpa using hy))
      · exact .inl hy
      · cases hdr : draw
        · exact .inr (.inl rfl)
        · unfold lastY at hy
          rw [hg] at hy
          simp only [Bool.and_eq_true] at hy
          exact .inr (.inr ⟨rfl, hy.1.1, hy.1.2, fun j hj => List.all_eq_true.1 hy.2 j (List.mem_range.2 hj)⟩)
    split at h
    · rename_i hdr
      rw [Bool.and_eq_true, Bool.not_eq_true'] at hdr
      obtain ⟨hdr1, hdr2⟩ := hdr
      have hall : (ops.toList.all fun o => !isCallV o.op) = true := by
        rcases hno with h | h | h
        · exact h
        · rw [hdr1] at h; cases h
        · rw [hdr2] at h; cases h.2.1
      have hl0 : (virt ops gl).length = ops.size := virt_len (by rw [← q1]; simp)
      have hcv : ∀ (i : Nat) g, (virt ops gl)[i]? = some g → isCv g.op = false := fun i g hi => by
        have hi2 : i < ops.toList.length := by
          have := (List.getElem?_eq_some_iff.1 hi).1
          rw [hl0] at this
          simpa using this
        rcases virt_comp hg i ops.toList[i] g (by simp) hi with hc | ⟨_, _, _, _, _, _, _, _, rfl⟩
        · exact isCv_of hc (by simpa using List.all_eq_true.1 hall _ (List.getElem_mem hi2))
        · rfl
      subst hdr1
      split at h
      · rename_i hv
        cases mc <;> simp [MC.strip, MC.isSeal] at h hns
        subst h
        intro st outs he hpre n a w Q hR hQ
        simp only [evI] at he
        have hnoY : hasY (virt ops gl) = false := by
          unfold hasY
          rw [List.any_eq_false]
          intro g hg1
          obtain ⟨i, hi⟩ := List.getElem?_of_mem hg1
          rw [hcv i g hi]; simp
        rw [if_neg (by simp [hnoY])] at he
        rw [Option.map_eq_some_iff] at he
        obtain ⟨st', he, rfl⟩ := he
        obtain ⟨E, E1, w1, T, hs, hr, hyl, hx, hn, hS1, hK1, hT, hJx, hJ, hdf⟩ := hR
        have key : ∀ a' w' E', Slots E' w' st'.s a' → HRel E' st'.h w' → Ext (lkn st.ln) E w E' w' → a'.defers = a.defers → Q .normal a' w' := fun a' w' E' h1 h2 h3 h4 =>
          hQ _ List.mem_cons_self a' w' ⟨E', E1, w1, T, h1, h2, by rw [h3.yl]; exact hyl, hx.trans h3, hn, hS1, hK1, hT, hJx, hJ, h4.trans hdf⟩
        exact draw_okV hm hO hA hl0 (virt_comp hg) hv he hs hr key
      · split at h
        case isFalse => exact bad _ mc h.symm
        rename_i hv2
        cases mc <;> simp [MC.strip, MC.isSeal] at h hns
        subst h
        intro st outs he hpre n a w Q hR hQ
        simp only [evI] at he
        have hnoY : hasY (newsL (ops.toList.zip (virt ops gl)) ++ (hoist ops (virt ops gl) ++ chks ops (hoist ops (virt ops gl)))) = false := by
          unfold hasY
          rw [List.any_eq_false]
          intro g hg1
          rcases List.mem_append.1 hg1 with h1 | h1
          · obtain ⟨p, hp1, rfl⟩ := List.mem_map.1 h1
            obtain ⟨_, d, z, e⟩ := isH_iff (List.mem_filter.1 hp1).2
            rw [e]; simp [isCv]
          · rcases List.mem_append.1 h1 with h1 | h1
            · obtain ⟨i, hi⟩ := List.getElem?_of_mem h1
              simp only [hoist, List.getElem?_zipWith] at hi
              cases h2 : ops.toList[i]? with
              | none => rw [h2] at hi; cases hi
              | some o =>
                cases h3 : (virt ops gl)[i]? with
                | none => rw [h2, h3] at hi; cases hi
                | some g0 =>
                  rw [h2, h3] at hi
                  simp only [Option.some.injEq] at hi
                  subst hi
                  unfold hoG
                  split
                  · split
                    · simp [isCv]
                    · rw [hcv i g0 h3]; simp
                  · rw [hcv i g0 h3]; simp
            · unfold chks at h1
              simp only [List.mem_flatMap] at h1
              obtain ⟨i, _, j, _, h1⟩ := h1
              split at h1
              · rw [List.mem_singleton] at h1; subst h1; simp [isCv]
              · cases h1
        rw [if_neg (by simp [hnoY])] at he
        rw [Option.map_eq_some_iff] at he
        obtain ⟨st', he, rfl⟩ := he
        obtain ⟨E, E1, w1, T, hs, hr, hyl, hx, hn, hS1, hK1, hT, hJx, hJ, hdf⟩ := hR
        have key : ∀ a' w' E', Slots E' w' st'.s a' → HRel E' st'.h w' → Ext (lkn st.ln) E w E' w' → a'.defers = a.defers → Q .normal a' w' := fun a' w' E' h1 h2 h3 h4 =>
          hQ _ List.mem_cons_self a' w' ⟨E', E1, w1, T, h1, h2, by rw [h3.yl]; exact hyl, hx.trans h3, hn, hS1, hK1, hT, hJx, hJ, h4.trans hdf⟩
        exact draw_okH hm hO hA hl0 (virt_comp hg) hv2 he hs hr key
    rename_i hd
    cases mc <;> simp [MC.strip, MC.isSeal] at h hns
    subst h
    intro st outs he hpre n a w Q hR hQ
    simp only [evI] at he
    split at he
    · rename_i hy2
      rw [Option.map_eq_some_iff] at he
      obtain ⟨l1, he, rfl⟩ := he
      cases draw with
      | false =>
        exact wpIn_region_list (evRI_ok hO hH hg he (fun st' h => hpre (.normal, st') (List.mem_map.2 ⟨st', h, rfl⟩)) hR fun st' h => hQ (.normal, st') (List.mem_map.2 ⟨st', h, rfl⟩))
      | true =>
        have hcv2 : ∀ (i : Nat) g (hi : i < ops.toList.length), gl[i]? = some g → isCallV ops.toList[i].op = false → isCv g.op = false := fun i g hi hgi hcl => isCv_of (q2 i ops.toList[i] g (by simp) hgi) hcl
        obtain ⟨g0, hg1, hg2⟩ := List.any_eq_true.1 hy2
        obtain ⟨i0, hi0⟩ := List.getElem?_of_mem hg1
        have hil0 : i0 < ops.toList.length := by rw [q1]; exact (List.getElem?_eq_some_iff.1 hi0).1
        rcases hno with h | h | ⟨_, hdk, hpre0, hw⟩
        · exfalso
          have := hcv2 i0 g0 hil0 hi0 (by simpa using List.all_eq_true.1 h _ (List.getElem_mem hil0))
          rw [this] at hg2; cases hg2
        · cases h
        · have hne : gl ≠ [] := fun e => by rw [e] at hi0; simp at hi0
          have hgl : gl = gl.dropLast ++ [gl.getLast hne] := (List.dropLast_concat_getLast hne).symm
          have hpl : gl.dropLast.length = ops.size - 1 := by rw [List.length_dropLast, ← q1]; simp
          have hpos : 0 < ops.size := by have : ops.toList.length = ops.size := by simp
                                         omega
          have hpcv : ∀ g ∈ gl.dropLast, isCv g.op = false := fun g hg => by
            obtain ⟨i, hi⟩ := List.getElem?_of_mem hg
            have hil := (List.getElem?_eq_some_iff.1 hi).1
            have hi2 : i < ops.toList.length := by simp; omega
            refine hcv2 i g hi2 (by rw [hgl, List.getElem?_append_left hil]; exact hi) ?_
            have hm2 : ops.toList[i] ∈ ops.toList.dropLast := by
              have e : ops.toList.dropLast[i]? = some ops.toList[i] := by rw [List.getElem?_dropLast, if_pos (by simp; omega)]; simp
              exact List.mem_of_getElem? e
            simpa using List.all_eq_true.1 hpre0 _ hm2
          have hgcv : isCv (gl.getLast hne).op = true := by
            rw [hgl] at hg1
            rcases List.mem_append.1 hg1 with h1 | h1
            · rw [hpcv g0 h1] at hg2; cases hg2
            · rw [List.mem_singleton] at h1; rw [← h1]; exact hg2
          generalize hpe : gl.dropLast = pre at *
          generalize gl.getLast hne = gY at *
          subst hgl
          have hlast : ops[pre.length]? = some ops[pre.length] := by first | (simp [hpl]; done) | (simp [hpl]; omega)
          have hcl : compG P ops ops[pre.length] = some gY := q2 pre.length _ gY (by first | (simp [hpl]; done) | (simp [hpl]; omega)) (by simp)
          rw [evRI_pre pre [gY] st hpcv, Option.bind_eq_some_iff] at he
          obtain ⟨st1, he1, he2⟩ := he
          have he3 : evGI O gY ⟨st1.s, st1.h, st.ln, st.xs, st.stop⟩ = some l1 := by
            simp only [evRI] at he2
            split at he2
            case h_2 => cases he2
            rename_i l2 hl2
            rw [bindL_one l2] at he2
            cases he2
            exact hl2
          obtain ⟨E, E1, w1, T, hs, hr, hyl, hx, hn, hS1, hK1, hT, hJx, hJ, hdf⟩ := hR
          refine draw_last hm hO hA (by omega) hgcv (fun j hj => by rw [hpl]; exact hw j (by omega)) (fun i o go h1 h2 => q2 i o go (by simpa using h1) (by rw [List.getElem?_append_left (List.getElem?_eq_some_iff.1 h2).1]; exact h2)) hdk he1 hs hr fun a' w' E' h1 h2 h3 h4 => ?_
          unfold wpOpIn
          rw [hlast]
          exact evGI_ok hO hH hcl he3 (fun st' h => hpre (.normal, st') (List.mem_map.2 ⟨st', h, rfl⟩)) ⟨E', E1, w1, T, h1, h2, by rw [h3.yl]; exact hyl, hx.trans h3, hn, hS1, hK1, hT, hJx, hJ, h4.trans hdf⟩ fun st' h => hQ (.normal, st') (List.mem_map.2 ⟨st', h, rfl⟩)
    · rw [Option.map_eq_some_iff] at he
      obtain ⟨st', he, rfl⟩ := he
      obtain ⟨E, E1, w1, T, hs, hr, hyl, hx, hn, hS1, hK1, hT, hJx, hJ, hdf⟩ := hR
      have key : ∀ a' w' E', Slots E' w' st'.s a' → HRel E' st'.h w' → Ext (lkn st.ln) E w E' w' → a'.defers = a.defers → Q .normal a' w' := fun a' w' E' h1 h2 h3 h4 =>
        hQ _ List.mem_cons_self a' w' ⟨E', E1, w1, T, h1, h2, by rw [h3.yl]; exact hyl, hx.trans h3, hn, hS1, hK1, hT, hJx, hJ, h4.trans hdf⟩
      cases draw with
      | false => exact wpIn_region_list (evR_ok hO hg he hs hr key)
      | true => exact draw_ok hm hO hA hg (by simpa using hd) he hs hr key
  | seq a b iha ihb =>
    intro mc h hy
    refine ungive (fun t m _ => codeI_seal) ?_ mc h
    clear h mc
    intro mc h hns
    simp only [compC] at h; cases mc <;> simp [MC.strip, MC.isSeal] at h hns
    simp only [seqY, Bool.and_eq_true] at hy
    intro st outs he hpre n a' w Q hR hQ
    simp only [evI] at he
    split at he
    case h_2 => cases he
    rename_i l1 hl1
    refine wpIn_seq (iha _ h.1 hy.1 st l1 hl1 (pre_cont (fun st outs h => evI_goes _ st outs h) he hpre) n a' w _ hR fun o ho a2 w2 hR2 => ?_)
    obtain ⟨r, h4, h5⟩ := bindL_some he o ho
    obtain ⟨x, st'⟩ := o
    cases x with
    | normal => exact ihb _ h.2 hy.2 st' r h4 (fun o ho => hpre o (h5 o ho)) n a2 w2 Q hR2 fun o ho => hQ o (h5 o ho)
    | exit id =>
      simp only [contI, Option.some.injEq] at h4
      subst h4
      exact hQ _ (h5 _ (by simp)) a2 w2 hR2
    | ret =>
      simp only [contI, Option.some.injEq] at h4
      subst h4
      exact hQ _ (h5 _ (by simp)) a2 w2 hR2
  | cond c a b iha ihb =>
    intro mc h hy
    refine ungive (fun t m _ => codeI_seal) ?_ mc h
    clear h mc
    intro mc h hns
    simp only [compC] at h
    split at h
    case h_2 => exact bad _ mc h.symm
    rename_i c' hc
    cases mc <;> simp [MC.strip, MC.isSeal] at h hns
    obtain ⟨rfl, h1, h2⟩ := h
    simp only [seqY, Bool.and_eq_true] at hy
    intro st outs he hpre n a' w Q hR hQ
    simp only [evI] at he
    obtain ⟨E, hrest⟩ := hR
    have hv := (hrest.choose_spec.choose_spec.choose_spec.1).x hc
    split at he
    case h_2 => cases he
    rename_i t ht
    rw [ht] at hv
    refine wpIn_cond hv.lit_eq ?_
    cases t
    · exact ihb _ h2 hy.2 st outs he hpre n a' w Q ⟨E, hrest⟩ hQ
    · exact iha _ h1 hy.1 st outs he hpre n a' w Q ⟨E, hrest⟩ hQ
  | block id b ih =>
    intro mc h hy
    refine ungive (fun t m _ => codeI_seal) ?_ mc h
    clear h mc
    intro mc h hns
    simp only [compC] at h; cases mc <;> simp [MC.strip, MC.isSeal] at h hns; obtain ⟨rfl, h⟩ := h
    simp only [seqY] at hy
    intro st outs he hpre n a' w Q hR hQ
    simp only [evI, Option.map_eq_some_iff] at he
    obtain ⟨l1, hl1, rfl⟩ := he
    have same : ∀ o : MX2 × ISt, (leaveB id o).2 = o.2 := fun o => by unfold leaveB; split; split <;> rfl; rfl
    refine wpIn_block (ih _ h hy st l1 hl1 (fun o ho hs => ?_) n a' w _ hR fun o ho a2 w2 hR2 => ?_)
    · have := hpre _ (List.mem_map.2 ⟨o, ho, rfl⟩)
      rw [same] at this
      exact this hs
    · have := hQ _ (List.mem_map.2 ⟨o, ho, rfl⟩) a2 w2 (by rw [same]; exact hR2)
      obtain ⟨x, st'⟩ := o
      cases x with
      | normal => simpa [leaveB, exitOf, Exit.inBlock] using this
      | ret => simpa [leaveB, exitOf, Exit.inBlock] using this
      | exit k =>
        by_cases e : k = id
        · simpa [leaveB, exitOf, Exit.inBlock, e] using this
        · simpa [leaveB, exitOf, Exit.inBlock, e] using this
  | loop b ih =>
    intro mc h hy
    refine ungive (fun t m _ => codeI_seal) ?_ mc h
    clear h mc
    intro mc h hns
    simp only [compC] at h; cases mc <;> simp [MC.strip, MC.isSeal] at h hns
    simp only [seqY] at hy
    rename_i keep mb
    intro st outs he hpre n a' w Q hR hQ
    simp only [evI] at he
    refine wpIn_loop_rounds N ?_
    have key : ∀ (M : Nat) (st1 : ISt) (outs1 : List (MX2 × ISt)) (a1 : Act) (w1 : World), roundsI (evI O N mb) M st1 = some outs1 → (∀ o ∈ outs1, o.2.stop = false → o.2.xs <+: full) → RelI l S J Jx st1 a1 w1 → (∀ o ∈ outs1, ∀ a' w', RelI l S J Jx o.2 a' w' → Q (exitOf o.1) a' w') →
        Code.roundsIn (Fw none) n P b Q M a1 w1 := by
      intro M
      induction M with
      | zero => intro st1 outs1 a1 w1 he; simp [roundsI] at he
      | succ M ihM =>
        intro st1 outs1 a1 w1 he hpre hR1 hQ1
        simp only [roundsI] at he
        split at he
        case h_2 => cases he
        rename_i l1 hl1
        rw [roundsIn_succ]
        refine ih _ h hy st1 l1 hl1 (pre_cont (fun st outs h => Goes.rounds (fun st outs h => evI_goes _ st outs h) M st outs h) he hpre) n a1 w1 _ hR1 fun o ho a2 w2 hR2 => ?_
        obtain ⟨r, h4, h5⟩ := bindL_some he o ho
        obtain ⟨x, st'⟩ := o
        cases x with
        | normal => exact ihM st' r a2 w2 h4 (fun o ho => hpre o (h5 o ho)) hR2 fun o ho => hQ1 o (h5 o ho)
        | exit id =>
          simp only [contI, Option.some.injEq] at h4
          subst h4
          exact hQ1 _ (h5 _ (by simp)) a2 w2 hR2
        | ret =>
          simp only [contI, Option.some.injEq] at h4
          subst h4
          exact hQ1 _ (h5 _ (by simp)) a2 w2 hR2
    exact key N st outs a' w he hpre hR hQ
  | rangeFunc f ps a b iha ihb =>
    intro mc h hy
    refine ungive (fun t m _ => codeI_seal) ?_ mc h
    clear h mc
    intro mc h hns
    simp only [compC] at h
    split at h
    case h_2 => exact bad _ mc h.symm
    cases mc <;> simp [MC.strip, MC.isSeal] at h hns
    intro st outs he
    simp [evI] at he
  | _ => intro mc h _; exact bad _ mc h.symm
end
end Go.Proofs.Ytbdleggmdbihnaa
namespace Go.Proofs.Ytbdleggmdbihnaa
open Go.RowKit
def outX : MX2 → Bool
  | .exit _ => false
  | _ => true
def itM (O : Oracle) (N : Nat) (mf : MF) (q : Nat) (caps : List MV) (h : MHeap) : Option (List (List MV)) :=
  let ids := caps.flatMap (MV.ids h 6)
  match caps.mapM (frz 0 ((List.range h.length).filter fun i => !ids.contains i) h 8) with
  | some cs => match mf.res, evI O N mf.body ⟨cs.take q ++ [.yld] ++ cs.drop q ++ List.replicate (mf.ntmps - (cs.length + 1)) (.lit undef), [], 0, [], false⟩ with
    | [], some outs => if outs.all fun o => outX o.1 then match outs.filter fun o => !o.2.stop with
        | [o] => if o.2.xs.all fun x => x.all MV.cl then some o.2.xs else none
        | _ => none
      else none
    | _, _ => none
  | none => none
def bodySeq (P : Program) (g : Nat) : Bool :=
  match P.funcs[g]? with
  | some fn => match fn.body with
    | some b => seqY P b
    | none => false
  | none => false
theorem SoundI_one {P : Program} {O : Oracle} {N : Nat} (hm : P.follows .mixedOrders = true) (hO : SoundO P O) (hA : AppO O) {g : Nat} {mf : MF} (hf : IsF P g mf) (hsq : bodySeq P g = true) {q : Nat} {caps : List MV} {h : MHeap} {xs : List (List MV)} (he : itM O N mf q caps h = some xs) :
    (∀ x ∈ xs, ∀ m ∈ x, m.cl = true) ∧ ∀ E w vs, HRel E h w → Vs E w caps vs →
    ∃ S : Nat → Prop, (∀ k, S k → E.S k ∨ ∃ id, id ∈ caps.flatMap (MV.ids h 6) ∧ E.K id ∧ 0 < E.cp id ∧ E.ρ id = k) ∧ IterK P g (vs.take q).toArray (vs.drop q).toArray (xs.map fun x => (x.map concV).toArray) S w := by
  obtain ⟨fn, b, h1, h2, h3, h4, h5⟩ := hf
  have hsb : seqY P b = true := by unfold bodySeq at hsq; rw [h1] at hsq; simp only [h2] at hsq; exact hsq
  unfold itM at he
  dsimp only at he
  split at he
  case h_2 => cases he
  rename_i cs hcs
  split at he
  case h_2 => cases he
  rename_i outs hres hev
  split at he
  case isFalse => cases he
  rename_i hout
  split at he
  case h_2 => cases he
  rename_i o hfil
  split at he
  case isFalse => cases he
  rename_i hcl
  cases he
  have hin : o ∈ outs ∧ o.2.stop = false := by
    have : o ∈ outs.filter fun o => !o.2.stop := by rw [hfil]; simp
    simpa using List.mem_filter.1 this
  have hone : ∀ p ∈ outs, p.2.stop = false → p = o := fun p hp hs => by
    have : p ∈ outs.filter fun o => !o.2.stop := List.mem_filter.2 ⟨hp, by simp [hs]⟩
    rw [hfil] at this
    simpa using this
  refine ⟨fun x hx m hmx => List.all_eq_true.1 (List.all_eq_true.1 hcl x hx) m hmx, fun E w vs hr hv => ⟨fun k => E.S k ∨ ∃ id, id ∈ caps.flatMap (MV.ids h 6) ∧ E.K id ∧ 0 < E.cp id ∧ E.ρ id = k, fun k hk => hk, ?_⟩⟩
  obtain ⟨S, hS⟩ : ∃ S : Nat → Prop, S = fun k => E.S k ∨ ∃ id, id ∈ caps.flatMap (MV.ids h 6) ∧ E.K id ∧ 0 < E.cp id ∧ E.ρ id = k := ⟨_, rfl⟩
  rw [← hS]
  intro l J Jx W hb ab abx hyield h0
  obtain ⟨Ei, hEi⟩ : ∃ Ei : Env, Ei = { E.res 0 with S := S, top := 0, yl := l } := ⟨_, rfl⟩
  have hVi : ∀ m v, V E w m v → m.lt 0 = true → V Ei w m v := fun m v hv hl => by
    have := V.resY l hv hl
    refine V.env ⟨fun b hb => ?_, fun id hk => ?_, ?_⟩ this
    · rw [hEi, hS]; exact Or.inl hb
    · rw [hEi]; exact ⟨hk, rfl, rfl, rfl, rfl, rfl, rfl, rfl⟩
    · rw [hEi]
  have hck : CKd 0 w W := CKd.of_below hb
  obtain ⟨c1, c2⟩ := mapM_some hcs
  have hcv : Vs Ei W cs vs := ⟨by rw [← c1]; exact hv.1, fun i c v hc hx => by
    have hi : i < caps.length := by rw [c1]; exact (List.getElem?_eq_some_iff.1 hc).1
    have hci : caps[i]? = some caps[i] := by simp
    refine V.ck hck (frz_okG (Es := Ei) hr hVi (fun b hb => by rw [hEi, hS]; exact Or.inl hb) (fun id hk _ hni hc0 => ?_) 8 _ _ _ (hv.2 i _ v hci hx) (c2 i _ c hci hc))
    rw [hEi, hS]
    refine Or.inr ⟨id, ?_, hk, hc0, rfl⟩
    have hlt := hr.klt id hk
    refine Classical.byContradiction fun hn => hni (List.mem_filter.2 ⟨List.mem_range.2 hlt, ?_⟩)
    simpa using hn⟩
  have hSlt : ∀ k, S k → k < w.heap.size := fun k hk => by
    rw [hS] at hk
    rcases hk with hk | ⟨id, _, hk, hc, rfl⟩
    · exact hr.slt k hk
    · exact hr.lt hk hc
  have hri : HRel Ei [] W := ⟨fun id hk => by rw [hEi] at hk; exact absurd hk.2 (by omega), by rw [hEi]; exact Nat.le_refl _, fun id hk => by rw [hEi] at hk; exact absurd hk.2 (by omega), fun id _ hk => by rw [hEi] at hk; exact absurd hk.2 (by omega), fun id hk => by rw [hEi] at hk; exact absurd hk.2 (by omega), fun b hbS => by
    rw [hEi] at hbS
    exact Nat.lt_of_lt_of_le (hSlt b hbS) hb.size⟩
  have hargs : Vs Ei W (cs.take q ++ [.yld] ++ cs.drop q) (vs.take q ++ [.func (.yield l) #[] #[]] ++ vs.drop q) := by
    refine ((hcv.take q).append (Vs.cons ?_ ⟨rfl, fun i c v hc => by simp at hc⟩)).append (hcv.drop q)
    have : Ei.yl = l := by rw [hEi]
    rw [← this]
    exact .yld
  have hlen : (cs.take q ++ [MV.yld] ++ cs.drop q).length = cs.length + 1 := by simp; omega
  have hlen2 : (vs.take q ++ [Value.func (.yield l) #[] #[]] ++ vs.drop q).length = vs.length + 1 := by simp; omega
  have e1 : (vs.take q).toArray ++ #[Value.func (.yield l) #[] #[]] ++ (vs.drop q).toArray = (vs.take q ++ [Value.func (.yield l) #[] #[]] ++ vs.drop q).toArray := by apply Array.ext'; simp
  rw [e1]
  refine callsIn_of_wp h1 h2 trivial ?_ rfl
  refine compC_itok (full := o.2.xs) (l := l) (S := S) (J := J) (Jx := Jx) (N := N) hm hO hA ⟨ab, abx, hyield⟩ b mf.body h5 hsb _ outs hev (fun p hp hs => by rw [hone p hp hs]; exact List.prefix_refl _) 0 _ W _ ?_ fun p hp a' w' hR' => ?_
  · refine ⟨Ei, Ei, W, fun _ => False, ⟨?_, fun i c v hc hcv' => ?_⟩, hri, by rw [hEi], Ext.refl _ _ _, fun id hk => by rw [hEi] at hk; exact hk.2, fun b hbS => .inl (by rw [hEi] at hbS; exact hbS), fun id hk => by rw [hEi] at hk; exact absurd hk.2 (by omega), fun b hb => hb.elim, (fun h => by cases h), (fun _ => h0), rfl⟩
    · rw [List.length_append, hlen, h3]
      simp only [List.length_replicate, Array.size_append, List.size_toArray, hlen2, Array.size_replicate]
      rw [hcv.1]
    · by_cases hi : i < cs.length + 1
      · rw [List.getElem?_append_left (by rw [hlen]; exact hi)] at hc
        have hi' : i < (vs.take q ++ [Value.func (.yield l) #[] #[]] ++ vs.drop q).length := by rw [hlen2, ← hcv.1]; exact hi
        simp only [Array.getElem?_append, List.size_toArray, hi', if_true] at hcv'
        exact hargs.2 i c v hc (by simpa using hcv')
      · rw [List.getElem?_append_right (by rw [hlen]; omega)] at hc
        have hi' : ¬ i < (vs.take q ++ [Value.func (.yield l) #[] #[]] ++ vs.drop q).length := by rw [hlen2, ← hcv.1]; exact hi
        simp only [Array.getElem?_append, List.size_toArray, hi', if_false] at hcv'
        rw [List.getElem?_replicate] at hc
        rw [Array.getElem?_replicate] at hcv'
        split at hc
        · split at hcv'
          · cases hc; cases hcv'; exact .lit _
          · cases hcv'
        · cases hc
  · obtain ⟨E', E1, w1, T, k1, k2, k3, k4, k5, k6, k7, k8, k9, k10, k11⟩ := hR'
    have hbel := ext_below k4 k5
    have hrz : fn.results = #[] := by
      rw [hres] at h4
      have := (mapM_some h4).1
      simp at this
      exact this
    have hgo : (∃ v, Ending.returned (.tuple #[]) = .returned v) ∧ ((∃ T, J T (List.map (fun x => (List.map concV x).toArray) o.2.xs).length w') ∨ Jx w') := by
      refine ⟨⟨_, rfl⟩, ?_⟩
      cases hs : p.2.stop
      · have := hone p hp hs
        subst this
        refine .inl ⟨T, ?_⟩
        rw [List.length_map]
        exact ab T T _ _ _ (k10 hs) hbel fun b h => .inl h
      · exact .inr (abx _ _ (k9 hs) hbel)
    have hx := List.all_eq_true.1 hout p hp
    obtain ⟨x, st'⟩ := p
    cases x with
    | normal => exact bodyPost_end (results_none hrz _ _ _) k11 hgo
    | ret => exact bodyPost_ret (results_none hrz _ _ _) k11 hgo
    | exit id => simp [outX] at hx
structure Tab where
  mf : Nat → Option MF
  sq : Nat → Bool
def orI (M : Tab) (I0 : Iter) (O : Oracle) (N : Nat) : Iter := fun g q caps h =>
  match I0 g q caps h with
  | some xs => some xs
  | none => if M.sq g then match M.mf g with
    | some mf => itM O N mf q caps h
    | none => none else none
def TabOK (P : Program) (M : Tab) : Prop := ∀ f mf, M.mf f = some mf → hasBody P f = true ∧ IsF P f mf ∧ (M.sq f = true → bodySeq P f = true)
theorem orI_ok {P : Program} {M : Tab} (hm : P.follows .mixedOrders = true) (hM : TabOK P M) {I0 : Iter} (hI : SoundI P I0) {O : Oracle} (hO : SoundO P O) (hA : AppO O) {N : Nat} : SoundI P (orI M I0 O N) := by
  intro g q caps h xs he
  unfold orI at he
  split at he
  · rename_i xs' hx
    cases he
    exact hI g q caps h xs hx
  · split at he
    case isFalse => cases he
    rename_i hs
    split at he
    case h_2 => cases he
    rename_i mf hmf
    obtain ⟨k1, k2, k3⟩ := hM g mf hmf
    exact ⟨k1, SoundI_one hm hO hA k2 (k3 hs) he⟩
def noO : Oracle := fun _ _ _ => none
def noI : Iter := fun _ _ _ _ => none
theorem noO_ok (P : Program) (hS : SortsOK P) : SoundO P noO := ⟨(fun f args h m h' he => by cases he), hS⟩
theorem noI_ok (P : Program) : SoundI P noI := fun g q caps h xs he => by cases he
def tabOf (P : Program) : Tab := ⟨fun f => if hasBody P f then compF P f else none, bodySeq P⟩
theorem tabOf_ok (P : Program) : TabOK P (tabOf P) := fun f mf h => by
  simp only [tabOf] at h
  split at h
  · rename_i hb
    exact ⟨hb, compF_isF h, fun h => h⟩
  · cases h
end Go.Proofs.Ytbdleggmdbihnaa
namespace Go.Proofs.Ytbdleggmdbihnaa
open Go.RowKit
set_option linter.unusedVariables false
mutual
def MV.pure : MV → Bool
  | .lit _ | .junk => true
  | .agg cs => pureL cs
  | .tup vs => pureL vs
  | .fn _ _ cs => pureL cs
  | .sl [] => true
  | _ => false
def pureL : List MV → Bool
  | [] => true
  | v :: vs => v.pure && pureL vs
end
theorem pureL_at : ∀ {l : List MV}, pureL l = true → ∀ (i : Nat) m, l[i]? = some m → m.pure = true
  | [], h, i, m, hi => by simp at hi
  | v :: vs, h, 0, m, hi => by simp at hi; subst hi; simp only [pureL, Bool.and_eq_true] at h; exact h.1
  | v :: vs, h, i + 1, m, hi => by simp at hi; simp only [pureL, Bool.and_eq_true] at h; exact pureL_at h.2 i m hi
theorem V.pure {E E2 : Env} {w w2 : World} {m : MV} {v : Value} (hv : V E w m v) : m.pure = true → V E2 w2 m v := by
  induction hv with
  | junk v => exact fun _ => .junk v
  | lit v => exact fun _ => .lit v
  | agg cs vs hl _ ih => exact fun h => .agg cs vs hl fun i c v hc hx => ih i c v hc hx (by simp only [MV.pure] at h; exact pureL_at h i c hc)
  | tup cs vs hl _ ih => exact fun h => .tup cs vs hl fun i c v hc hx => ih i c v hc hx (by simp only [MV.pure] at h; exact pureL_at h i c hc)
  | fn f k cs vs hl _ ih => exact fun h => .fn f k cs vs hl fun i c v hc hx => ih i c v hc hx (by simp only [MV.pure] at h; exact pureL_at h i c hc)
  | sl es vs A cap sz hc hs hl _ _ _ =>
    intro h
    cases es with
    | nil => exact .sl [] vs A cap sz hc hs hl (fun i c v hc => by simp [flat] at hc) (fun h0 => absurd h0 (by simp))
    | cons e es => simp [MV.pure] at h
  | _ => intro h; simp [MV.pure] at h
theorem pure_cells {m : MV} (h : m.pure = true) : ∀ (i : Nat) c, m.cells[i]? = some c → c.pure = true := by
  intro i c hc
  cases m <;> simp only [MV.cells] at hc
  case agg cs => simp only [MV.pure] at h; exact pureL_at h i c hc
  all_goals
    cases i with
    | zero => simp at hc; subst hc; exact h
    | succ i => simp at hc
def sh1 (n : Nat) : MV → MV
  | .arr id i k g => .arr (id + n) i k g
  | m => m
def shV (n : Nat) : MV → MV
  | .tup vs => .tup (vs.map (sh1 n))
  | m => sh1 n m
def ok1 (p : Bool) : MV → Bool
  | .arr _ _ _ _ => true
  | m => m.lt 0 && (p || m.pure)
def okV (p : Bool) : MV → Bool
  | .tup vs => vs.all (ok1 p)
  | m => ok1 p m
def okH (p : Bool) (news : MHeap) : Bool := news.all fun o => ltL 0 o.es && (p || pureL o.es)
def frzCall (run : List MV → Option (MV × MHeap)) (args : List MV) (h : MHeap) : Option (MV × MHeap) :=
  match args.mapM (frz 0 [] h 8) with
  | some args' => match run args' with
    | some (m, news) => if okV (ltL 0 args) m && okH (ltL 0 args) news then some (shV h.length m, h ++ news) else none
    | none => none
  | none => none
def Post (E : Env) (w : World) (m : MV) (h' : MHeap) (e : Ending) (w' : World) : Prop := ∃ v E', e = .returned v ∧ V E' w' m v ∧ HRel E' h' w' ∧ Ext (fun _ => true) E w E' w'
theorem frz_lt0 {h : MHeap} {m m' : MV} (hl : m.lt 0 = true) (he : frz 0 [] h 8 m = some m') : m' = m := by
  simp [frz, hl] at he
  exact he.symm
theorem post_back {E : Env} {h : MHeap} {w : World} {S0 : Nat → Prop} {news : MHeap} {m : MV} {e : Ending} {w' : World} {p : Bool} (hr : HRel E h w) (h1 : ∀ b, E.S b → S0 b) (h2 : ∀ b, S0 b → E.S b ∨ ∃ id, E.K id ∧ 0 < E.cp id ∧ E.ρ id = b)
    (hp : p = true → ∀ b, S0 b → E.S b) (hm : okV p m = true) (hn : okH p news = true) (hP : Post { E with K := fun _ => False, S := S0, top := 0 } w m news e w') : Post E w (shV h.length m) (h ++ news) e w' := by
  obtain ⟨v, E1, rfl, hv1, hr1, hx1⟩ := hP
  have hnew : ∀ id, E1.K id → 0 < E1.cp id → w.heap.size ≤ E1.ρ id := fun id hk hc => by
    rcases hx1.src id hk hc with ⟨hf, _⟩ | hge
    · exact hf.elim
    · exact hge
  have hkeep : ∀ k, k < w.heap.size → w'.heap[k]? = w.heap[k]? := fun k hk => hx1.keep k hk fun id hf => hf.elim
  have hS1 : ∀ b, E1.S b → S0 b ∨ w.heap.size ≤ b := fun b hb => by
    rcases hx1.srcS b hb with hb | ⟨id, hf, _⟩ | hb
    · exact .inl hb
    · exact hf.elim
    · exact .inr hb
  obtain ⟨E', hE'⟩ : ∃ E' : Env, E' = { S := fun b => E.S b ∨ (p = true ∧ E1.S b), K := fun id => E.K id ∨ (h.length ≤ id ∧ E1.K (id - h.length)), ρ := fun id => if id < h.length then E.ρ id else E1.ρ (id - h.length), bo := fun id => if id < h.length then E.bo id else E1.bo (id - h.length), cp := fun id => if id < h.length then E.cp id else E1.cp (id - h.length), sz := fun id => if id < h.length then E.sz id else E1.sz (id - h.length), gn := fun id => if id < h.length then E.gn id else E1.gn (id - h.length), ln := fun id => if id < h.length then E.ln id else E1.ln (id - h.length), nl := fun id => if id < h.length then E.nl id else E1.nl (id - h.length), top := E.top, yl := E.yl } := ⟨_, rfl⟩
  have eS : ∀ b, E'.S b ↔ E.S b ∨ (p = true ∧ E1.S b) := fun b => by rw [hE']
  have eK : ∀ id, E'.K id ↔ E.K id ∨ (h.length ≤ id ∧ E1.K (id - h.length)) := fun id => by rw [hE']
  have eold : ∀ id, E.K id → id < h.length ∧ E'.ρ id = E.ρ id ∧ E'.bo id = E.bo id ∧ E'.cp id = E.cp id ∧ E'.sz id = E.sz id ∧ E'.gn id = E.gn id ∧ E'.ln id = E.ln id ∧ E'.nl id = E.nl id := fun id hk => by
    have hl := hr.klt id hk
    rw [hE']; simp [hl]
  have enew : ∀ id, E'.ρ (id + h.length) = E1.ρ id ∧ E'.bo (id + h.length) = E1.bo id ∧ E'.cp (id + h.length) = E1.cp id ∧ E'.sz (id + h.length) = E1.sz id ∧ E'.gn (id + h.length) = E1.gn id ∧ E'.ln (id + h.length) = E1.ln id ∧ E'.nl (id + h.length) = E1.nl id := fun id => by
    have hl : ¬ id + h.length < h.length := by omega
    rw [hE']; simp [hl]
  have kcase : ∀ id, E'.K id → E.K id ∨ ∃ j, id = j + h.length ∧ E1.K j := fun id hk => by
    rcases (eK id).1 hk with hk | ⟨h1, h2⟩
    · exact .inl hk
    · exact .inr ⟨id - h.length, by omega, h2⟩
  have ey : E'.yl = E1.yl := by rw [hx1.yl, hE']
  have ey2 : E'.yl = E.yl := by rw [hE']
  have et : E'.top = E.top := by rw [hE']
  have hx : Ext (fun _ => true) E w E' w' := by
    refine ⟨hx1.os, hx1.tape, hx1.output, hx1.size, fun k hk _ => hkeep k hk, fun b hb => (eS b).2 (.inl hb), fun id hk => (eK id).2 (.inl hk), fun id hk => ?_, fun id hk _ => ?_, fun id hk hc => ?_, et, fun id hk => ?_, ey2, fun b hb => ?_⟩
    · obtain ⟨_, a1, a2, a3, a4, a5, a6, a7⟩ := eold id hk
      exact ⟨by omega, fun _ => ⟨a1, a2, a3, a4, a6, a7⟩⟩
    · exact (eold id hk).2.2.2.2.2.1
    · rcases kcase id hk with hk | ⟨j, rfl, hk'⟩
      · obtain ⟨_, a1, a2, a3, a4, a5, a6, a7⟩ := eold id hk
        exact .inl ⟨hk, by rw [← a3]; exact hc, a1⟩
      · obtain ⟨a1, a2, a3, _⟩ := enew j
        rw [a1]
        exact .inr (hnew j hk' (by rw [← a3]; exact hc))
    · rcases kcase id hk with hk | ⟨j, rfl, hk'⟩
      · exact .inl hk
      · exact .inr (by have := hr.top; omega)
    · rcases (eS b).1 hb with hb | ⟨hp1, hb⟩
      · exact .inl hb
      · rcases hS1 b hb with hb | hb
        · exact .inl (hp hp1 b hb)
        · exact .inr (.inr hb)
  have hT : ∀ c x, V E1 w' c x → c.lt 0 = true → (p || c.pure) = true → V E' w' c x := fun c x hc hl hpc => by
    cases hpp : p
    · rw [hpp] at hpc
      exact hc.pure (by simpa using hpc)
    · exact V.env (E := E1.res 0) ⟨fun b hb => (eS b).2 (.inr ⟨hpp, hb⟩), fun id hk => absurd hk.2 (by omega), ey⟩ (hc.res hl)
  have hT1 : ∀ c x, V E1 w' c x → ok1 p c = true → V E' w' (sh1 h.length c) x := fun c x hc ho => by
    cases c with
    | arr id i k g =>
      cases hc with
      | arr _ _ _ _ A cap hk hg hd =>
        obtain ⟨a1, a2, a3, a4, a5, a6, a7⟩ := enew id
        refine .arr _ _ _ _ A cap ((eK _).2 (.inr ⟨by omega, by rw [Nat.add_sub_cancel]; exact hk⟩)) (by rw [a5]; exact hg) fun e => ?_
        rw [a1, a2, a3, a4, a6, a7]
        exact hd (by rw [← a5]; exact e)
    | _ =>
      simp only [ok1, Bool.and_eq_true] at ho
      exact hT _ x hc ho.1 ho.2
  have hV : V E' w' (shV h.length m) v := by
    cases m with
    | tup vs =>
      cases hv1 with
      | tup _ us hl hc =>
        refine .tup _ us (by simpa using hl) fun i c x hci hx => ?_
        rw [List.getElem?_map, Option.map_eq_some_iff] at hci
        obtain ⟨c0, h0, rfl⟩ := hci
        exact hT1 c0 x (hc i c0 x h0 hx) (List.all_eq_true.1 hm c0 (List.mem_of_getElem? h0))
    | _ => exact hT1 _ v hv1 hm
  refine ⟨v, E', rfl, hV, ⟨fun id hk => ?_, ?_, fun id hk => ?_, fun i j hi hj ci cj e => ?_, fun id hk hc hb => ?_, fun b hb => ?_⟩, hx⟩
  · rcases kcase id hk with hk | ⟨j, rfl, hk'⟩
    · have := hr.klt id hk; simp; omega
    · have := hr1.klt j hk'; simp; omega
  · rw [et]; have := hr.top; simp; omega
  · rcases kcase id hk with hk | ⟨j, rfl, hk'⟩
    · obtain ⟨es, o1, o2, o3, o4, o5⟩ := hr.obj id hk
      obtain ⟨hl, a1, a2, a3, a4, a5, a6, a7⟩ := eold id hk
      rw [a1, a2, a3, a4, a5, a6, a7]
      refine ⟨es, by rw [List.getElem?_append_left hl]; exact o1, o2, o3, o4, fun hc => ?_⟩
      obtain ⟨arr, t, b1, b2, b3⟩ := o5 hc
      refine ⟨arr, t, by rw [hkeep _ (hr.lt hk hc)]; exact b1, b2, fun k c hkc => ?_⟩
      obtain ⟨x, c1, c2⟩ := b3 k c hkc
      exact ⟨x, c1, c2.ext hr hx⟩
    · obtain ⟨es, o1, o2, o3, o4, o5⟩ := hr1.obj j hk'
      obtain ⟨a1, a2, a3, a4, a5, a6, a7⟩ := enew j
      rw [a1, a2, a3, a4, a5, a6, a7]
      have hok : (ltL 0 es && (p || pureL es)) = true := List.all_eq_true.1 hn _ (List.mem_of_getElem? o1)
      simp only [Bool.and_eq_true, Bool.or_eq_true] at hok
      refine ⟨es, by rw [List.getElem?_append_right (by omega), Nat.add_sub_cancel]; exact o1, o2, o3, o4, fun hc => ?_⟩
      obtain ⟨arr, t, b1, b2, b3⟩ := o5 hc
      refine ⟨arr, t, b1, b2, fun k c hkc => ?_⟩
      obtain ⟨x, c1, c2⟩ := b3 k c hkc
      obtain ⟨ei, hei, hci⟩ := List.mem_flatMap.1 (List.mem_of_getElem? hkc)
      obtain ⟨i1, hi1⟩ := List.getElem?_of_mem hei
      obtain ⟨i2, hi2⟩ := List.getElem?_of_mem hci
      refine ⟨x, c1, hT c x c2 (lt_cells (ltL_at hok.1 i1 ei hi1) i2 c hi2) ?_⟩
      rcases hok.2 with hp1 | hp1
      · simp [hp1]
      · simp [pure_cells (pureL_at hp1 i1 ei hi1) i2 c hi2]
  · rcases kcase i hi with hi | ⟨i', rfl, hi'⟩
    · rcases kcase j hj with hj | ⟨j', rfl, hj'⟩
      · obtain ⟨_, a1, _, a3, _⟩ := eold i hi
        obtain ⟨_, b1, _, b3, _⟩ := eold j hj
        rw [a3] at ci; rw [b3] at cj; rw [a1, b1] at e
        exact hr.inj i j hi hj ci cj e
      · obtain ⟨_, a1, _, a3, _⟩ := eold i hi
        obtain ⟨b1, _, b3, _⟩ := enew j'
        rw [a3] at ci; rw [b3] at cj; rw [a1, b1] at e
        have := hr.lt hi ci
        have := hnew j' hj' cj
        omega
    · rcases kcase j hj with hj | ⟨j', rfl, hj'⟩
      · obtain ⟨a1, _, a3, _⟩ := enew i'
        obtain ⟨_, b1, _, b3, _⟩ := eold j hj
        rw [a3] at ci; rw [b3] at cj; rw [a1, b1] at e
        have := hr.lt hj cj
        have := hnew i' hi' ci
        omega
      · obtain ⟨a1, _, a3, _⟩ := enew i'
        obtain ⟨b1, _, b3, _⟩ := enew j'
        rw [a3] at ci; rw [b3] at cj; rw [a1, b1] at e
        rw [hr1.inj i' j' hi' hj' ci cj e]
  · rcases kcase id hk with hk | ⟨j, rfl, hk'⟩
    · obtain ⟨_, a1, _, a3, _⟩ := eold id hk
      rw [a3] at hc; rw [a1] at hb
      have hlt := hr.lt hk hc
      rcases (eS _).1 hb with hb | ⟨hp1, hb⟩
      · exact hr.sep id hk hc hb
      · rcases hS1 _ hb with hb | hb
        · exact hr.sep id hk hc (hp hp1 _ hb)
        · omega
    · obtain ⟨a1, _, a3, _⟩ := enew j
      rw [a3] at hc; rw [a1] at hb
      rcases (eS _).1 hb with hb | ⟨hp1, hb⟩
      · have := hr.slt _ hb
        have := hnew j hk' hc
        omega
      · exact hr1.sep j hk' hc hb
  · rcases (eS _).1 hb with hb | ⟨hp1, hb⟩
    · exact Nat.lt_of_lt_of_le (hr.slt b hb) hx1.size
    · exact hr1.slt b hb
theorem frzCall_ok {P : Program} {f : Nat} {run : List MV → Option (MV × MHeap)} (hrun : ∀ args' m news, run args' = some (m, news) → ∀ E w vs, HRel E [] w → Vs E w args' vs → Calls P f vs.toArray w (Post E w m news))
    {args : List MV} {h h' : MHeap} {m : MV} (he : frzCall run args h = some (m, h')) {E : Env} {w : World} {vs : List Value} (hr : HRel E h w) (hv : Vs E w args vs) : Calls P f vs.toArray w (Post E w m h') := by
  unfold frzCall at he
  split at he
  case h_2 => cases he
  rename_i args' hargs
  split at he
  case h_2 => cases he
  rename_i m0 news hm
  split at he
  case isFalse => cases he
  rename_i hok
  simp only [Bool.and_eq_true] at hok
  cases he
  obtain ⟨q1, q2⟩ := mapM_some hargs
  by_cases hA : ltL 0 args = true
  · rw [hA] at hok
    have hv' : Vs { E with K := fun _ => False, S := E.S, top := 0 } w args' vs := by
      refine ⟨by rw [← q1]; exact hv.1, fun i c x hc hx => ?_⟩
      have hi : i < args.length := by rw [q1]; exact (List.getElem?_eq_some_iff.1 hc).1
      have hci : args[i]? = some args[i] := by simp
      have hl := ltL_at hA i _ hci
      rw [frz_lt0 hl (q2 i _ c hci hc)]
      exact V.env (E := E.res 0) (E2 := { E with K := fun _ => False, S := E.S, top := 0 }) ⟨fun b hb => hb, fun id hk => absurd hk.2 (by omega), rfl⟩ ((hv.2 i _ x hci hx).res hl)
    have hri : HRel { E with K := fun _ => False, S := E.S, top := 0 } [] w := ⟨fun _ hk => hk.elim, Nat.le_refl _, fun _ hk => hk.elim, fun _ _ hk => hk.elim, fun _ hk => hk.elim, hr.slt⟩
    exact (hrun args' m0 news hm _ w vs hri hv').mono fun e w' hP => post_back hr (fun b hb => hb) (fun b hb => .inl hb) (fun _ b hb => hb) hok.1 hok.2 hP
  · have hA' : ltL 0 args = false := by simpa using hA
    rw [hA'] at hok
    obtain ⟨S0, hS0⟩ : ∃ S0 : Nat → Prop, S0 = fun b => E.S b ∨ ∃ id, E.K id ∧ 0 < E.cp id ∧ E.ρ id = b := ⟨_, rfl⟩
    have hv' : Vs { E with K := fun _ => False, S := S0, top := 0 } w args' vs := by
      refine ⟨by rw [← q1]; exact hv.1, fun i c x hc hx => ?_⟩
      have hi : i < args.length := by rw [q1]; exact (List.getElem?_eq_some_iff.1 hc).1
      have hci : args[i]? = some args[i] := by simp
      refine frz_okG (Es := { E with K := fun _ => False, S := S0, top := 0 }) hr (fun m v hv hl => V.env (E := E.res 0) (E2 := { E with K := fun _ => False, S := S0, top := 0 }) ⟨fun b hb => (by rw [hS0]; exact .inl hb : S0 b), fun id hk => absurd hk.2 (by omega), rfl⟩ (hv.res hl)) (fun b hb => ?_) (fun id hk _ _ hc0 => ?_) 8 _ _ _ (hv.2 i _ x hci hx) (q2 i _ c hci hc)
      · show S0 b
        rw [hS0]; exact .inl hb
      · show S0 (E.ρ id)
        rw [hS0]; exact .inr ⟨id, hk, hc0, rfl⟩
    have hri : HRel { E with K := fun _ => False, S := S0, top := 0 } [] w := ⟨fun _ hk => hk.elim, Nat.le_refl _, fun _ hk => hk.elim, fun _ _ hk => hk.elim, fun _ hk => hk.elim, fun b hb => by
      have hb : S0 b := hb
      rw [hS0] at hb
      rcases hb with hb | ⟨id, hk, hc, rfl⟩
      · exact hr.slt b hb
      · exact hr.lt hk hc⟩
    exact (hrun args' m0 news hm _ w vs hri hv').mono fun e w' hP => post_back hr (fun b hb => by rw [hS0]; exact .inl hb) (fun b hb => by rw [hS0] at hb; exact hb) (fun h => by cases h) hok.1 hok.2 hP
theorem frzCall_app {run : List MV → Option (MV × MHeap)} {args : List MV} {h h' : MHeap} {m : MV} (he : frzCall run args h = some (m, h')) : ∃ t, h' = h ++ t := by
  unfold frzCall at he
  split at he
  · split at he
    · split at he
      · cases he; exact ⟨_, rfl⟩
      · cases he
    · cases he
  · cases he
def runZ (M : Tab) (O : Oracle) (I : Iter) (N f : Nat) (args : List MV) (h : MHeap) : Option (MV × MHeap) :=
  match M.mf f with
  | some mf => runF O I N mf args h
  | none => none
def tabZ (M : Tab) (T O : Oracle) (I : Iter) (N f : Nat) (args : List MV) : Option (MV × MHeap) :=
  match T f args [] with
  | some r => some r
  | none => runZ M O I N f args []
def orZ (M : Tab) (T : Oracle) (I0 : Iter) (N : Nat) : Nat → Oracle
  | 0, _, _, _ => none
  | k + 1, f, args, h => match frzCall (tabZ M T (orZ M T I0 N k) (orI M I0 (orZ M T I0 N k) N) N f) args h with
    | some r => some r
    | none => runZ M (orZ M T I0 N k) (orI M I0 (orZ M T I0 N k) N) N f args h
theorem runZ_ok {P : Program} {M : Tab} (hm : P.follows .mixedOrders = true) (hM : TabOK P M) {O : Oracle} {I : Iter} (hO : SoundO P O) (hA : AppO O) (hI : SoundI P I) {N f : Nat} {args : List MV} {h h' : MHeap} {m : MV} (he : runZ M O I N f args h = some (m, h')) :
    hasBody P f = true ∧ ∀ E w vs, HRel E h w → Vs E w args vs → Calls P f vs.toArray w (Post E w m h') := by
  unfold runZ at he
  split at he
  case h_2 => cases he
  rename_i mf hmf
  obtain ⟨k1, k2, k3⟩ := hM f mf hmf
  exact ⟨k1, fun E w vs hr hv => runF_ok hm hO hA hI k2 he hr hv⟩
theorem runZ_app {M : Tab} {O : Oracle} {I : Iter} {N f : Nat} {args : List MV} {h h' : MHeap} {m : MV} (he : runZ M O I N f args h = some (m, h')) : ∃ t, h' = h ++ t := by
  unfold runZ at he
  split at he
  case h_2 => cases he
  exact runF_app he
theorem tabZ_ok {P : Program} {M : Tab} (hm : P.follows .mixedOrders = true) (hM : TabOK P M) {T O : Oracle} {I : Iter} (hT : SoundO P T) (hO : SoundO P O) (hA : AppO O) (hI : SoundI P I) {N f : Nat} {args : List MV} {h' : MHeap} {m : MV} (he : tabZ M T O I N f args = some (m, h')) :
    hasBody P f = true ∧ ∀ E w vs, HRel E [] w → Vs E w args vs → Calls P f vs.toArray w (Post E w m h') := by
  unfold tabZ at he
  split at he
  · rename_i r hr
    cases he
    exact hT.1 f args [] m h' hr
  · exact runZ_ok hm hM hO hA hI he
theorem orZ_ok {P : Program} {M : Tab} (hm : P.follows .mixedOrders = true) (hM : TabOK P M) {T : Oracle} {I0 : Iter} (hT : SoundO P T) (hI : SoundI P I0) {N : Nat} : ∀ k, SoundO P (orZ M T I0 N k) ∧ AppO (orZ M T I0 N k)
  | 0 => ⟨⟨fun f args h m h' he => by simp [orZ] at he, hT.2⟩, fun f args h m h' he => by simp [orZ] at he⟩
  | k + 1 => by
    obtain ⟨h1, h2⟩ := orZ_ok (N := N) hm hM hT hI k
    have hI' : SoundI P (orI M I0 (orZ M T I0 N k) N) := orI_ok hm hM hI h1 h2
    refine ⟨⟨fun f args h m h' he => ?_, hT.2⟩, fun f args h m h' he => ?_⟩
    · simp only [orZ] at he
      split at he
      · rename_i r hr
        cases he
        have hb : hasBody P f = true := by
          unfold frzCall at hr
          split at hr
          case h_2 => cases hr
          split at hr
          case h_2 => cases hr
          rename_i hrun
          exact (tabZ_ok hm hM hT h1 h2 hI' hrun).1
        exact ⟨hb, fun E w vs hrl hv => frzCall_ok (fun args' m news hrun => (tabZ_ok hm hM hT h1 h2 hI' hrun).2) hr hrl hv⟩
      · exact runZ_ok hm hM h1 h2 hI' he
    · simp only [orZ] at he
      split at he
      · rename_i r hr
        cases he
        exact frzCall_app hr
      · exact runZ_app he
theorem orZ_call {M : Tab} {T : Oracle} {I0 : Iter} {N k f : Nat} {args args' : List MV} {h : MHeap} {m : MV} {news : MHeap} (h1 : args.mapM (frz 0 [] h 8) = some args') (h2 : tabZ M T (orZ M T I0 N k) (orI M I0 (orZ M T I0 N k) N) N f args' = some (m, news))
    (h3 : okV (ltL 0 args) m = true) (h4 : okH (ltL 0 args) news = true) : orZ M T I0 N (k + 1) f args h = some (shV h.length m, h ++ news) := by
  simp only [orZ, frzCall, h1, h2, h3, h4, Bool.and_self, if_true]
end Go.Proofs.Ytbdleggmdbihnaa

/- Evaluation with open values: slots as a list of what is known, rules for control. -/
namespace Go.Proofs.Ytbdleggmdbihnaa
open Go.RowKit
set_option linter.unusedVariables false
abbrev Sl := List (Nat × MV)
def look : Sl → Nat → Option MV
  | [], _ => none
  | (u, v) :: A, t => if t = u then some v else look A t
theorem look_cons (u : Nat) (v : MV) (A : Sl) (t : Nat) : look ((u, v) :: A) t = if t = u then some v else look A t := rfl
structure SRel (n : Nat) (A : Sl) (s : List MV) : Prop where
  len : s.length = n
  get : ∀ t v, look A t = some v → s.getD t (.lit undef) = v
theorem SRel.put {n : Nat} {A : Sl} {s : List MV} (h : SRel n A s) {t : Nat} (ht : t < n) (v : MV) : SRel n ((t, v) :: A) (s.set t v) := by
  refine ⟨by rw [List.length_set, h.len], fun u x hu => ?_⟩
  rw [look_cons] at hu
  by_cases e : u = t
  · subst e
    have hl := h.len
    rw [if_pos rfl] at hu
    cases hu
    simp [List.getD_eq_getElem?_getD, show u < s.length by omega]
  · rw [if_neg e] at hu
    rw [← h.get u x hu]
    simp [List.getD_eq_getElem?_getD, show ¬ t = u from fun x => e x.symm]
def XV (A : Sl) : MX → MV → Prop
  | .s t, v => look A t = some v
  | .c c, v => c = v
theorem SRel.x {n : Nat} {A : Sl} {s : List MV} (h : SRel n A s) {x : MX} {v : MV} (hx : XV A x v) : MX.get s x = v := by
  cases x with
  | s t => exact h.get t v hx
  | c c => exact hx
def XVs (A : Sl) : List MX → List MV → Prop
  | [], vs => vs = []
  | x :: xs, vs => ∃ v us, vs = v :: us ∧ XV A x v ∧ XVs A xs us
theorem XVs.nil {A : Sl} : XVs A [] [] := rfl
theorem XVs.cons {A : Sl} {x : MX} {xs : List MX} {v : MV} {vs : List MV} (h : XV A x v) (hs : XVs A xs vs) : XVs A (x :: xs) (v :: vs) := ⟨v, vs, rfl, h, hs⟩
theorem SRel.xs {n : Nat} {A : Sl} {s : List MV} (h : SRel n A s) : ∀ {xs : List MX} {vs : List MV}, XVs A xs vs → xs.map (MX.get s) = vs
  | [], vs, hx => by cases hx; rfl
  | x :: xs, vs, hx => by
    obtain ⟨v, us, rfl, h1, h2⟩ := hx
    simp only [List.map_cons, h.x h1, h.xs h2]
structure Ef (O : Oracle) (I : Iter) (N n : Nat) (lk : Nat → Bool) (mc : MC) (A : Sl) (h : MHeap) (Q : MX2 → Sl → MHeap → Prop) : Prop where
  run : ∀ s, SRel n A s → ∃ x s' h', evC O I N mc lk ⟨s, h⟩ = some (x, ⟨s', h'⟩) ∧ ∃ A', SRel n A' s' ∧ Q x A' h'
section
variable {O : Oracle} {I : Iter} {N n : Nat} {lk : Nat → Bool} {A : Sl} {h : MHeap} {Q : MX2 → Sl → MHeap → Prop}
theorem Ef.mono {mc : MC} {Q' : MX2 → Sl → MHeap → Prop} (hE : Ef O I N n lk mc A h Q) (hQ : ∀ x A h, Q x A h → Q' x A h) : Ef O I N n lk mc A h Q' := .mk fun s hs => by
  obtain ⟨x, s', h', h1, A', h2, h3⟩ := hE.run s hs
  exact ⟨x, s', h', h1, A', h2, hQ _ _ _ h3⟩
inductive seqQ (O : Oracle) (I : Iter) (N n : Nat) (lk : Nat → Bool) (b : MC) (Q : MX2 → Sl → MHeap → Prop) : MX2 → Sl → MHeap → Prop
  | normal (A : Sl) (h : MHeap) : Ef O I N n lk b A h Q → seqQ O I N n lk b Q .normal A h
  | ret (A : Sl) (h : MHeap) : Q .ret A h → seqQ O I N n lk b Q .ret A h
  | exit (id : Nat) (A : Sl) (h : MHeap) : Q (.exit id) A h → seqQ O I N n lk b Q (.exit id) A h
inductive blockQ (id : Nat) (Q : MX2 → Sl → MHeap → Prop) : MX2 → Sl → MHeap → Prop
  | normal (A : Sl) (h : MHeap) : Q .normal A h → blockQ id Q .normal A h
  | ret (A : Sl) (h : MHeap) : Q .ret A h → blockQ id Q .ret A h
  | here (A : Sl) (h : MHeap) : Q .normal A h → blockQ id Q (.exit id) A h
  | there (k : Nat) (A : Sl) (h : MHeap) : k ≠ id → Q (.exit k) A h → blockQ id Q (.exit k) A h
theorem ef_skip (hQ : Q .normal A h) : Ef O I N n lk .skip A h Q := .mk fun s hs => ⟨_, s, h, rfl, A, hs, hQ⟩
theorem ef_ret (hQ : Q .ret A h) : Ef O I N n lk .ret A h Q := .mk fun s hs => ⟨_, s, h, rfl, A, hs, hQ⟩
theorem ef_exit {id : Nat} (hQ : Q (.exit id) A h) : Ef O I N n lk (.exit id) A h Q := .mk fun s hs => ⟨_, s, h, rfl, A, hs, hQ⟩
theorem ef_seq {a b : MC} (hE : Ef O I N n lk a A h (seqQ O I N n lk b Q)) : Ef O I N n lk (.seq a b) A h Q := .mk fun s hs => by
  obtain ⟨x, s', h', h1, A', h2, h3⟩ := hE.run s hs
  cases h3 with
  | normal _ _ h3 =>
    obtain ⟨y, s2, h2', k1, k2⟩ := h3.run s' h2
    exact ⟨y, s2, h2', by simp only [evC, h1, k1], k2⟩
  | exit id _ _ h3 => exact ⟨_, s', h', by simp only [evC, h1], A', h2, h3⟩
  | ret _ _ h3 => exact ⟨_, s', h', by simp only [evC, h1], A', h2, h3⟩
theorem ef_block {id : Nat} {b : MC} (hE : Ef O I N n lk b A h (blockQ id Q)) : Ef O I N n lk (.block id b) A h Q := .mk fun s hs => by
  obtain ⟨x, s', h', h1, A', h2, h3⟩ := hE.run s hs
  cases h3 with
  | normal _ _ h3 => exact ⟨_, s', h', by simp only [evC, h1], A', h2, h3⟩
  | ret _ _ h3 => exact ⟨_, s', h', by simp only [evC, h1], A', h2, h3⟩
  | here _ _ h3 => exact ⟨.normal, s', h', by simp only [evC, h1, if_true], A', h2, h3⟩
  | there k _ _ hk h3 => exact ⟨.exit k, s', h', by simp only [evC, h1, if_neg hk], A', h2, h3⟩
theorem ef_cond {c : MX} {a b : MC} {t : Bool} (hc : XV A c (.lit (.bool t))) (h1 : t = true → Ef O I N n lk a A h Q) (h2 : t = false → Ef O I N n lk b A h Q) : Ef O I N n lk (.cond c a b) A h Q := .mk fun s hs => by
  have hc' := hs.x hc
  cases t
  · obtain ⟨x, s', h', k1, k2⟩ := (h2 rfl).run s hs
    exact ⟨x, s', h', by simp only [evC, hc', Bool.false_eq_true, if_false, k1], k2⟩
  · obtain ⟨x, s', h', k1, k2⟩ := (h1 rfl).run s hs
    exact ⟨x, s', h', by simp only [evC, hc', if_true, k1], k2⟩
theorem ef_condt {c : MX} {a b : MC} {t : Bool} (hc : XV A c (.lit (.bool t))) (ht : t = true) (h1 : Ef O I N n lk a A h Q) : Ef O I N n lk (.cond c a b) A h Q := ef_cond hc (fun _ => h1) fun e => by rw [ht] at e; cases e
theorem ef_condf {c : MX} {a b : MC} {t : Bool} (hc : XV A c (.lit (.bool t))) (ht : t = false) (h1 : Ef O I N n lk b A h Q) : Ef O I N n lk (.cond c a b) A h Q := ef_cond hc (fun e => by rw [ht] at e; cases e) fun _ => h1
theorem ef_nil (hQ : Q .normal A h) : Ef O I N n lk (.reg []) A h Q := .mk fun s hs => ⟨_, s, h, rfl, A, hs, hQ⟩
theorem ef_reg {g : GO} {os : List GO} (hE : ∀ s, SRel n A s → ∃ s1 h1 A1, evG lk O g ⟨s, h⟩ = some ⟨s1, h1⟩ ∧ SRel n A1 s1 ∧ Ef O I N n lk (.reg os) A1 h1 Q) : Ef O I N n lk (.reg (g :: os)) A h Q := .mk fun s hs => by
  obtain ⟨s1, h1, A1, e1, e2, e3⟩ := hE s hs
  obtain ⟨x, s', h', k1, k2⟩ := e3.run s1 e2
  refine ⟨x, s', h', ?_, k2⟩
  simp only [evC, Option.map_eq_some_iff] at k1 ⊢
  obtain ⟨st, k3, k4⟩ := k1
  exact ⟨st, by simp only [evR, e1, Option.bind_some, k3], k4⟩
theorem ef_op {t : Nat} {op : MO} {os : List GO} {v : MV} {h1 : MHeap} (he : ∀ s, SRel n A s → evO lk O s h op = some (v, h1)) (ht : Nat.blt t n = true) (hE : Ef O I N n lk (.reg os) ((t, v) :: A) h1 Q) : Ef O I N n lk (.reg (⟨none, some t, op⟩ :: os)) A h Q :=
  ef_reg fun s hs => ⟨s.set t v, h1, _, by simp only [evG, wantM, he s hs, if_true, putM], hs.put (by simpa [Nat.blt_eq] using ht) v, hE⟩
theorem ef_op0 {op : MO} {os : List GO} {v : MV} {h1 : MHeap} (he : ∀ s, SRel n A s → evO lk O s h op = some (v, h1)) (hE : Ef O I N n lk (.reg os) A h1 Q) : Ef O I N n lk (.reg (⟨none, none, op⟩ :: os)) A h Q :=
  ef_reg fun s hs => ⟨s, h1, _, by simp only [evG, wantM, he s hs, if_true, putM], hs, hE⟩
theorem wantM_x {s : List MV} (hs : SRel n A s) {u : Nat} {b x : Bool} (hg : look A u = some (.lit (.bool x))) : wantM s (some (u, b)) = some (x == b) := by
  simp only [wantM, hs.get u _ hg]
theorem ef_gy {u : Nat} {b : Bool} {t : Option Nat} {op : MO} {os : List GO} {x : Bool} (hg : look A u = some (.lit (.bool x))) (hx : x = b) (hE : Ef O I N n lk (.reg (⟨none, t, op⟩ :: os)) A h Q) : Ef O I N n lk (.reg (⟨some (u, b), t, op⟩ :: os)) A h Q := .mk fun s hs => by
  subst hx
  obtain ⟨y, s', h', k1, k2⟩ := hE.run s hs
  refine ⟨y, s', h', ?_, k2⟩
  simp only [evC, evR] at k1 ⊢
  have e1 : evG lk O ⟨some (u, x), t, op⟩ ⟨s, h⟩ = evG lk O ⟨none, t, op⟩ ⟨s, h⟩ := by
    simp only [evG, wantM_x hs hg, beq_self_eq_true]
    rfl
  rw [e1]; exact k1
theorem ef_gn {u t : Nat} {b x : Bool} {op : MO} {os : List GO} (hg : look A u = some (.lit (.bool x))) (hx : x = !b) (ht : Nat.blt t n = true)
    (hE : Ef O I N n lk (.reg os) ((t, .lit undef) :: A) h Q) : Ef O I N n lk (.reg (⟨some (u, b), some t, op⟩ :: os)) A h Q :=
  ef_reg fun s hs => ⟨s.set t (.lit undef), h, _, by
    simp only [evG, wantM_x hs hg, hx]
    cases b <;> simp [putM], hs.put (by simpa [Nat.blt_eq] using ht) _, hE⟩
theorem ef_gu {t u : Nat} {b : Bool} {op : MO} {os : List GO} (hg : look A u = some (.lit undef)) (ht : Nat.blt t n = true)
    (hE : Ef O I N n lk (.reg os) ((t, .lit undef) :: A) h Q) : Ef O I N n lk (.reg (⟨some (u, b), some t, op⟩ :: os)) A h Q :=
  ef_reg fun s hs => ⟨s.set t (.lit undef), h, _, by
    have : wantM s (some (u, b)) = some false := by simp only [wantM]; rw [hs.get u _ hg]; rfl
    simp [evG, this, putM], hs.put (by simpa [Nat.blt_eq] using ht) _, hE⟩
theorem blockQ_there {id k : Nat} (hk : Nat.beq k id = false) (hE : Q (.exit k) A h) : blockQ id Q (.exit k) A h :=
  .there k _ _ (fun e => by subst e; have h2 : Nat.beq k k = true := Nat.beq_refl k; rw [h2] at hk; cases hk) hE
def Sub (B A : Sl) : Prop := ∀ t v, look B t = some v → look A t = some v
theorem Ef.sub {mc : MC} {B : Sl} (hE : Ef O I N n lk mc B h Q) (hk : Sub B A) : Ef O I N n lk mc A h Q := .mk fun s hs =>
  hE.run s ⟨hs.len, fun t v ht => hs.get t v (hk t v ht)⟩
def Hold (A : Sl) (l : Sl) : Prop := ∀ p ∈ l, look A p.1 = some p.2
theorem Hold.nil {A : Sl} : Hold A [] := fun _ h => by cases h
theorem Hold.cons {A : Sl} {t : Nat} {v : MV} {l : Sl} (h : look A t = some v) (hl : Hold A l) : Hold A ((t, v) :: l) := fun p hp => by
  rcases List.mem_cons.1 hp with rfl | hp
  · exact h
  · exact hl p hp
theorem Hold.sub {A B : Sl} (h : Hold A B) : Sub B A := by
  intro t v ht
  induction B with
  | nil => simp [look] at ht
  | cons p B ih =>
    obtain ⟨u, x⟩ := p
    rw [look_cons] at ht
    split at ht
    · rename_i e
      cases ht
      subst e
      exact h _ List.mem_cons_self
    · exact ih (fun p hp => h p (List.mem_cons_of_mem _ hp)) ht
theorem keepS_get' (keep : List Nat) : ∀ (s : List MV) (i t : Nat), (keepS keep i s)[t]? = (s[t]?).map fun v => if keep.contains (i + t) then v else .junk
  | [], i, t => by simp [keepS]
  | v :: s, i, 0 => by simp [keepS]
  | v :: s, i, t + 1 => by
    simp only [keepS, List.getElem?_cons_succ]
    rw [keepS_get' keep s (i + 1) t, show i + 1 + t = i + (t + 1) by omega]
theorem keepS_len' (keep : List Nat) : ∀ (s : List MV) (i : Nat), (keepS keep i s).length = s.length
  | [], i => rfl
  | v :: s, i => by simp [keepS, keepS_len' keep s]
theorem keepS_getD {keep : List Nat} {s : List MV} {t : Nat} (ht : t ∈ keep) : (keepS keep 0 s).getD t (.lit undef) = s.getD t (.lit undef) := by
  rw [List.getD_eq_getElem?_getD, keepS_get', List.getD_eq_getElem?_getD]
  cases s[t]? <;> simp [ht]
def headH (keep : List Nat) (m : Nat) (A : Sl) (h : MHeap) : Prop := h.length ≤ m ∨ ((∀ t ∈ keep, ∃ v, look A t = some v ∧ v.lt m = true) ∧ hltL m (h.take m) = true)
theorem ltL_iff' {n : Nat} : ∀ {l : List MV}, ltL n l = true ↔ ∀ m ∈ l, m.lt n = true
  | [] => by simp [ltL]
  | v :: l => by simp [ltL, ltL_iff' (l := l)]
theorem headM_take {keep : List Nat} {m : Nat} {s : List MV} (hs : SRel n A s) (hh : headH keep m A h) : headM keep m ⟨s, h⟩ = ⟨keepS keep 0 s, h.take m⟩ := by
  unfold headM
  dsimp only
  split
  · rename_i hl
    rw [List.take_of_length_le hl]
  · rename_i hl
    rcases hh with h1 | ⟨h1, h2⟩
    · exact absurd h1 hl
    · rw [if_pos]
      rw [Bool.and_eq_true]
      refine ⟨ltL_iff'.2 fun v hv => ?_, h2⟩
      obtain ⟨t, ht⟩ := List.getElem?_of_mem hv
      rw [keepS_get', Option.map_eq_some_iff] at ht
      obtain ⟨v0, h3, rfl⟩ := ht
      simp only [Nat.zero_add]
      split
      · rename_i hc
        have hc' : t ∈ keep := by simpa using hc
        obtain ⟨v, q1, q2⟩ := h1 t hc'
        have := hs.get t v q1
        rw [List.getD_eq_getElem?_getD, h3] at this
        simp only [Option.getD_some] at this
        rw [this]
        exact q2
      · rfl
inductive loopQ (R : Sl → MHeap → Prop) (Q : MX2 → Sl → MHeap → Prop) : MX2 → Sl → MHeap → Prop
  | normal (A : Sl) (h : MHeap) : R A h → loopQ R Q .normal A h
  | ret (A : Sl) (h : MHeap) : Q .ret A h → loopQ R Q .ret A h
  | exit (id : Nat) (A : Sl) (h : MHeap) : Q (.exit id) A h → loopQ R Q (.exit id) A h
theorem look_mem {t : Nat} {v : MV} : ∀ {B : Sl}, look B t = some v → t ∈ B.map (·.1)
  | [], ht => by simp [look] at ht
  | (u, x) :: B, ht => by
    rw [look_cons] at ht
    split at ht
    · rename_i e; simp [e]
    · simp [look_mem ht]
theorem ef_loop {α : Type} {keep : List Nat} {b : MC} (Inv : α → Prop) (hd : α → Sl) (hp : α → MHeap) (ms : α → Nat) (a0 : α) (ks : List Nat) (hks : ∀ a, (hd a).map (·.1) = ks) (hk : ks.all (fun t => keep.contains t) = true) (h0 : Inv a0) (hN : ms a0 < N)
    (hA : Hold A (hd a0)) (hH : hp a0 = h)
    (hb : ∀ a, Inv a → Ef O I N n lk b (hd a) (hp a) (loopQ (fun A' h' => ∃ a', Inv a' ∧ ms a' < ms a ∧ Hold A' (hd a') ∧ headH keep h.length A' h' ∧ h'.take h.length = hp a') Q)) : Ef O I N n lk (.loop keep b) A h Q := .mk fun s hs => by
  have key : ∀ (M : Nat) (a : α) (A1 : Sl) (s1 : List MV) (h1 : MHeap), Inv a → ms a < M → SRel n A1 s1 → Hold A1 (hd a) → headH keep h.length A1 h1 → h1.take h.length = hp a →
      ∃ x s' h', rounds (fun st' => evC O I N b lk (headM keep h.length st')) M ⟨s1, h1⟩ = some (x, ⟨s', h'⟩) ∧ ∃ A', SRel n A' s' ∧ Q x A' h' := by
    intro M
    induction M with
    | zero => intro a A1 s1 h1 _ hM; omega
    | succ M ih =>
      intro a A1 s1 h1 hI hM hs1 hA1 hh1 hh2
      have e1 := headM_take hs1 hh1
      rw [hh2] at e1
      obtain ⟨x, s', h', k1, A', k2, k3⟩ := (hb a hI).run (keepS keep 0 s1) ⟨by rw [keepS_len', hs1.len], fun t v ht => by
        have hmem : t ∈ keep := by
          have := look_mem ht
          rw [hks] at this
          simpa using List.all_eq_true.1 hk t this
        rw [keepS_getD hmem]
        exact hs1.get t v (hA1.sub t v ht)⟩
      cases k3 with
      | normal _ _ k3 =>
        obtain ⟨a', j1, j2, j3, j4, j5⟩ := k3
        obtain ⟨x, s2, h2, i1, i2⟩ := ih a' A' s' h' j1 (by omega) k2 j3 j4 j5
        exact ⟨x, s2, h2, by simp only [rounds, e1, k1]; exact i1, i2⟩
      | exit id _ _ k3 => exact ⟨_, s', h', by simp only [rounds, e1, k1], A', k2, k3⟩
      | ret _ _ k3 => exact ⟨_, s', h', by simp only [rounds, e1, k1], A', k2, k3⟩
  obtain ⟨x, s', h', k1, k2⟩ := key N a0 A s h h0 hN hs hA (.inl (Nat.le_refl _)) (by rw [List.take_length, hH])
  exact ⟨x, s', h', by simp only [evC]; exact k1, k2⟩
def ResV (A : Sl) (h : MHeap) : MRes → MV → Prop
  | .tmp t, v => look A t = some v
  | .cell t ag, v => ∃ id i off g o e, look A t = some (.ptr id i off g) ∧ h[id]? = some o ∧ o.g = g ∧ o.es[i]? = some e ∧ rdCells e.cells off ag = some v
def ResVs (A : Sl) (h : MHeap) : List MRes → List MV → Prop
  | [], vs => vs = []
  | r :: rs, vs => ∃ v us, vs = v :: us ∧ ResV A h r v ∧ ResVs A h rs us
theorem ResVs.ok {s : List MV} (hs : SRel n A s) : ∀ {rs : List MRes} {vs : List MV}, ResVs A h rs vs → rs.mapM (resM s h) = some vs
  | [], vs, hr => by cases hr; rfl
  | r :: rs, vs, hr => by
    obtain ⟨v, us, rfl, h1, h2⟩ := hr
    have e1 : resM s h r = some v := by
      cases r with
      | tmp t => simp only [resM, hs.get t v h1]
      | cell t ag =>
        obtain ⟨id, i, off, g, o, e, q1, q2, q3, q4, q5⟩ := h1
        simp only [resM, hs.get t _ q1, q2, q3, if_true, q4, q5]
    simp only [List.mapM_cons, e1, ResVs.ok hs h2]
    rfl
def argsL : Nat → List MV → Sl
  | _, [] => []
  | i, v :: vs => (i, v) :: argsL (i + 1) vs
theorem look_args : ∀ (l : List MV) (i t : Nat) (v : MV), look (argsL i l) t = some v → i ≤ t ∧ l[t - i]? = some v
  | [], i, t, v, h => by simp [argsL, look] at h
  | x :: l, i, t, v, h => by
    rw [argsL, look_cons] at h
    split at h
    · rename_i e; subst e; cases h; simp
    · rename_i e
      obtain ⟨h1, h2⟩ := look_args l (i + 1) t v h
      refine ⟨by omega, ?_⟩
      obtain ⟨k, hk⟩ : ∃ k, t - i = k + 1 := ⟨t - i - 1, by omega⟩
      rw [hk, List.getElem?_cons_succ, ← show t - (i + 1) = k by omega]
      exact h2
def FinF (rs : List MRes) (m : MV) (news : MHeap) (x : MX2) (A : Sl) (h : MHeap) : Prop := outX x = true ∧ ∃ vs vs', ResVs A h rs vs ∧ (impIds 0 vs).Nodup ∧ expL 0 (impIds 0 vs) h vs 0 = some (vs', news) ∧ oneOf vs' = m
theorem runZ_of {M : Tab} {f : Nat} {rs : List MRes} {b : MC} {args : List MV} {m : MV} {news : MHeap} (hmf : M.mf f = some ⟨n, rs, b⟩) (hn : args.length ≤ n)
    (hE : Ef O I N n (fun _ => false) b (argsL 0 args) [] (FinF rs m news)) : runZ M O I N f args [] = some (m, news) := by
  obtain ⟨x, s', h', k1, A', k2, hx, vs, vs', r1, r2, r3, r4⟩ := hE.run (args ++ List.replicate (n - args.length) (.lit undef)) ⟨by simp; omega, fun t v ht => by
    obtain ⟨_, h1⟩ := look_args _ _ _ _ ht
    rw [Nat.sub_zero] at h1
    have hl := (List.getElem?_eq_some_iff.1 h1).1
    rw [List.getD_eq_getElem?_getD, List.getElem?_append_left hl, h1]
    rfl⟩
  unfold runZ
  rw [hmf]
  unfold runF
  have elk : (fun id => decide (id < ([] : MHeap).length)) = fun _ => false := by funext id; simp
  dsimp only
  rw [elk, k1]
  have hx' : x = .ret ∨ x = .normal := by cases x <;> simp [outX] at hx <;> simp
  dsimp only
  rw [if_pos hx', ResVs.ok k2 r1]
  simp only [List.length_nil, r2, if_true, r3, r4, List.nil_append]
theorem fin1 {x : MX2} {v v' : MV} {t : Nat} (hx : outX x = true) (hv : look A t = some v) (hl : v.lt 0 = true) (he : v = v') : FinF [.tmp t] v' [] x A h := by
  subst he
  refine ⟨hx, [v], [v], ⟨v, [], rfl, hv, rfl⟩, ?_, ?_, rfl⟩
  · cases v <;> first | (simp [MV.lt] at hl; done) | simp [impIds]
  · have hi : impIds 0 [v] = [] := by
      cases v <;> first | (simp [MV.lt] at hl; done) | simp [impIds]
    rw [hi]
    cases v <;> first | (simp [MV.lt] at hl; done) | simp [expL, frz, hl]
theorem fin2 {x : MX2} {a b : Value} {m : MV} {t u : Nat} (hx : outX x = true) (hv : look A t = some (.lit a)) (hw : look A u = some (.lit b)) (he : MV.tup [.lit a, .lit b] = m) : FinF [.tmp t, .tmp u] m [] x A h := by
  subst he
  exact ⟨hx, [.lit a, .lit b], [.lit a, .lit b], ⟨_, _, rfl, hv, _, _, rfl, hw, rfl⟩, by simp [impIds], by simp [expL, frz, MV.lt], rfl⟩
theorem hdl_nil {m : Nat} : ∀ t ∈ ([] : List Nat), ∃ v, look A t = some v ∧ v.lt m = true := fun t ht => by cases ht
theorem hdl_cons {m t : Nat} {v : MV} {ks : List Nat} (h : look A t = some v) (hl : v.lt m = true) (hs : ∀ t ∈ ks, ∃ v, look A t = some v ∧ v.lt m = true) : ∀ u ∈ t :: ks, ∃ v, look A u = some v ∧ v.lt m = true := fun u hu => by
  rcases List.mem_cons.1 hu with rfl | hu
  · exact ⟨v, h, hl⟩
  · exact hs u hu
theorem fin_arr {x : MX2} {t id i k k' g : Nat} {o : MObj} {es : List MV} {sz : Nat} {nl : Bool} (hx : outX x = true) (hv : look A t = some (.arr id i k g)) (ho : h[id]? = some o) (hg : o.g = g) (hk : i + k ≤ o.es.length) (hl : ltL 0 o.es = true) (he : (o.es.drop i).take k = es) (hz : o.sz = sz) (hn : o.nl = nl) (hkk : k = k') :
    FinF [.tmp t] (.arr 0 0 k' 0) [⟨0, nl, sz, es⟩] x A h := by
  subst he hz hn hkk
  refine ⟨hx, [.arr id i k g], [.arr 0 0 k 0], ⟨_, [], rfl, hv, rfl⟩, ?_, ?_, rfl⟩
  · simp [impIds]
  · simp [expL, ho, hg, hk, hl]
end
end Go.Proofs.Ytbdleggmdbihnaa
namespace Go.Proofs.Ytbdleggmdbihnaa
open Go.RowKit
set_option linter.unusedVariables false
abbrev I64 (n : Int) : MV := .lit (.int .i64 n)
abbrev Bo (b : Bool) : MV := .lit (.bool b)
section
variable {O : Oracle} {I : Iter} {N n : Nat} {lk : Nat → Bool} {A : Sl} {h : MHeap} {Q : MX2 → Sl → MHeap → Prop} {t : Nat} {os : List GO}
theorem SRel.parts {α β : Type} {s : List MV} {f : α → MX} {g : α → MV → β} (hs : SRel n A s) : ∀ {ps : List α} {vs : List MV}, XVs A (ps.map f) vs → (ps.map fun p => g p (MX.get s (f p))) = (ps.zip vs).map fun q => g q.1 q.2
  | [], vs, h => by cases h; rfl
  | p :: ps, vs, h => by
    obtain ⟨v, us, rfl, h1, h2⟩ := h
    simp only [List.map_cons, List.zip_cons_cons, hs.x h1, hs.parts h2]
def XLo (A : Sl) : Option MX → Int → Prop
  | none, l => l = 0
  | some x, l => XV A x (.lit (.int .i64 l))
theorem SRel.lo {s : List MV} (hs : SRel n A s) {lo : Option MX} {l : Int} (h : XLo A lo l) : ((lo.map (MX.get s)).map intOf?).getD (some 0) = some l := by
  cases lo with
  | none => cases h; rfl
  | some x => simp [hs.x h, intOf?]
variable (ht : Nat.blt t n = true)
include ht
theorem ef_mv {x : MX} {v : MV} (hx : XV A x v) (hE : Ef O I N n lk (.reg os) ((t, v) :: A) h Q) : Ef O I N n lk (.reg (⟨none, some t, .mv x⟩ :: os)) A h Q :=
  ef_op (fun S HS => by simp only [evO, HS.x hx]) ht hE
theorem ef_nil0 {sz : Nat} (hE : Ef O I N n lk (.reg os) ((t, .arr h.length 0 0 0) :: A) (h ++ [⟨0, true, sz, []⟩]) Q) : Ef O I N n lk (.reg (⟨none, some t, .nil0 sz⟩ :: os)) A h Q :=
  ef_op (fun S HS => by simp only [evO]) ht hE
theorem ef_pick {c x y : MX} {b : Bool} {v : MV} (hc : XV A c (.lit (.bool b))) (hv : XV A (bif b then x else y) v) (hE : Ef O I N n lk (.reg os) ((t, v) :: A) h Q) : Ef O I N n lk (.reg (⟨none, some t, .pick c x y⟩ :: os)) A h Q :=
  ef_op (fun s hs => by simp only [evO, hs.x hc]; cases b <;> simp only [cond_true, cond_false] at hv <;> simp [hs.x hv]) ht hE
theorem ef_pickb {c x y : MX} {b p q : Bool} (hc : XV A c (.lit (.bool b))) (hx : XV A x (.lit (.bool p))) (hy : XV A y (.lit (.bool q))) (hE : Ef O I N n lk (.reg os) ((t, .lit (.bool (bif b then p else q))) :: A) h Q) : Ef O I N n lk (.reg (⟨none, some t, .pick c x y⟩ :: os)) A h Q :=
  ef_op (fun s hs => by simp only [evO, hs.x hc, hs.x hx, hs.x hy]; cases b <;> rfl) ht hE
theorem ef_new {z : MV} (hE : Ef O I N n lk (.reg os) ((t, .ptr h.length 0 0 0) :: A) (h ++ [⟨0, false, z.cells.length, [z]⟩]) Q) : Ef O I N n lk (.reg (⟨none, some t, .new z⟩ :: os)) A h Q :=
  ef_op (fun S HS => by simp only [evO]) ht hE
theorem ef_box {sz : Nat} {x : MX} {v : MV} (hx : XV A x v) (hv : v.cells.length = sz) (hv2 : v.cOk = true) (hE : Ef O I N n lk (.reg os) ((t, .ptr h.length 0 0 0) :: A) (h ++ [⟨0, false, sz, [v]⟩]) Q) : Ef O I N n lk (.reg (⟨none, some t, .box sz x⟩ :: os)) A h Q :=
  ef_op (fun S HS => by simp only [evO, HS.x hx, hv, hv2, and_self, if_true]) ht hE
theorem ef_build {z : List MV} {ps : List (Nat × Nat × MX)} {vs cs : List MV} (hv : XVs A (ps.map (·.2.2)) vs) (h1 : fillM z ((ps.zip vs).map fun q => (q.1.1, q.2.cells)) = some cs) (h2 : (ps.zip vs).all (fun q => q.2.cells.length == q.1.2.1 && q.2.cOk) = true)
    (hE : Ef O I N n lk (.reg os) ((t, .agg cs) :: A) h Q) : Ef O I N n lk (.reg (⟨none, some t, .build z ps⟩ :: os)) A h Q :=
  ef_op (fun s hs => by
    have e1 := hs.parts (f := fun p : Nat × Nat × MX => p.2.2) (g := fun p v => (p.1, v.cells)) hv
    have e2 := hs.parts (f := fun p : Nat × Nat × MX => p.2.2) (g := fun p v => v.cells.length == p.2.1 && v.cOk) hv
    simp only [evO, e1, h1]
    have e3 : ps.all (fun p => (p.2.2.get s).cells.length == p.2.1 && (p.2.2.get s).cOk) = true := by
      rw [List.all_eq_true] at h2 ⊢
      intro p hp
      have hm : ((p.2.2.get s).cells.length == p.2.1 && (p.2.2.get s).cOk) ∈ ps.map fun p => ((p.2.2.get s).cells.length == p.2.1 && (p.2.2.get s).cOk) := List.mem_map.2 ⟨p, hp, rfl⟩
      rw [e2] at hm
      obtain ⟨q, hq, e⟩ := List.mem_map.1 hm
      rw [← e]
      exact h2 q hq
    rw [if_pos e3]) ht hE
theorem ef_bsl {z : MV} {sz len : Nat} {ps : List (Nat × MX)} {vs es : List MV} (hv : XVs A (ps.map (·.2)) vs) (h1 : setAtM (List.replicate len z) sz ((ps.zip vs).map fun q => (q.1.1, q.2)) = some es)
    (hE : Ef O I N n lk (.reg os) ((t, .arr h.length 0 len 0) :: A) (h ++ [⟨0, false, sz, es⟩]) Q) : Ef O I N n lk (.reg (⟨none, some t, .bsl z sz len ps⟩ :: os)) A h Q :=
  ef_op (fun s hs => by
    have e1 := hs.parts (f := fun p : Nat × MX => p.2) (g := fun p v => (p.1, v)) hv
    simp only [evO, e1, h1]) ht hE
theorem ef_vse {z : MV} {sz : Nat} (hE : Ef O I N n lk (.reg os) ((t, .emp) :: A) h Q) : Ef O I N n lk (.reg (⟨none, some t, .vsl z sz 0 []⟩ :: os)) A h Q :=
  ef_op (fun s hs => by simp [evO, setAtM]) ht hE
theorem ef_sx {x y : MX} {k : IntKind} {a : Int} {b : ByteArray} {c : UInt8} (hx : XV A x (.lit (.string b))) (hy : XV A y (.lit (.int k a))) (h0 : 0 ≤ a) (hc : b.data.toList[a.toNat]? = some c) (hE : Ef O I N n lk (.reg os) ((t, .lit (.int .u8 c.toNat)) :: A) h Q) : Ef O I N n lk (.reg (⟨none, some t, .sx x y⟩ :: os)) A h Q :=
  ef_op (fun S HS => by simp only [evO, HS.x hx, HS.x hy, intOf?, h0, if_true, hc, Option.map_some]) ht hE
theorem ef_appe {sz : Nat} {s x : MX} {v : MV} {e : MV} {xs : List MV} (hs : XV A s .emp) (hx : XV A x v) (hv : v.elems h = some (e :: xs)) (hl : (e :: xs).length ≤ 4000000)
    (hk : (e :: xs).all (MV.sOk sz) = true)
    (hE : Ef O I N n lk (.reg os) ((t, .arr h.length 0 (e :: xs).length 0) :: A) (h ++ [⟨0, false, sz, e :: xs⟩]) Q) : Ef O I N n lk (.reg (⟨none, some t, .app sz s x⟩ :: os)) A h Q :=
  ef_op (fun S HS => by simp only [evO, HS.x hs, HS.x hx, hv, hl, hk, and_self, if_true, reduceCtorEq, if_false]) ht hE
theorem ef_appe0 {sz : Nat} {s x : MX} {v : MV} (hs : XV A s .emp) (hx : XV A x v) (hv : v.elems h = some [])
    (hE : Ef O I N n lk (.reg os) ((t, .emp) :: A) h Q) : Ef O I N n lk (.reg (⟨none, some t, .app sz s x⟩ :: os)) A h Q :=
  ef_op (fun S HS => by simp only [evO, HS.x hs, HS.x hx, hv, if_true]) ht hE
theorem ef_ldr {ag : Option Nat} {x : MX} {e v : MV} {off : Nat} (hx : XV A x (.rp e off)) (hv : rdCells e.cells off ag = some v) (hE : Ef O I N n lk (.reg os) ((t, v) :: A) h Q) : Ef O I N n lk (.reg (⟨none, some t, .ld ag x⟩ :: os)) A h Q :=
  ef_op (fun S HS => by simp only [evO, HS.x hx, hv, Option.map_some]) ht hE
theorem ef_ldp {ag : Option Nat} {x : MX} {e v : MV} {id i off g : Nat} {o : MObj} (hx : XV A x (.ptr id i off g)) (ho : h[id]? = some o) (hg : o.g = g) (he : o.es[i]? = some e) (hv : rdCells e.cells off ag = some v) (hE : Ef O I N n lk (.reg os) ((t, v) :: A) h Q) : Ef O I N n lk (.reg (⟨none, some t, .ld ag x⟩ :: os)) A h Q :=
  ef_op (fun S HS => by simp only [evO, HS.x hx, ho, hg, he, hv, Option.map_some, if_true]) ht hE
theorem ef_bin {op : BinOp} {x y : MX} {k : IntKind} {a b : Int} {v : Value} (hx : XV A x (.lit (.int k a))) (hy : XV A y (.lit (.int k b))) (hv : binI op k a b = some v) (hE : Ef O I N n lk (.reg os) ((t, .lit v) :: A) h Q) : Ef O I N n lk (.reg (⟨none, some t, .bin op x y⟩ :: os)) A h Q :=
  ef_op (fun S HS => by simp only [evO, HS.x hx, HS.x hy, hv, Option.map_some, if_true]) ht hE
theorem ef_eqa {m : Nat} {neg b : Bool} {x y : MX} {ps qs : List MV} (hx : XV A x (.agg ps)) (hy : XV A y (.agg qs)) (h1 : ps.length = m) (h2 : qs.length = m) (hb : litEq ps qs = some b) (hE : Ef O I N n lk (.reg os) ((t, .lit (.bool (negIf neg b))) :: A) h Q) : Ef O I N n lk (.reg (⟨none, some t, .eqa m neg x y⟩ :: os)) A h Q :=
  ef_op (fun S HS => by simp only [evO, HS.x hx, HS.x hy, h1, h2, and_self, if_true, hb, Option.map_some]) ht hE
theorem ef_sq {neg : Bool} {x y : MX} {a b : ByteArray} (hx : XV A x (.lit (.string a))) (hy : XV A y (.lit (.string b))) (hE : Ef O I N n lk (.reg os) ((t, .lit (.bool (negIf neg (a == b)))) :: A) h Q) : Ef O I N n lk (.reg (⟨none, some t, .seq neg x y⟩ :: os)) A h Q :=
  ef_op (fun S HS => by simp only [evO, HS.x hx, HS.x hy]) ht hE
theorem ef_eqna {neg : Bool} {x : MX} {id i m g : Nat} {o : MObj} (hx : XV A x (.arr id i m g)) (ho : h[id]? = some o) (hg : o.g = g) (hm : i + m ≤ o.es.length) (hE : Ef O I N n lk (.reg os) ((t, .lit (.bool (negIf neg o.nl))) :: A) h Q) : Ef O I N n lk (.reg (⟨none, some t, .eqn neg x⟩ :: os)) A h Q :=
  ef_op (fun S HS => by simp only [evO, HS.x hx, ho, hg, hm, and_self, if_true]) ht hE
theorem ef_not {x : MX} {b c : Bool} (hx : XV A x (.lit (.bool b))) (hc : (!b) = c) (hE : Ef O I N n lk (.reg os) ((t, .lit (.bool c)) :: A) h Q) : Ef O I N n lk (.reg (⟨none, some t, .un .not x⟩ :: os)) A h Q :=
  ef_op (fun S HS => by subst hc; simp only [evO, HS.x hx]) ht hE
theorem ef_notT {x : MX} (hx : XV A x (.lit (.bool true))) (hE : Ef O I N n lk (.reg os) ((t, .lit (.bool false)) :: A) h Q) : Ef O I N n lk (.reg (⟨none, some t, .un .not x⟩ :: os)) A h Q :=
  ef_not (ht := ht) hx rfl hE
theorem ef_notF {x : MX} (hx : XV A x (.lit (.bool false))) (hE : Ef O I N n lk (.reg os) ((t, .lit (.bool true)) :: A) h Q) : Ef O I N n lk (.reg (⟨none, some t, .un .not x⟩ :: os)) A h Q :=
  ef_not (ht := ht) hx rfl hE
theorem ef_neg {x : MX} {k : IntKind} {a c : Int} (hx : XV A x (.lit (.int k a))) (hc : k.wrap (0 - a) = c) (hE : Ef O I N n lk (.reg os) ((t, .lit (.int k c)) :: A) h Q) : Ef O I N n lk (.reg (⟨none, some t, .un .neg x⟩ :: os)) A h Q :=
  ef_op (fun S HS => by simp only [evO, HS.x hx, hc]) ht hE
theorem ef_cv {x : MX} {k k' : IntKind} {a c : Int} (hx : XV A x (.lit (.int k' a))) (hc : k.wrap a = c) (hE : Ef O I N n lk (.reg os) ((t, .lit (.int k c)) :: A) h Q) : Ef O I N n lk (.reg (⟨none, some t, .cv k x⟩ :: os)) A h Q :=
  ef_op (fun S HS => by simp only [evO, HS.x hx, hc]) ht hE
theorem ef_mf {f k : Nat} {cs : List MX} {vs : List MV} (hv : XVs A cs vs) (hE : Ef O I N n lk (.reg os) ((t, .fn f k vs) :: A) h Q) : Ef O I N n lk (.reg (⟨none, some t, .mf f k cs⟩ :: os)) A h Q :=
  ef_op (fun s hs => by simp only [evO, hs.xs hv]) ht hE
theorem ef_mks {z : MV} {x : MX} {m : Int} (hx : XV A x (.lit (.int .i64 m))) (h0 : 0 ≤ m) (h1 : m ≤ 1000000) (hE : Ef O I N n lk (.reg os) ((t, .arr h.length 0 m.toNat 0) :: A) (h ++ [⟨0, false, z.cells.length, List.replicate m.toNat z⟩]) Q) : Ef O I N n lk (.reg (⟨none, some t, .mks z x⟩ :: os)) A h Q :=
  ef_op (fun S HS => by simp only [evO, HS.x hx, h0, h1, and_self, if_true]) ht hE
theorem ef_slcs {sz : Nat} {x y : MX} {lo : Option MX} {es : List MV} {k : IntKind} {l u : Int} (hx : XV A x (.sl es)) (hl : XLo A lo l) (hu : XV A y (.lit (.int k u))) (h0 : 0 ≤ l ∧ l ≤ u ∧ u ≤ es.length) (hs : es.all (fun e => e.cells.length == sz) = true)
    (hE : Ef O I N n lk (.reg os) ((t, .sl ((es.drop l.toNat).take (u - l).toNat)) :: A) h Q) : Ef O I N n lk (.reg (⟨none, some t, .slc sz x lo (some y)⟩ :: os)) A h Q :=
  ef_op (fun s hs' => by simp only [evO, hs'.x hx, hs'.lo hl, Option.map_some, hs'.x hu, intOf?, h0, hs, and_self, if_true]) ht hE
theorem ef_fap {off : Nat} {x : MX} {id i o g : Nat} (hx : XV A x (.ptr id i o g)) (hE : Ef O I N n lk (.reg os) ((t, .ptr id i (o + off) g) :: A) h Q) : Ef O I N n lk (.reg (⟨none, some t, .fa off x⟩ :: os)) A h Q :=
  ef_op (fun S HS => by simp only [evO, HS.x hx]) ht hE
theorem ef_far {off : Nat} {x : MX} {e : MV} {o : Nat} (hx : XV A x (.rp e o)) (hE : Ef O I N n lk (.reg os) ((t, .rp e (o + off)) :: A) h Q) : Ef O I N n lk (.reg (⟨none, some t, .fa off x⟩ :: os)) A h Q :=
  ef_op (fun S HS => by simp only [evO, HS.x hx]) ht hE
theorem ef_ias {sz : Nat} {x i : MX} {es : List MV} {kk : IntKind} {k : Int} {e : MV} (hx : XV A x (.sl es)) (hi : XV A i (.lit (.int kk k))) (h0 : 0 ≤ k) (he : es[k.toNat]? = some e) (hs : e.cells.length = sz) (hE : Ef O I N n lk (.reg os) ((t, .rp e 0) :: A) h Q) : Ef O I N n lk (.reg (⟨none, some t, .ia sz x i⟩ :: os)) A h Q :=
  ef_op (fun S HS => by simp only [evO, HS.x hx, HS.x hi, intOf?, h0, if_true, he, Option.bind_some, hs]) ht hE
theorem ef_iaa {sz : Nat} {x i : MX} {id j m g : Nat} {kk : IntKind} {k : Int} (hx : XV A x (.arr id j m g)) (hi : XV A i (.lit (.int kk k))) (h0 : 0 ≤ k) (h1 : k < m) (hs : MHeap.ok h id g sz = true) (hE : Ef O I N n lk (.reg os) ((t, .ptr id (j + k.toNat) 0 g) :: A) h Q) : Ef O I N n lk (.reg (⟨none, some t, .ia sz x i⟩ :: os)) A h Q :=
  ef_op (fun S HS => by simp only [evO, HS.x hx, HS.x hi, intOf?, h0, h1, hs, and_self, if_true]) ht hE
theorem ef_ext {x : MX} {i : Nat} {vs : List MV} {v : MV} (hx : XV A x (.tup vs)) (hv : vs[i]? = some v) (hE : Ef O I N n lk (.reg os) ((t, v) :: A) h Q) : Ef O I N n lk (.reg (⟨none, some t, .ext x i⟩ :: os)) A h Q :=
  ef_op (fun S HS => by simp only [evO, HS.x hx, hv, Option.map_some]) ht hE
theorem ef_call {f : Nat} {as_ : List MX} {vs : List MV} {v : MV} {h1 : MHeap} (ha : XVs A as_ vs) (ho : O f vs h = some (v, h1)) (hE : Ef O I N n lk (.reg os) ((t, v) :: A) h1 Q) : Ef O I N n lk (.reg (⟨none, some t, .call f as_⟩ :: os)) A h Q :=
  ef_op (fun s hs => by simp only [evO, hs.xs ha, ho]) ht hE
theorem ef_callv {x : MX} {f k : Nat} {caps : List MV} {as_ : List MX} {us vs : List MV} {v : MV} {h1 : MHeap} (hx : XV A x (.fn f k caps)) (ha : XVs A as_ us) (hu : caps.take k ++ us ++ caps.drop k = vs) (ho : O f vs h = some (v, h1)) (hE : Ef O I N n lk (.reg os) ((t, v) :: A) h1 Q) : Ef O I N n lk (.reg (⟨none, some t, .callv x as_⟩ :: os)) A h Q :=
  ef_op (fun s hs => by simp only [evO, hs.x hx, hs.xs ha, hu, ho]) ht hE
theorem ef_sln {x : MX} {b : ByteArray} (hx : XV A x (.lit (.string b))) (hE : Ef O I N n lk (.reg os) ((t, .lit (.int .i64 b.size)) :: A) h Q) : Ef O I N n lk (.reg (⟨none, some t, .sln x⟩ :: os)) A h Q :=
  ef_op (fun S HS => by simp only [evO, HS.x hx]) ht hE
theorem ef_s2b {x : MX} {b : ByteArray} (hx : XV A x (.lit (.string b))) (hE : Ef O I N n lk (.reg os) ((t, .sl (b.data.toList.map fun c => .lit (.int .u8 c.toNat))) :: A) h Q) : Ef O I N n lk (.reg (⟨none, some t, .s2b x⟩ :: os)) A h Q :=
  ef_op (fun S HS => by simp only [evO, HS.x hx]) ht hE
theorem ef_len {x : MX} {v : MV} {m : Nat} (hx : XV A x v) (hm : v.slen = some m) (hE : Ef O I N n lk (.reg os) ((t, .lit (.int .i64 m)) :: A) h Q) : Ef O I N n lk (.reg (⟨none, some t, .len x⟩ :: os)) A h Q :=
  ef_op (fun S HS => by simp only [evO, HS.x hx, hm]) ht hE
theorem ef_app0 {sz : Nat} {s x : MX} {v : MV} {id i m g : Nat} {o : MObj} (hs : XV A s (.arr id i m g)) (hx : XV A x v) (hv : v.elems h = some []) (ho : h[id]? = some o) (hg : o.g = g) (hm : i + m = o.es.length) (hz : o.sz = sz)
    (hE : Ef O I N n lk (.reg os) ((t, .arr id i m g) :: A) h Q) : Ef O I N n lk (.reg (⟨none, some t, .app sz s x⟩ :: os)) A h Q :=
  ef_op (fun S HS => by simp only [evO, HS.x hs, HS.x hx, hv, ho, hg, hm, hz, and_self, if_true]) ht hE
theorem ef_app {sz : Nat} {s x : MX} {v : MV} {id i m g : Nat} {o : MObj} {e : MV} {xs : List MV} (hs : XV A s (.arr id i m g)) (hx : XV A x v) (hv : v.elems h = some (e :: xs)) (ho : h[id]? = some o) (hg : o.g = g) (hm : i + m = o.es.length) (hz : o.sz = sz) (hl : o.es.length + (e :: xs).length ≤ 4000000)
    (hk : (e :: xs).all (MV.sOk sz) = true) (hlk : lk id = false)
    (hE : Ef O I N n lk (.reg os) ((t, .arr id 0 (m + (e :: xs).length) (g + 1)) :: A) (h.set id ⟨g + 1, false, sz, o.es.drop i ++ (e :: xs)⟩) Q) : Ef O I N n lk (.reg (⟨none, some t, .app sz s x⟩ :: os)) A h Q :=
  ef_op (fun S HS => by simp only [evO, HS.x hs, HS.x hx, hv, ho, hg, hm, hz, hl, hk, hlk, and_self, if_true, reduceCtorEq, if_false]) ht hE
theorem ef_mn {x y : MX} {k k' : IntKind} {a b : Int} (hx : XV A x (.lit (.int k a))) (hy : XV A y (.lit (.int k' b))) (hE : Ef O I N n lk (.reg os) ((t, .lit (.int k (mn a b))) :: A) h Q) : Ef O I N n lk (.reg (⟨none, some t, .mn x y⟩ :: os)) A h Q :=
  ef_op (fun S HS => by simp only [evO, HS.x hx, HS.x hy]; rfl) ht hE
omit ht
theorem ef_st {sz : Nat} {a x : MX} {v : MV} {id i off g : Nat} {o : MObj} {e e' : MV} (hx : XV A x v) (hk : v.sOk sz = true) (ha : XV A a (.ptr id i off g)) (ho : h[id]? = some o) (hg : o.g = g) (hlk : lk id = false) (he : o.es[i]? = some e) (hw : wrElem e off v = some e')
    (hE : Ef O I N n lk (.reg os) A (h.set id { o with es := o.es.set i e' }) Q) : Ef O I N n lk (.reg (⟨none, none, .st sz a x⟩ :: os)) A h Q :=
  ef_op0 (v := .lit undef) (fun S HS => by simp only [evO, HS.x hx, hk, HS.x ha, ho, hg, hlk, he, hw, and_self, if_true]) hE
end
theorem ef_ne {O : Oracle} {I : Iter} {N n : Nat} {lk : Nat → Bool} {A : Sl} {h : MHeap} {Q : MX2 → Sl → MHeap → Prop} {os : List GO} {x y : MX} {v u : MV} (hx : XV A x v) (hy : XV A y u) (hd : neB v u = true) (hE : Ef O I N n lk (.reg os) A h Q) : Ef O I N n lk (.reg (⟨none, none, .ne x y⟩ :: os)) A h Q :=
  ef_op0 (v := .lit undef) (fun s hs => by simp only [evO, hs.x hx, hs.x hy, hd, if_true]) hE
theorem wrap_of {a : Int} (h1 : -9223372036854775808 ≤ a) (h2 : a ≤ 9223372036854775807) : IntKind.i64.wrap a = a := IntWalk.i64_in _ (by omega)
theorem bin_add {a b c : Int} (h : IntKind.i64.wrap (a + b) = c) : binI .add .i64 a b = some (.int .i64 c) := by rw [← h]; rfl
theorem bin_sub {a b c : Int} (h : IntKind.i64.wrap (a - b) = c) : binI .sub .i64 a b = some (.int .i64 c) := by rw [← h]; rfl
theorem bin_mul {a b c : Int} (h : IntKind.i64.wrap (a * b) = c) : binI .mul .i64 a b = some (.int .i64 c) := by rw [← h]; rfl
theorem rd_sub {cs vs : List MV} {off m : Nat} (hl : vs.length = m) (hp : 0 < vs.length) (h : ∀ i, i < m → cs[off + i]? = vs[i]?) : rdCells cs off (some m) = some (.agg vs) := by
  subst hl
  have hle : off + vs.length ≤ cs.length := by
    have := h (vs.length - 1) (by omega)
    have h2 : vs[vs.length - 1]? = some (vs[vs.length - 1]'(by omega)) := List.getElem?_eq_getElem (by omega)
    rw [h2] at this
    have := (List.getElem?_eq_some_iff.1 this).1
    omega
  simp only [rdCells, if_pos hle]
  congr 2
  refine List.ext_getElem? fun i => ?_
  rw [List.getElem?_take]
  split
  · rename_i hi
    rw [List.getElem?_drop]; exact h i hi
  · rename_i hi
    rw [List.getElem?_eq_none (by omega)]
theorem rd_2 {cs : List MV} {off : Nat} {x0 x1 : MV} (h0 : cs[off]? = some x0) (h1 : cs[off + 1]? = some x1) : rdCells cs off (some 2) = some (.agg [x0, x1]) :=
  rd_sub rfl (by simp) fun i hi => by
    match i, hi with
    | 0, _ => exact h0
    | 1, _ => exact h1
theorem rd_5 {cs : List MV} {off : Nat} {x0 x1 x2 x3 x4 : MV} (h0 : cs[off]? = some x0) (h1 : cs[off + 1]? = some x1) (h2 : cs[off + 2]? = some x2) (h3 : cs[off + 3]? = some x3) (h4 : cs[off + 4]? = some x4) : rdCells cs off (some 5) = some (.agg [x0, x1, x2, x3, x4]) :=
  rd_sub rfl (by simp) fun i hi => by
    match i, hi with
    | 0, _ => exact h0
    | 1, _ => exact h1
    | 2, _ => exact h2
    | 3, _ => exact h3
    | 4, _ => exact h4
theorem rd_6 {cs : List MV} {off : Nat} {x0 x1 x2 x3 x4 x5 : MV} (h0 : cs[off]? = some x0) (h1 : cs[off + 1]? = some x1) (h2 : cs[off + 2]? = some x2) (h3 : cs[off + 3]? = some x3) (h4 : cs[off + 4]? = some x4) (h5 : cs[off + 5]? = some x5) : rdCells cs off (some 6) = some (.agg [x0, x1, x2, x3, x4, x5]) :=
  rd_sub rfl (by simp) fun i hi => by
    match i, hi with
    | 0, _ => exact h0
    | 1, _ => exact h1
    | 2, _ => exact h2
    | 3, _ => exact h3
    | 4, _ => exact h4
    | 5, _ => exact h5
def cmpP : BinOp → Int → Int → Prop
  | .lss, a, b => a < b
  | .leq, a, b => a ≤ b
  | .gtr, a, b => b < a
  | .geq, a, b => b ≤ a
  | .eql, a, b => a = b
  | .neq, a, b => a ≠ b
  | _, _, _ => False
def isCmp : BinOp → Bool
  | .lss | .leq | .gtr | .geq | .eql | .neq => true
  | _ => false
theorem cmp_t {op : BinOp} {k : IntKind} {a b : Int} (hc : isCmp op = true) (h : cmpP op a b) : binI op k a b = some (.bool true) := by
  cases op <;> simp [isCmp] at hc <;> simp only [cmpP] at h <;> simp [binI, h]
theorem cmp_f {op : BinOp} {k : IntKind} {a b : Int} (hc : isCmp op = true) (h : ¬ cmpP op a b) : binI op k a b = some (.bool false) := by
  cases op <;> simp [isCmp] at hc <;> simp only [cmpP] at h <;> simp [binI] <;> omega
end Go.Proofs.Ytbdleggmdbihnaa

/- Words of the laws. -/
namespace Go.Proofs.Ytbdleggmdbihnaa
open Go.RowKit
set_option linter.unusedVariables false
def inB (a lo hi : Int) : Bool := decide (lo ≤ a ∧ a ≤ hi)
theorem inB_iff {a lo hi : Int} : inB a lo hi = true ↔ lo ≤ a ∧ a ≤ hi := by simp [inB]
theorem inB_not {a lo hi : Int} : inB a lo hi = false ↔ ¬ (lo ≤ a ∧ a ≤ hi) := by simp [inB]
def unl (b : Bool) (n : Int) : Int := if b then 0 else n
def firstE : List Int → Int
  | [] => 0
  | x :: l => if x ≠ 0 then x else firstE l
end Go.Proofs.Ytbdleggmdbihnaa

/- Open values of small things. -/
namespace Go.Proofs.Ytbdleggmdbihnaa
open Go.RowKit
set_option linter.unusedVariables false
def encR : Int × Int → MV
  | (a, b) => .agg [I64 a, I64 b]
end Go.Proofs.Ytbdleggmdbihnaa

/- Sorts in place: from the contract of the kit to what the small language asks. -/
namespace Go.Proofs.Ytbdleggmdbihnaa
open Go.Shelf Go.RowKit Go.Lib Go.Sort
set_option linter.unusedVariables false
theorem insS_perm (k : Nat) (x : List Int) : ∀ ys : List (List Int), (insS k x ys).Perm (x :: ys)
  | [] => .refl _
  | y :: ys => by
    unfold insS
    split
    · exact .refl _
    · exact ((insS_perm k x ys).cons y).trans (.swap x y ys)
theorem sortS_perm (k : Nat) : ∀ ys : List (List Int), (sortS k ys).Perm ys
  | [] => .refl _
  | y :: ys => (insS_perm k y _).trans ((sortS_perm k ys).cons y)
theorem ord_unique (k : Nat) : ∀ {l1 l2 : List (List Int)}, l1.Perm l2 → l1.Pairwise (fun a b => sortLt k b a = false) → ordS k l2 = true → l1 = l2
  | [], l2, hp, _, _ => (List.nil_perm.1 hp).symm
  | x :: l1, [], hp, _, _ => absurd hp.length_eq (by simp)
  | x :: l1, y :: l2, hp, h1, h2 => by
    rw [List.pairwise_cons] at h1
    rw [ordS, Bool.and_eq_true] at h2
    have hxy : x = y := by
      apply Classical.byContradiction
      intro hne
      have hx : x ∈ l2 := by
        have := hp.mem_iff.1 (List.mem_cons_self (a := x) (l := l1))
        rcases List.mem_cons.1 this with h | h
        · exact absurd h hne
        · exact h
      have hy : y ∈ l1 := by
        have := hp.mem_iff.2 (List.mem_cons_self (a := y) (l := l2))
        rcases List.mem_cons.1 this with h | h
        · exact absurd h.symm hne
        · exact h
      have a1 := h1.1 y hy
      have a2 := List.all_eq_true.1 h2.1 x hx
      rw [a1, Bool.false_or, Bool.and_eq_true, decide_eq_true_eq] at a2
      exact hne a2.1.symm
    subst hxy
    rw [ord_unique k (List.Perm.cons_inv hp) h1.2 h2.2]
section
variable {α : Type} [Inhabited α] {toRow : α → List Int}
omit [Inhabited α] in
theorem rows_of {k : Nat} (hsur : ∀ x, okRow k x = true → ∃ a, toRow a = x) : ∀ xs : List (List Int), (∀ x ∈ xs, okRow k x = true) → ∃ al : List α, xs = al.map toRow
  | [], _ => ⟨[], rfl⟩
  | x :: xs, h => by
    obtain ⟨a, ha⟩ := hsur x (h x (by simp))
    obtain ⟨al, has⟩ := rows_of hsur xs fun y hy => h y (by simp [hy])
    exact ⟨a :: al, by simp [ha, has]⟩
theorem rowsV_flat (hl : ∀ a, (toRow a).length = 2) (al : List α) : (flatK (fun a => (toRow a).map (Value.int .i64)) 2 al.toArray).toList = rowsV (al.map toRow) := by
  refine List.ext_getElem? fun j => ?_
  have hlen : (rowsV (al.map toRow)).length = al.length * 2 := by
    rw [rowsV_len (fun x hx => by obtain ⟨a, _, rfl⟩ := List.mem_map.1 hx; exact hl a), List.length_map]
  by_cases hj : j < al.length * 2
  · have h1 : j < (flatK (fun a => (toRow a).map (Value.int .i64)) 2 al.toArray).size := by simp; exact hj
    rw [Array.getElem?_toList, Array.getElem?_eq_getElem h1]
    have h2 : (flatK (fun a => (toRow a).map (Value.int .i64)) 2 al.toArray)[j] = ((toRow (al.toArray[j / 2]!)).map (Value.int .i64))[j % 2]! := by
      exact (getElem!_pos (flatK (fun a => (toRow a).map (Value.int .i64)) 2 al.toArray) j h1).symm.trans (get_flatK (fun a => (toRow a).map (Value.int .i64)) 2 al.toArray j (by simpa using hj))
    rw [h2]
    clear h1 h2 hlen
    induction al generalizing j with
    | nil => simp at hj
    | cons a al ih =>
      have ha := hl a
      have e : rowsV ((a :: al).map toRow) = (toRow a).map (Value.int .i64) ++ rowsV (al.map toRow) := by simp [rowsV]
      rw [e]
      by_cases hj2 : j < 2
      · have h0 : j / 2 = 0 := by omega
        have h3 : j % 2 = j := by omega
        rw [h0, h3, List.getElem?_append_left (by simp; omega)]
        simp only [List.getElem!_toArray, List.getElem!_cons_zero]
        rw [List.getElem?_eq_getElem (by simp; omega), getElem!_pos _ _ (by simp; omega)]
      · rw [List.getElem?_append_right (by simp; omega), List.length_map, ha, ← ih (j - 2) (by simp at hj; omega)]
        have h0 : j / 2 = (j - 2) / 2 + 1 := by omega
        have h3 : j % 2 = (j - 2) % 2 := by omega
        rw [h0, h3]
        simp only [List.getElem!_toArray, List.getElem!_cons_succ]
  · rw [List.getElem?_eq_none (by simp; omega), List.getElem?_eq_none (by omega)]
theorem sort_second {P : Program} {f cf k : Nat} (lt : α → α → Bool) (hl : ∀ a, (toRow a).length = 2) (hsur : ∀ x, okRow k x = true → ∃ a, toRow a = x) (hlt : ∀ a b, sortLt k (toRow a) (toRow b) = lt a b)
    (hC : ∀ (blk off cap : Nat) (d : Array α) (w : World), HoldsK (fun a => (toRow a).map (Value.int .i64)) 2 w blk off d → blk < w.heap.size → d.size < 4611686018427387904 →
      Calls P f #[.slice (some ⟨blk, off, none⟩) d.size cap, .func (.func cf) #[] #[]] w fun e w' => e = .returned (.tuple #[]) ∧ ∃ d' n os, PermIn 0 d.size d d' ∧ SortedIn lt 0 d.size d' ∧ w' = sortWorldK (fun a => (toRow a).map (Value.int .i64)) 2 w blk off n d' os)
    (w : World) (b off cap : Nat) (xs : List (List Int)) (arr : Array Value) (te : TypeId) (h0 : 0 < xs.length) (h4 : xs.length ≤ 4000000) (hok : ∀ x ∈ xs, okRow k x = true) (hord : ordS k (sortS k xs) = true) (hb : w.heap[b]? = some (.cells arr te (0, 0))) (hfit : off + (rowsV xs).length ≤ arr.size)
    (hat : ∀ (j : Nat) v, (rowsV xs)[j]? = some v → arr[off + j]? = some v) :
    Calls P f #[.slice (some ⟨b, off, none⟩) xs.length cap, .func (.func cf) #[] #[]] w fun e w' => e = .returned (.tuple #[]) ∧ (w'.os = w.os ∧ w'.tape = w.tape ∧ w'.output = w.output ∧ w.heap.size ≤ w'.heap.size) ∧
      (∀ k, k < w.heap.size → k ≠ b → w'.heap[k]? = w.heap[k]?) ∧ w'.heap[b]? = some (.cells (arr.toList.take off ++ rowsV (sortS k xs) ++ arr.toList.drop (off + (rowsV xs).length)).toArray te (0, 0)) := by
  obtain ⟨al, rfl⟩ := rows_of hsur xs hok
  have hblt : b < w.heap.size := (Array.getElem?_eq_some_iff.1 hb).1
  have hH : HoldsK (fun a => (toRow a).map (Value.int .i64)) 2 w b off al.toArray := by
    intro j hj
    rw [size_flatK] at hj
    have hv : (rowsV (al.map toRow))[j]? = some (flatK (fun a => (toRow a).map (Value.int .i64)) 2 al.toArray)[j]! := by
      rw [← rowsV_flat hl al, Array.getElem?_toList, getElem!_pos _ _ (by simpa using hj), Array.getElem?_eq_getElem]
    have h1 := hat j _ hv
    have hoff : off + j < arr.size := (Array.getElem?_eq_some_iff.1 h1).1
    refine ⟨?_, ?_⟩
    · simp [World.cell?, hb, h1]
    · simp [World.frozen?, hb]
  have hc := hC b off cap al.toArray w hH hblt (by simp at h4 ⊢; omega)
  simp only [List.size_toArray] at hc
  rw [List.length_map]
  refine hc.mono ?_
  rintro e w' ⟨rfl, d', n, os, hp, hs, rfl⟩
  obtain ⟨p1, -, p3⟩ := hp
  simp only [List.size_toArray] at p1
  have hperm : d'.toList.Perm al := by
    have e1 : (d'.extract 0 al.length).toList = d'.toList := by rw [← p1]; simp
    have e2 : (al.toArray.extract 0 al.length).toList = al := by simp
    rw [e1, e2] at p3; exact p3
  have hrows : d'.toList.map toRow = sortS k (al.map toRow) := by
    refine ord_unique k ((hperm.map toRow).trans (sortS_perm k _).symm) ?_ hord
    rw [List.pairwise_map, List.pairwise_iff_getElem]
    intro i j hi hj hij
    rw [hlt]
    have hi' : i < d'.size := by simpa using hi
    have hj' : j < d'.size := by simpa using hj
    have := hs i j (Nat.zero_le _) hij (by omega)
    rw [getElem!_pos d' j hj', getElem!_pos d' i hi'] at this
    simpa using this
  have hfl : (flatK (fun a => (toRow a).map (Value.int .i64)) 2 d').toList = rowsV (sortS k (al.map toRow)) := by
    rw [← hrows, ← rowsV_flat hl d'.toList]
  obtain ⟨F, hF⟩ : ∃ F, F = flatK (fun a => (toRow a).map (Value.int .i64)) 2 d' := ⟨_, rfl⟩
  have hFs : F.size = (rowsV (al.map toRow)).length := by
    rw [hF, size_flatK, p1, rowsV_len (fun x hx => by obtain ⟨a, _, rfl⟩ := List.mem_map.1 hx; exact hl a), List.length_map]
  have hheap : (sortWorldK (fun a => (toRow a).map (Value.int .i64)) 2 w b off n d' os).heap = w.heap.modify b (onCells (putCells id off F)) ++ os := by rw [hF]; rfl
  refine ⟨rfl, ⟨rfl, rfl, rfl, by rw [hheap]; simp⟩, fun q hq hne => ?_, ?_⟩
  · rw [hheap, Array.getElem?_append_left (by simpa using hq), Array.getElem?_modify, if_neg (fun e => hne e.symm)]
  · rw [hheap, Array.getElem?_append_left (by simpa using hblt), Array.getElem?_modify, if_pos rfl, hb, Option.map_some]
    have hput : putCells id off F arr = (arr.toList.take off ++ rowsV (sortS k (al.map toRow)) ++ arr.toList.drop (off + (rowsV (al.map toRow)).length)).toArray := by
      rw [← hfl, ← hF]
      apply Array.ext'
      refine List.ext_getElem? fun j => ?_
      rw [← hFs]
      rw [← hFs] at hfit
      simp only [putCells, Array.getElem?_toList, Array.getElem?_mapIdx]
      by_cases h1 : j < off
      · rw [List.append_assoc, List.getElem?_append_left (by simp; omega), List.getElem?_take, if_pos h1, Array.getElem?_toList, Array.getElem?_eq_getElem (by omega), Option.map_some, if_neg (by omega)]
      · by_cases h2 : j < off + F.size
        · rw [List.append_assoc, List.getElem?_append_right (by simp; omega), List.getElem?_append_left (by simp; omega), Array.getElem?_eq_getElem (by omega), Option.map_some, if_pos (by omega)]
          rw [List.length_take, Array.length_toList, Nat.min_eq_left (by omega), Array.getElem?_toList, Array.getElem?_eq_getElem (by omega), getElem!_pos F _ (by omega)]
          rfl
        · rw [List.getElem?_append_right (by simp; omega), List.getElem?_drop, Array.getElem?_toList]
          simp only [List.length_append, List.length_take, Array.length_toList]
          rw [Nat.min_eq_left (by omega), show off + F.size + (j - (off + F.size)) = j by omega]
          cases arr[j]? with
          | none => rfl
          | some x => rw [Option.map_some, if_neg (by omega)]
    rw [← hput]
    rfl
end
end Go.Proofs.Ytbdleggmdbihnaa

/- The sort of the knots, by the kit's contract. -/
namespace Go.Proofs.Ytbdleggmdbihnaa
open Go.Shelf
def layKnot_ren : Go.Shelf.Ren := ⟨fun | 6 => 56 | 15 => 80 | 14 => 79 | 28 => 101 | 29 => 102 | 20 => 93 | 21 => 94 | 22 => 95 | 23 => 96 | 24 => 97 | 25 => 98 | 26 => 99 | 27 => 100 | 46 => 107 | 47 => 108 | 48 => 109 | 49 => 110 | 50 => 111 | 57 => 115 | n => n, fun | 22 => 91 | 24 => 93 | 25 => 96 | 3 => 3 | 39 => 122 | 0 => 0 | 53 => 140 | 55 => 142 | 4 => 4 | 46 => 134 | 45 => 133 | 50 => 123 | 5 => 5 | 9 => 9 | 66 => 149 | 70 => 153 | 76 => 160 | 77 => 63 | n => n, fun | n => n⟩
theorem layKnot : Go.Proofs.SlLaysF0.n6 Try.prog layKnot_ren := {
  mixed := by kernel_rfl
  f6 := ⟨Try.f56.name, by decide, Try.func56.trans (congrArg some (by kernel_rfl))⟩
  f14 := ⟨Try.f79.name, by decide, Try.func79.trans (congrArg some (by kernel_rfl))⟩
  f15 := Try.func80.trans (congrArg some (by kernel_rfl))
  f20 := ⟨Try.f93.name, by decide, Try.func93.trans (congrArg some (by kernel_rfl))⟩
  f21 := ⟨Try.f94.name, by decide, Try.func94.trans (congrArg some (by kernel_rfl))⟩
  f22 := ⟨Try.f95.name, by decide, Try.func95.trans (congrArg some (by kernel_rfl))⟩
  f23 := ⟨Try.f96.name, by decide, Try.func96.trans (congrArg some (by kernel_rfl))⟩
  f24 := ⟨Try.f97.name, by decide, Try.func97.trans (congrArg some (by kernel_rfl))⟩
  f25 := ⟨Try.f98.name, by decide, Try.func98.trans (congrArg some (by kernel_rfl))⟩
  f26 := ⟨Try.f99.name, by decide, Try.func99.trans (congrArg some (by kernel_rfl))⟩
  f27 := ⟨Try.f100.name, by decide, Try.func100.trans (congrArg some (by kernel_rfl))⟩
  f28 := Try.func101.trans (congrArg some (by kernel_rfl))
  f29 := Try.func102.trans (congrArg some (by kernel_rfl))
  f46 := ⟨Try.f107.name, by decide, Try.func107.trans (congrArg some (by kernel_rfl))⟩
  f47 := Try.func108.trans (congrArg some (by kernel_rfl))
  f48 := Try.func109.trans (congrArg some (by kernel_rfl))
  f49 := ⟨Try.f110.name, by decide, Try.func110.trans (congrArg some (by kernel_rfl))⟩
  f50 := ⟨Try.f111.name, by decide, Try.func111.trans (congrArg some (by kernel_rfl))⟩
  f57 := ⟨Try.f115.name, by decide, Try.func115.trans (congrArg some (by kernel_rfl))⟩
  t0 := Try.underlying0
  a0 := Try.isAgg0
  z0 := Try.sizeOf0
  v0 := Try.zeroValue0
  t3 := Try.underlying3
  a3 := Try.isAgg3
  z3 := Try.sizeOf3
  v3 := Try.zeroValue3
  t4 := Try.underlying4
  a4 := Try.isAgg4
  z4 := Try.sizeOf4
  v4 := Try.zeroValue4
  t5 := Try.underlying5
  a5 := Try.isAgg5
  z5 := Try.sizeOf5
  v5 := Try.zeroValue5
  t9 := Try.underlying9
  a9 := Try.isAgg9
  z9 := Try.sizeOf9
  v9 := Try.zeroValue9
  t22 := Try.underlying91
  a22 := Try.isAgg91
  z22 := Try.sizeOf91
  v22 := Try.zeroValue91
  t25 := Try.underlying96
  a25 := Try.isAgg96
  z25 := Try.sizeOf96
  v25 := Try.zeroValue96
  t39 := Try.underlying122
  a39 := Try.isAgg122
  z39 := Try.sizeOf122
  v39 := Try.zeroValue122
  t45 := Try.underlying133
  a45 := Try.isAgg133
  z45 := Try.sizeOf133
  v45 := Try.zeroValue133
  t46 := Try.underlying134
  a46 := Try.isAgg134
  z46 := Try.sizeOf134
  v46 := Try.zeroValue134
  t50 := Try.underlying123
  a50 := Try.isAgg123
  z50 := Try.sizeOf123
  v50 := Try.zeroValue123
  t53 := Try.underlying140
  a53 := Try.isAgg140
  z53 := Try.sizeOf140
  v53 := Try.zeroValue140
  t55 := Try.underlying142
  a55 := Try.isAgg142
  z55 := Try.sizeOf142
  v55 := Try.zeroValue142
  t66 := Try.underlying149
  a66 := Try.isAgg149
  z66 := Try.sizeOf149
  v66 := Try.zeroValue149
  t70 := Try.underlying153
  a70 := Try.isAgg153
  z70 := Try.sizeOf153
  v70 := Try.zeroValue153
  t76 := Try.underlying160
  a76 := Try.isAgg160
  z76 := Try.sizeOf160
  v76 := Try.zeroValue160
  t77 := Try.underlying63
  a77 := Try.isAgg63
  z77 := Try.sizeOf63
  v77 := Try.zeroValue63 }
def layCmp_ren : Go.Shelf.Ren := ⟨fun | 5 => 58 | 7 => 81 | n => n, fun | 22 => 3 | 3 => 3 | 4 => 4 | n => n, fun | n => n⟩
theorem layCmp : Go.Proofs.SlLaysC2.n5 Try.prog layCmp_ren := {
  mixed := by kernel_rfl
  f5 := ⟨Try.f58.name, by decide, Try.func58.trans (congrArg some (by kernel_rfl))⟩
  f7 := ⟨Try.f81.name, by decide, Try.func81.trans (congrArg some (by kernel_rfl))⟩
  t3 := Try.underlying3
  a3 := Try.isAgg3
  z3 := Try.sizeOf3
  v3 := Try.zeroValue3
  t4 := Try.underlying4
  a4 := Try.isAgg4
  z4 := Try.sizeOf4
  v4 := Try.zeroValue4
  t22 := Try.underlying3
  a22 := Try.isAgg3
  z22 := Try.sizeOf3
  v22 := Try.zeroValue3 }
end Go.Proofs.Ytbdleggmdbihnaa
namespace Go.Proofs.Ytbdleggmdbihnaa
open Go.Shelf Go.RowKit Go.Lib Go.Sort
set_option linter.unusedVariables false
def encK (x : Int × Int) : List Value := [.int .i64 x.1, .int .i64 x.2]
theorem knot_cmp (x y : Int × Int) (W : World) : Calls Try.prog 57 #[.agg #[.int .i64 x.1, .int .i64 x.2], .agg #[.int .i64 y.1, .int .i64 y.2]] W fun e w' => e = .returned (.int .i64 (Lib.compareInt x.1 y.1)) ∧ ∃ q os', w' = grow (W.drewN q) os' := by
  have hcon := fun W' => AnyG.cmp_Compare_int layCmp x.1 y.1 W'
  change ∀ W', Calls Try.prog 58 _ _ _ at hcon
  generalize Lib.compareInt x.1 y.1 = r at hcon ⊢
  go_enter Try.func57, Try.ntmps57
  go_wp2_with (go_at_call 58; refine (hcon _).mono ?_; rintro e w' ⟨rfl, rfl⟩)
  go_ret
  exact ⟨rfl, 0, _, by rw [alloc_eq_grow, alloc_eq_grow, grow_grow]; rfl⟩
theorem ltLo (x y : Int × Int) : ltOf (fun x y : Int × Int => Lib.compareInt x.1 y.1) x y = decide (x.1 < y.1) := by
  unfold ltOf Lib.compareInt
  by_cases h1 : x.1 < y.1
  · simp [h1]
  · by_cases h2 : y.1 < x.1 <;> simp [h1, h2]
theorem swoLo : SWO (ltOf fun x y : Int × Int => Lib.compareInt x.1 y.1) where
  irrefl x := by rw [ltLo]; simp
  trans x y z h1 h2 := by rw [ltLo] at *; simp at *; omega
  ntrans x y z h1 h2 := by rw [ltLo] at *; simp at *; omega
theorem kind_knot {f cf k : Nat} (h : sortKind f cf = some k) : f = 56 ∧ cf = 57 ∧ k = 0 := by
  unfold sortKind sortHints at h
  simp only [List.find?_cons, List.find?_nil] at h
  split at h
  · rename_i hh
    simp only [Bool.and_eq_true, beq_iff_eq] at hh
    simp only [Option.map_some, Option.some.injEq] at h
    exact ⟨hh.1.symm, hh.2.symm, h.symm⟩
  · cases h
theorem sorts_ok : SortsOK Try.prog := by
  intro f cf k hk
  obtain ⟨rfl, rfl, rfl⟩ := kind_knot hk
  refine ⟨fun w p cap => ?_, ?_⟩
  · exact AnyF.slices_SortFunc_none layKnot p cap (.func (.func 57) #[] #[]) w
  · refine sort_second (α := Int × Int) (toRow := fun p => [p.1, p.2]) (ltOf fun x y : Int × Int => Lib.compareInt x.1 y.1) (fun _ => rfl) (fun x hx => ?_) (fun a b => ?_) ?_
    · match x, hx with
      | [a, b], _ => exact ⟨(a, b), rfl⟩
      | [], h => simp [okRow] at h
      | [_], h => simp [okRow] at h
      | _ :: _ :: _ :: _, h => simp [okRow] at h
    · rw [ltLo]; rfl
    · intro blk off cap d w hH hblk hsz
      have eg : ∀ args w, (callFunc 57 args).run Try.prog w = .ok (.enter 57 args) w := enters_of Try.func57 (by kernel_rfl) rfl
      exact AnyQ.slices_SortFunc layKnot 2 Try.isAgg93 Try.sizeOf93 encK (fun _ => rfl) (fun x v hv => by simp [encK] at hv; rcases hv with rfl | rfl <;> rfl) (fun x y => Lib.compareInt x.1 y.1) swoLo 57 #[] blk off cap d w eg (fun _ _ _ _ x y => knot_cmp x y _) hH hblk hsz
end Go.Proofs.Ytbdleggmdbihnaa

/- The program answers by its text alone. -/
namespace Go.Proofs.Ytbdleggmdbihnaa
open Go.RowKit
set_option linter.unusedVariables false
abbrev tA : Oracle := noO
theorem tA_ok : SoundO Try.prog tA := noO_ok Try.prog sorts_ok
abbrev tI : Iter := noI
theorem tI_ok : SoundI Try.prog tI := noI_ok Try.prog
noncomputable abbrev MT : Tab := tabOf Try.prog
noncomputable abbrev orA (k : Nat) : Oracle := orZ MT tA tI 4000000 k
noncomputable abbrev itA (k : Nat) : Iter := orI MT tI (orA k) 4000000
theorem orA_ok (k : Nat) : SoundO Try.prog (orA k) := (orZ_ok (by kernel_rfl) (tabOf_ok Try.prog) tA_ok (tI_ok) k).1
theorem callA {k f : Nat} {args args' : List MV} {h : MHeap} {m : MV} {news : MHeap} (h1 : args.mapM (frz 0 [] h 8) = some args') (hT : tA f args' [] = none) (h2 : runZ MT (orA k) (itA k) 4000000 f args' [] = some (m, news))
    (h3 : okV (ltL 0 args) m = true) (h4 : okH (ltL 0 args) news = true) : orA (k + 1) f args h = some (shV h.length m, h ++ news) :=
  orZ_call h1 (by unfold tabZ; rw [hT]; exact h2) h3 h4
end Go.Proofs.Ytbdleggmdbihnaa

/- From arguments as they are read to open values; from an answer to a law's statement. -/
namespace Go.Proofs.Ytbdleggmdbihnaa
open Go.RowKit Go.ChangeShapes Go.WideShapes Go.ChangeAt
set_option linter.unusedVariables false
inductive Sh where
  | int (k : IntKind)
  | bool
  | str
  | agg (fs : List Sh)
  | slice (e : Sh)
mutual
def Sh.size : Sh → Nat
  | .int _ | .bool | .str | .slice _ => 1
  | .agg fs => sizeL fs
def sizeL : List Sh → Nat
  | [] => 0
  | s :: ss => s.size + sizeL ss
end
mutual
def Sh.has (P : Program) : Sh → TypeId → Bool
  | .int k, t => (match P.underlying t with | some (.int k') => k' == k | _ => false)
  | .bool, t => (match P.underlying t with | some .bool => true | _ => false)
  | .str, t => (match P.underlying t with | some .string => true | _ => false)
  | .agg ss, t => (match P.underlying t with | some (.struct fs) => P.cellsOf t == sizeL ss && hasL P ss 0 fs.toList | _ => false)
  | .slice s, t => (match P.underlying t with | some (.slice e) => P.cellsOf e == s.size && Nat.blt 0 s.size && s.has P e | _ => false)
def hasL (P : Program) : List Sh → Nat → List Field → Bool
  | [], _, [] => true
  | s :: ss, off, f :: fs => f.offset == off && P.cellsOf f.type == s.size && s.has P f.type && hasL P ss (off + s.size) fs
  | _, _, _ => false
end
mutual
def Fits : Sh → MV → Prop
  | .int k, m => ∃ n, m = .lit (.int k n) ∧ (Lit.int k n).wf = true
  | .bool, m => ∃ b, m = .lit (.bool b)
  | .str, m => ∃ s : ByteArray, m = .lit (.string s) ∧ s.size ≤ maxLen
  | .agg ss, m => ∃ ms, FitsL ss ms ∧ m = .agg (ms.flatMap MV.cells)
  | .slice s, m => ∃ es, m = .sl es ∧ es.length ≤ maxLen ∧ ∀ e ∈ es, Fits s e
def FitsL : List Sh → List MV → Prop
  | [], ms => ms = []
  | s :: ss, ms => ∃ m r, ms = m :: r ∧ Fits s m ∧ FitsL ss r
end
def baseE (w : World) : Env := { S := fun b => b < w.heap.size, K := fun _ => False, ρ := fun _ => 0, bo := fun _ => 0, cp := fun _ => 0, sz := fun _ => 0, gn := fun _ => 0, ln := fun _ => 0, nl := fun _ => false, top := 0, yl := 0 }
theorem baseE_rel (w : World) : HRel (baseE w) [] w := ⟨fun _ h => h.elim, Nat.le_refl _, fun _ h => h.elim, fun _ _ h => h.elim, fun _ h => h.elim, fun _ h => h⟩
section
variable {H : Type} {enc : TypeId × Value → H} {P : Program} {w : World} {spare : Nat → Bool} {held : Bool}
theorem vs_one {E : Env} {w : World} {m : MV} {v : Value} (h : V E w m v) : Vs E w [m] [v] := Vs.cons h ⟨rfl, fun i c v hc => by simp at hc⟩
mutual
theorem lift_ok : ∀ (s : Sh) (t : TypeId) (fuel : Nat) (cs : List Value) (x : DataW H × List MemPlace), s.has P t = true → DataW.trod enc P w 0 spare held fuel t cs = some x →
    ∃ m, Fits s m ∧ Vs (baseE w) w m.cells cs ∧ m.cells.length = s.size
  | .int k, t, fuel, cs, x, hs, h => by
    simp only [Sh.has] at hs
    split at hs
    case h_2 => cases hs
    rename_i k' ht
    have : k' = k := by simpa using hs
    subst this
    obtain ⟨n, rfl, -, hw⟩ := DataW.trod_int ht h
    exact ⟨.lit (.int k' n), ⟨n, rfl, hw⟩, vs_one (.lit _), rfl⟩
  | .bool, t, fuel, cs, x, hs, h => by
    simp only [Sh.has] at hs
    split at hs
    case h_2 => cases hs
    rename_i ht
    obtain ⟨b, rfl, -⟩ := DataW.trod_bool ht h
    exact ⟨.lit (.bool b), ⟨b, rfl⟩, vs_one (.lit _), rfl⟩
  | .str, t, fuel, cs, x, hs, h => by
    simp only [Sh.has] at hs
    split at hs
    case h_2 => cases hs
    rename_i ht
    obtain ⟨b, rfl, -, hb⟩ := DataW.trod_string ht h
    exact ⟨.lit (.string b), ⟨b, rfl, hb⟩, vs_one (.lit _), rfl⟩
  | .agg ss, t, fuel, cs, x, hs, h => by
    simp only [Sh.has] at hs
    split at hs
    case h_2 => cases hs
    rename_i fs ht
    simp only [Bool.and_eq_true, beq_iff_eq] at hs
    obtain ⟨xs, n, -, -, hl, hlen, hf⟩ := DataW.trod_struct ht h
    obtain ⟨ms, h1, h2, h3⟩ := liftL_ok ss 0 fs.toList n cs hs.2 (by rw [hl, hs.1]; omega) fun i f hi => by
      have := hf i f (by simpa using hi)
      have hix : i < xs.length := by rw [hlen]; have := (List.getElem?_eq_some_iff.1 hi).1; simpa using this
      exact ⟨xs[i], by rw [this]; simp [hix]⟩
    exact ⟨.agg (ms.flatMap MV.cells), ⟨ms, h1, rfl⟩, by simpa [MV.cells] using h2, by simp only [MV.cells]; exact h3⟩
  | .slice s, t, fuel, cs, x, hs, h => by
    simp only [Sh.has] at hs
    split at hs
    case h_2 => cases hs
    rename_i e ht
    simp only [Bool.and_eq_true, beq_iff_eq] at hs
    obtain ⟨⟨hc, hpos⟩, hse⟩ := hs
    have hpos' : 0 < s.size := by simpa [Nat.blt_eq] using hpos
    rcases DataW.trod_slice ht h with ⟨rfl, -⟩ | ⟨a, len, cap, elems, rest, n, -, rfl, -, -, hle, hmx, hel, hE, -, -⟩
    · exact ⟨.sl [], ⟨[], rfl, by simp, fun e he => by cases he⟩, vs_one (.sl [] [] none 0 s.size (Nat.le_refl _) (fun e he => by cases he) rfl (fun i c v hc => by simp [flat] at hc) (fun h0 => absurd h0 (by simp))), rfl⟩
    · have key : ∀ i, i < len → ∃ m cs', Fits s m ∧ Vs (baseE w) w m.cells cs' ∧ m.cells.length = s.size ∧ cs'.length = s.size ∧ ∀ j, j < s.size → w.cell? ((a.add (i * s.size)).add j) = cs'[j]? := fun i hi => by
        have h1 := hE i hi
        have h2 : elems[i]? = some (elems[i]'(by rw [hel]; exact hi)) := by simp [hel, hi]
        rw [h2, Option.bind_eq_some_iff, hc] at h1
        obtain ⟨cs', h3, h4⟩ := h1
        obtain ⟨-, h5, h6⟩ := World.cells?_some h3
        obtain ⟨m, k1, k2, k3⟩ := lift_ok s e n cs' _ hse h4
        exact ⟨m, cs', k1, k2, k3, h5, h6⟩
      obtain ⟨F, hF⟩ : ∃ F : Nat → MV × List Value, ∀ i, i < len → Fits s (F i).1 ∧ Vs (baseE w) w (F i).1.cells (F i).2 ∧ (F i).1.cells.length = s.size ∧ (F i).2.length = s.size ∧ ∀ j, j < s.size → w.cell? ((a.add (i * s.size)).add j) = (F i).2[j]? :=
        ⟨fun i => if hi : i < len then ((key i hi).choose, (key i hi).choose_spec.choose) else default, fun i hi => by simp only [dif_pos hi]; exact (key i hi).choose_spec.choose_spec⟩
      have hmem : ∀ e ∈ (List.range len).map fun i => (F i).1, Fits s e ∧ e.cells.length = s.size := fun e he => by
        obtain ⟨i, hi, rfl⟩ := List.mem_map.1 he
        have hi' := List.mem_range.1 hi
        exact ⟨(hF i hi').1, (hF i hi').2.2.1⟩
      refine ⟨.sl ((List.range len).map fun i => (F i).1), ⟨_, rfl, by simp; omega, fun e he => (hmem e he).1⟩, vs_one ?_, rfl⟩
      have hflen : (flat ((List.range len).map fun i => (F i).1)).length = len * s.size := by rw [flat_len fun e he => (hmem e he).2]; simp
      have hcell : ∀ k, k < len * s.size → ∃ i j, i < len ∧ j < s.size ∧ k = i * s.size + j := fun k hk => ⟨k / s.size, k % s.size, Nat.div_lt_of_lt_mul (by rw [Nat.mul_comm]; exact hk), Nat.mod_lt _ hpos', (Nat.div_add_mod' k s.size).symm⟩
      have hspot : 0 < len → ∃ b off, a = ⟨b, off, none⟩ := fun h0 => by
        obtain ⟨b, off, spot⟩ := a
        have h1 := (hF 0 h0).2.2.2.2 0 hpos'
        rw [List.getElem?_eq_getElem (by rw [(hF 0 h0).2.2.2.1]; exact hpos')] at h1
        have hsp : spot = none := by simpa [Addr.add] using World.cell?_spot h1
        exact ⟨b, off, by rw [hsp]⟩
      by_cases h0 : 0 < len
      · obtain ⟨b, off, rfl⟩ := hspot h0
        have hb : b < w.heap.size := by
          have h1 := (hF 0 h0).2.2.2.2 0 hpos'
          rw [List.getElem?_eq_getElem (by rw [(hF 0 h0).2.2.2.1]; exact hpos')] at h1
          have := cell_lt h1
          simpa [Addr.add] using this
        have hval : ∀ i j, i < len → j < s.size → w.cell? ⟨b, off + (i * s.size + j), none⟩ = (F i).2[j]? := fun i j hi hj => by
          rw [← (hF i hi).2.2.2.2 j hj]
          simp [Go.WideShapes.add_plain, Nat.add_assoc]
        have hl2 : ((List.range len).map fun i => (F i).1).length = len := by simp
        have := V.sl (E := baseE w) (w := w) ((List.range len).map fun i => (F i).1) ((List.range (len * s.size)).map fun k => (w.cell? ⟨b, off + k, none⟩).getD undef) (some ⟨b, off, none⟩) cap s.size (by rw [hl2]; exact hle) (fun e he => (hmem e he).2) (by rw [hflen]; simp)
          (fun k c v hk hv => by
            obtain ⟨i, j, e, rfl, hj, he, hcj⟩ := (flat_iff fun e he => (hmem e he).2).1 hk
            have hi : i < len := by have := (List.getElem?_eq_some_iff.1 he).1; simpa using this
            have he' : (F i).1 = e := by simpa [hi] using he
            subst he'
            have hlt : i * s.size + j < len * s.size := by
              have := Nat.mul_le_mul_right s.size (show i + 1 ≤ len from hi)
              rw [Nat.add_mul, Nat.one_mul] at this
              omega
            rw [List.getElem?_map, List.getElem?_range hlt, Option.map_some, hval i j hi hj] at hv
            have hj2 : j < (F i).2.length := by rw [(hF i hi).2.2.2.1]; exact hj
            rw [List.getElem?_eq_getElem hj2, Option.getD_some, Option.some.injEq] at hv
            exact (hF i hi).2.1.2 j c v hcj (by rw [List.getElem?_eq_getElem hj2, hv]))
          (fun _ => ⟨b, off, rfl, hb, fun k v hk => by
            have hlt : k < len * s.size := by have := (List.getElem?_eq_some_iff.1 hk).1; simpa using this
            obtain ⟨i, j, hi, hj, rfl⟩ := hcell k hlt
            rw [List.getElem?_map, List.getElem?_range hlt, Option.map_some] at hk
            have hj2 : j < (F i).2.length := by rw [(hF i hi).2.2.2.1]; exact hj
            have h9 := hval i j hi hj
            rw [List.getElem?_eq_getElem hj2] at h9
            rw [h9, Option.getD_some, Option.some.injEq] at hk
            rw [h9, hk]⟩)
        rw [hl2] at this
        exact this
      · have hl0 : len = 0 := by omega
        subst hl0
        exact .sl [] [] (some a) cap s.size (by simp) (fun e he => by cases he) rfl (fun i c v hc => by simp [flat] at hc) (fun h0 => absurd h0 (by simp))
theorem liftL_ok : ∀ (ss : List Sh) (off : Nat) (fs : List Field) (n : Nat) (cs : List Value), hasL P ss off fs = true → cs.length = off + sizeL ss → (∀ (i : Nat) (f : Field), fs[i]? = some f → ∃ x, DataW.trod enc P w 0 spare held n f.type ((cs.drop f.offset).take (P.cellsOf f.type)) = some x) →
    ∃ ms, FitsL ss ms ∧ Vs (baseE w) w (ms.flatMap MV.cells) (cs.drop off) ∧ (ms.flatMap MV.cells).length = sizeL ss
  | [], off, fs, n, cs, hs, hl, hf => ⟨[], rfl, by
      have : cs.drop off = [] := List.drop_eq_nil_of_le (by simp [sizeL] at hl; omega)
      rw [this]; exact ⟨rfl, fun i c v hc => by simp at hc⟩, rfl⟩
  | s :: ss, off, [], n, cs, hs, hl, hf => by simp [hasL] at hs
  | s :: ss, off, f :: fs, n, cs, hs, hl, hf => by
    simp only [hasL, Bool.and_eq_true, beq_iff_eq] at hs
    obtain ⟨⟨⟨h1, h2⟩, h3⟩, h4⟩ := hs
    obtain ⟨x, hx⟩ := hf 0 f rfl
    rw [h1, h2] at hx
    obtain ⟨m, k1, k2, k3⟩ := lift_ok s f.type n _ x h3 hx
    obtain ⟨ms, j1, j2, j3⟩ := liftL_ok ss (off + s.size) fs n cs h4 (by simp only [sizeL] at hl; omega) fun i f' hi => hf (i + 1) f' (by simpa using hi)
    refine ⟨m :: ms, ⟨m, ms, rfl, k1, j1⟩, ?_, by simp only [List.flatMap_cons, List.length_append, sizeL, k3, j3]⟩
    have e : cs.drop off = (cs.drop off).take s.size ++ cs.drop (off + s.size) := by
      rw [← List.drop_drop]; exact (List.take_append_drop _ _).symm
    rw [e, List.flatMap_cons]
    exact k2.append j2
end
end
end Go.Proofs.Ytbdleggmdbihnaa

/- From an answer to a law's statement. -/
namespace Go.Proofs.Ytbdleggmdbihnaa
open Go.RowKit Go.ChangeShapes Go.WideShapes Go.ChangeAt
set_option linter.unusedVariables false
theorem Try.own : ownKnob Try.prog.godebug = none := by kernel_rfl
theorem Try.laidOut : laidOutB Try.prog = true := by kernel_rfl
section
variable {H : Type} {enc : TypeId × Value → H} {P : Program} {w : World} {spare : Nat → Bool} {held : Bool}
theorem lift_val {s : Sh} {t : TypeId} {v : Value} {d : DataW H} {p : List MemPlace} {r : Reach} {b : Nat} (hs : s.has P t = true) (hv : Value.okWide P w r b t v) (h : DataW.Trod enc P w 0 spare held t v d p) : ∃ m, Fits s m ∧ V (baseE w) w m v := by
  obtain ⟨fuel, h⟩ := h
  obtain ⟨m, h1, h2, h3⟩ := lift_ok s t fuel _ _ hs h
  refine ⟨m, h1, ?_⟩
  have one : m.cells = [m] → v.cells = #[v] → V (baseE w) w m v := fun e1 e2 => by
    rw [e1, e2] at h2
    exact h2.2 0 m v rfl rfl
  cases s with
  | int k =>
    simp only [Fits] at h1
    obtain ⟨n, rfl, -⟩ := h1
    simp only [Sh.has] at hs
    split at hs
    case h_2 => cases hs
    rename_i k' ht
    obtain ⟨n', rfl⟩ := okWide_int ht hv
    exact one rfl rfl
  | bool =>
    simp only [Fits] at h1
    obtain ⟨n, rfl⟩ := h1
    simp only [Sh.has] at hs
    split at hs
    case h_2 => cases hs
    rename_i ht
    obtain ⟨n', rfl⟩ := okWide_bool ht hv
    exact one rfl rfl
  | str =>
    simp only [Fits] at h1
    obtain ⟨n, rfl, -⟩ := h1
    simp only [Sh.has] at hs
    split at hs
    case h_2 => cases hs
    rename_i ht
    obtain ⟨n', rfl⟩ := okWide_string ht hv
    exact one rfl rfl
  | slice s =>
    simp only [Fits] at h1
    obtain ⟨es, rfl, -⟩ := h1
    simp only [Sh.has] at hs
    split at hs
    case h_2 => cases hs
    rename_i e ht
    obtain ⟨a, len, cap, rfl⟩ := okWide_slice ht hv
    exact one rfl rfl
  | agg ss =>
    simp only [Fits] at h1
    obtain ⟨ms, -, rfl⟩ := h1
    simp only [Sh.has] at hs
    split at hs
    case h_2 => cases hs
    rename_i fs ht
    obtain ⟨cs, rfl, -⟩ := okWide_struct ht hv
    have h4 : Vs (baseE w) w (ms.flatMap MV.cells) cs.toList := by simpa [MV.cells, Value.cells] using h2
    have := V.agg (E := baseE w) (w := w) _ _ h4.1 h4.2
    simpa using this
def hasAll (P : Program) : List Sh → List TypeId → Bool
  | [], [] => true
  | s :: ss, t :: ts => s.has P t && hasAll P ss ts
  | _, _ => false
theorem lift_all {r : Reach} {b : Nat} : ∀ (ss : List Sh) (ts : List TypeId) (vs : List Value) (ds : List (DataW H)) (ps : List MemPlace), hasAll P ss ts = true → DataW.TrodAll enc P w 0 spare held ts vs ds ps →
    (∀ (j : Nat) t v, ts[j]? = some t → vs[j]? = some v → Value.okWide P w r b t v) → ∃ ms, FitsL ss ms ∧ Vs (baseE w) w ms vs ∧ ds.length = ss.length
  | [], [], [], [], ps, _, _, _ => ⟨[], rfl, ⟨rfl, fun i c v hc => by simp at hc⟩, rfl⟩
  | [], [], [], _ :: _, ps, _, h, _ => by simp [DataW.TrodAll] at h
  | [], [], _ :: _, _, ps, _, h, _ => by simp [DataW.TrodAll] at h
  | s :: ss, t :: ts, [], _, ps, _, h, _ => by simp [DataW.TrodAll] at h
  | s :: ss, t :: ts, _ :: _, [], ps, _, h, _ => by simp [DataW.TrodAll] at h
  | s :: ss, t :: ts, v :: vs, d :: ds, ps, hs, h, hv => by
    simp only [hasAll, Bool.and_eq_true] at hs
    obtain ⟨p, q, h1, h2, -⟩ := h
    obtain ⟨m, k1, k2⟩ := lift_val hs.1 (hv 0 t v rfl rfl) h1
    obtain ⟨ms, j1, j2, j3⟩ := lift_all ss ts vs ds q hs.2 h2 fun j t' v' ht hv' => hv (j + 1) t' v' (by simpa using ht) (by simpa using hv')
    exact ⟨m :: ms, ⟨m, ms, rfl, k1, j1⟩, Vs.cons k2 j2, by simp [j3]⟩
  | [], _ :: _, _, _, _, hs, _, _ => by simp [hasAll] at hs
  | _ :: _, [], _, _, _, hs, _, _ => by simp [hasAll] at hs
theorem stay_all (hl : laidOutB P = true) {W' : World} (hb : Below w.heap.size w W') : ∀ (ts : List TypeId) (vs : List Value) (ds : List (DataW H)) (ps : List MemPlace), DataW.TrodAll enc P w 0 (fun _ => true) true ts vs ds ps → (ts.all fun t => P.readableRec t && decide (t < P.types.size)) = true → (∀ x ∈ ps, x.block < w.heap.size) →
    DataW.TrodAll enc P W' 0 (fun b => decide (b < w.heap.size)) true ts vs ds ps
  | [], [], [], ps, h, _, _ => h
  | [], [], _ :: _, ps, h, _, _ => by simp [DataW.TrodAll] at h
  | [], _ :: _, _, ps, h, _, _ => by simp [DataW.TrodAll] at h
  | t :: ts, [], _, ps, h, _, _ => by simp [DataW.TrodAll] at h
  | t :: ts, _ :: _, [], ps, h, _, _ => by simp [DataW.TrodAll] at h
  | t :: ts, v :: vs, d :: ds, ps, h, hr, hlt => by
    obtain ⟨p, q, h1, h2, rfl⟩ := h
    simp only [List.all_cons, Bool.and_eq_true, decide_eq_true_eq] at hr
    exact ⟨p, q, Below.trod hl hr.1.1 hr.1.2 h1 hb (fun x hx => hlt x (List.mem_append_left _ hx)), stay_all hl hb ts vs ds q h2 (by simpa using hr.2) (fun x hx => hlt x (List.mem_append_right _ hx)), rfl⟩
end
theorem below_ext {w w' : World} {E E' : Env} (hK : ∀ id, ¬ E.K id) (hx : Ext (fun _ => true) E w E' w') : Below w.heap.size w w' :=
  ext_below (n := 0) (hx.mono fun id hk _ => rfl) (fun id hk => absurd hk (hK id))
theorem law_calls {f : Nat} {args : List MV} {vs : List Value} {w : World} (hz : runZ MT (orA 14) (itA 14) 4000000 f args [] = some (.lit (.bool true), [])) (hv : Vs (baseE w) w args vs) :
    Calls Try.prog f vs.toArray w fun e w' => e = .returned (.bool true) ∧ Below w.heap.size w w' := by
  have hI : SoundI Try.prog (itA 14) := orI_ok (by kernel_rfl) (tabOf_ok Try.prog) tI_ok (orA_ok 14) (orZ_ok (by kernel_rfl) (tabOf_ok Try.prog) tA_ok tI_ok 14).2
  refine ((runZ_ok (by kernel_rfl) (tabOf_ok Try.prog) (orA_ok 14) (orZ_ok (by kernel_rfl) (tabOf_ok Try.prog) tA_ok tI_ok 14).2 hI hz).2 (baseE w) w vs (baseE_rel w) hv).mono ?_
  rintro e w' ⟨v, E', rfl, h1, -, h3⟩
  exact ⟨by rw [h1.lit_eq], below_ext (fun id hk => hk) h3⟩
set_option maxRecDepth 100000 in
theorem law_contract {H : Type} {enc : TypeId × Value → H} {f : Nat} {fn : Func} {s : ChangeSpec} (shs : List Sh) (hp : hasAll Try.prog shs fn.params.toList = true) (hrd : (fn.params.toList.all fun t => Try.prog.readableRec t && decide (t < Try.prog.types.size)) = true) (hr : fn.resultTypes = #[4])
    (hsv : s.vars = []) (hspec : ∀ ds : List (DataW H), ds.length = shs.length → (s.fn H (ds ++ [])).results = [.lit (.bool true)] ∧ (s.fn H (ds ++ [])).args = ds ∧ (s.fn H (ds ++ [])).vars = [])
    (hz : ∀ ms, FitsL shs ms → runZ MT (orA 14) (itA 14) 4000000 f ms [] = some (.lit (.bool true), []))
    (W : World) (base : Nat) (args : Array Value) (ds gs : List (DataW H)) (before : List MemPlace) (hval : ∀ (j : Nat) t v, fn.params[j]? = some t → args[j]? = some v → Value.okWide Try.prog W .any base t v)
    (hW : DataW.Whole enc Try.prog fn.params.toList s.vars false W args.toList ds gs before) :
    Calls Try.prog f args W fun e W' => ∃ v, e = .returned v ∧ s.post enc Try.prog fn false true false false W args v W' := by
  have hW' := hW
  obtain ⟨p, q, hA, hV, rfl, hfz, hnd⟩ := hW
  rw [hsv] at hV
  obtain ⟨rfl, rfl⟩ := trodVars_none hV
  have hv2 : ∀ (j : Nat) (t : TypeId) (v : Value), fn.params.toList[j]? = some t → args.toList[j]? = some v → Value.okWide Try.prog W .any base t v := fun j t v ht hv => hval j t v (by rw [Array.getElem?_toList] at ht; exact ht) (by rw [Array.getElem?_toList] at hv; exact hv)
  obtain ⟨ms, h1, h2, h3⟩ := lift_all (P := Try.prog) (w := W) shs fn.params.toList args.toList ds p hp hA hv2
  have hc := law_calls (hz ms h1) h2
  rw [Array.toArray_toList] at hc
  refine hc.mono ?_
  rintro e W' ⟨rfl, hb⟩
  obtain ⟨e1, e2, e3⟩ := hspec ds h3
  have hlt : ∀ x ∈ p ++ [], x.block < W.heap.size := fun x hx => by simpa using hW'.lt x hx
  refine ⟨_, rfl, ds, [], p ++ [], [], p, [], hW', ?_, ?_, ?_, hb.frame _, fun h => by cases h⟩
  · rw [e1, hr]
    exact trodAll_mk1 (shut_bool Try.underlying4 true)
  · rw [e2]
    exact stay_all Try.laidOut hb _ _ _ _ hA hrd fun x hx => hlt x (by simpa using hx)
  · rw [e3, hsv]; rfl
end Go.Proofs.Ytbdleggmdbihnaa

/- Open values of common shapes. -/
namespace Go.Proofs.Ytbdleggmdbihnaa
open Go.ChangeShapes Go.WideShapes Go.ChangeAt Go.RowKit
theorem fits_ints {m : MV} (h : Fits (.slice (.int .i64)) m) : ∃ xs : List Int, m = .sl (xs.map I64) ∧ xs.length ≤ maxLen ∧ ∀ n ∈ xs, (Lit.int .i64 n).wf = true := by
  simp only [Fits] at h
  obtain ⟨es, rfl, hl, he⟩ := h
  induction es with
  | nil => exact ⟨[], rfl, by simp, fun n hn => by cases hn⟩
  | cons e es ih =>
    obtain ⟨n, rfl, hw⟩ := he e List.mem_cons_self
    obtain ⟨xs, h1, h2, h3⟩ := ih (by simp at hl; omega) fun e h => he e (List.mem_cons_of_mem _ h)
    refine ⟨n :: xs, by simpa using h1, ?_, fun k hk => ?_⟩
    · have : es = xs.map I64 := by simpa using h1
      subst this
      simpa using hl
    · rcases List.mem_cons.1 hk with rfl | hk
      · exact hw
      · exact h3 k hk
theorem maxLen_le : maxLen ≤ 9223372036854775807 := by decide
theorem fits_int {k : IntKind} {m : MV} (h : Fits (.int k) m) : ∃ n, m = .lit (.int k n) ∧ (Lit.int k n).wf = true := by
  simp only [Fits] at h; exact h
theorem fits_agg {ss : List Sh} {m : MV} (h : Fits (.agg ss) m) : ∃ ms, FitsL ss ms ∧ m = .agg (ms.flatMap MV.cells) := by
  simp only [Fits] at h; exact h
theorem fitsL_cons {s : Sh} {ss : List Sh} {ms : List MV} (h : FitsL (s :: ss) ms) : ∃ m r, ms = m :: r ∧ Fits s m ∧ FitsL ss r := by
  simp only [FitsL] at h; exact h
theorem fitsL_nil {ms : List MV} (h : FitsL [] ms) : ms = [] := by
  simp only [FitsL] at h; exact h
end Go.Proofs.Ytbdleggmdbihnaa

/- Contracts of small functions. -/
namespace Go.Proofs.Ytbdleggmdbihnaa
open Go.RowKit
set_option linter.unusedVariables false
theorem callL {k f : Nat} {args args' : List MV} {h : MHeap} {v : Value} (h1 : args.mapM (frz 0 [] h 8) = some args') (hT : tA f args' [] = none) (h2 : runZ MT (orA k) (itA k) 4000000 f args' [] = some (.lit v, [])) : orA (k + 1) f args h = some (.lit v, h) := by
  have := callA h1 hT h2 (by simp [okV, ok1, MV.lt, MV.pure]) rfl
  simpa [shV, sh1] using this
theorem frz_lits {h : MHeap} : ∀ vs : List Value, (vs.map MV.lit).mapM (frz 0 [] h 8) = some (vs.map .lit)
  | [] => rfl
  | v :: vs => by
    rw [List.map_cons, List.mapM_cons, frz_lits vs]
    simp [frz, MV.lt]
theorem at_map {α β : Type} (f : α → β) (xs : List α) (i : Nat) (h : i < xs.length) : (xs.map f)[((i : Nat) : Int).toNat]? = some (f xs[i]) := by
  rw [Int.toNat_natCast, List.getElem?_map, List.getElem?_eq_getElem h]; rfl
theorem mf_Within : MT.mf 22 = some ⟨15, [(.tmp 6)], (.seq (.reg [⟨none, some 6, .mv (.c (.lit (.bool false)))⟩]) (.seq (.reg [⟨none, some 7, .mv (.s 1)⟩, ⟨none, some 8, .mv (.s 0)⟩, ⟨none, some 9, .bin .leq (.s 7) (.s 8)⟩, ⟨none, some 10, .mv (.s 9)⟩, ⟨some (10, true), some 11, .mv (.s 0)⟩, ⟨some (10, true), some 12, .mv (.s 2)⟩, ⟨some (10, true), some 13, .bin .leq (.s 11) (.s 12)⟩, ⟨none, some 14, .pick (.s 10) (.s 13) (.c (.lit (.bool false)))⟩, ⟨none, some 6, .mv (.s 14)⟩]) .ret))⟩ := by kernel_rfl
theorem Within_c (k : Nat) (a b c : Int) (h : MHeap) {t : Bool} (ht : inB a b c = t) : orA (k + 1) 22 [I64 a, I64 b, I64 c] h = some (Bo t, h) := by
  refine callL (frz_lits [.int .i64 a, .int .i64 b, .int .i64 c]) rfl (runZ_of mf_Within (by simp) ?_)
  simp only [argsL, List.map_cons, List.map_nil]
  repeat (first | apply ef_seq | (apply ef_mv; exact rfl; exact rfl) | (apply ef_bin; exact rfl; exact rfl; exact rfl; (first | exact cmp_t rfl (by first | exact rfl | (simp only [cmpP]; omega)) | exact cmp_f rfl (by simp only [cmpP]; omega) | exact rfl)) | (apply ef_gy; exact rfl; (first | exact (rfl : true = true) | exact (rfl : false = false) | exact (rfl : true = !false) | exact (rfl : false = !true) | assumption | exact decide_eq_true (by omega) | exact decide_eq_false (by omega))) | (apply ef_gn; exact rfl; (first | exact (rfl : true = true) | exact (rfl : false = false) | exact (rfl : true = !false) | exact (rfl : false = !true) | assumption | exact decide_eq_true (by omega) | exact decide_eq_false (by omega)); exact rfl) | (apply ef_gu; exact rfl; exact rfl) | (apply ef_pick; exact rfl; exact rfl; exact rfl) | (apply ef_pickb; exact rfl; exact rfl; exact rfl; exact rfl) | apply ef_nil | apply seqQ.normal | apply ef_ret | apply seqQ.ret)
  cases h1 : decide (b ≤ a)
  all_goals repeat (first | apply ef_seq | (apply ef_mv; exact rfl; exact rfl) | (apply ef_bin; exact rfl; exact rfl; exact rfl; (first | exact cmp_t rfl (by first | exact rfl | (simp only [cmpP]; omega)) | exact cmp_f rfl (by simp only [cmpP]; omega) | exact rfl)) | (apply ef_gy; exact rfl; (first | exact (rfl : true = true) | exact (rfl : false = false) | exact (rfl : true = !false) | exact (rfl : false = !true) | assumption | exact decide_eq_true (by omega) | exact decide_eq_false (by omega))) | (apply ef_gn; exact rfl; (first | exact (rfl : true = true) | exact (rfl : false = false) | exact (rfl : true = !false) | exact (rfl : false = !true) | assumption | exact decide_eq_true (by omega) | exact decide_eq_false (by omega)); exact rfl) | (apply ef_gu; exact rfl; exact rfl) | (apply ef_pick; exact rfl; exact rfl; exact rfl) | (apply ef_pickb; exact rfl; exact rfl; exact rfl; exact rfl) | apply ef_nil | apply seqQ.normal | apply ef_ret | apply seqQ.ret)
  · (refine fin1 rfl (by exact rfl) rfl ?_)
    simp at h1; simp [inB] at ht; simp; rw [← ht]; simp; omega
  · (refine fin1 rfl (by exact rfl) rfl ?_)
    simp at h1; simp [inB, h1] at ht; simp [← ht]
end Go.Proofs.Ytbdleggmdbihnaa

/- Rows of integers. -/
namespace Go.Proofs.Ytbdleggmdbihnaa
open Go.RowKit
set_option linter.unusedVariables false
theorem ltL_lits {n : Nat} {α : Type} {f : α → MV} (hf : ∀ a, (f a).lt n = true) : ∀ xs : List α, ltL n (xs.map f) = true
  | [] => rfl
  | x :: xs => by simp [ltL, hf x, ltL_lits hf xs]
theorem pureL_lits {α : Type} {f : α → MV} (hf : ∀ a, (f a).pure = true) : ∀ xs : List α, pureL (xs.map f) = true
  | [] => rfl
  | x :: xs => by simp [pureL, hf x, pureL_lits hf xs]
theorem ltL_I (n : Nat) (xs : List Int) : ltL n (xs.map I64) = true := ltL_lits (fun _ => rfl) xs
theorem pureL_I (xs : List Int) : pureL (xs.map I64) = true := pureL_lits (fun _ => rfl) xs
theorem frz_arr {h : MHeap} {id i k g : Nat} {o : MObj} {es : List MV} (ho : h[id]? = some o) (hg : o.g = g) (hk : i + k ≤ o.es.length) (hl : ltL 0 o.es = true) (he : (o.es.drop i).take k = es) : frz 0 [] h 8 (.arr id i k g) = some (.sl es) := by
  simp [frz, MV.lt, ho, hg, hk, hl, he]
theorem frz_sl {h : MHeap} {es : List MV} (hl : ltL 0 es = true) : frz 0 [] h 8 (.sl es) = some (.sl es) := by
  simp [frz, MV.lt, hl]
def FzS (H : MHeap) (v : MV) (es : List MV) : Prop := v.slen = some es.length ∧ ∀ t, frz 0 [] (H ++ t) 8 v = some (.sl es)
theorem FzS.now {H : MHeap} {v : MV} {es : List MV} (h : FzS H v es) : frz 0 [] H 8 v = some (.sl es) := by have := h.2 []; rwa [List.append_nil] at this
theorem fz_arr {h : MHeap} {id k : Nat} {o : MObj} {es : List MV} (ho : h[id]? = some o) (hg : o.g = 0) (hk : k = es.length) (hl : ltL 0 es = true) (he : o.es = es) : FzS h (.arr id 0 k 0) es := by
  subst he hk
  refine ⟨rfl, fun t => frz_arr (o := o) ?_ hg (by simp) hl (by simp)⟩
  rw [List.getElem?_append_left (List.getElem?_eq_some_iff.1 ho).1]; exact ho
theorem mf_Ints : MT.mf 35 = some ⟨26, [(.tmp 4)], (.seq (.reg [⟨none, some 4, .mv (.c (.lit (.bool false)))⟩]) (.seq (.seq (.reg [⟨none, some 6, .mv (.s 0)⟩, ⟨none, some 7, .len (.s 6)⟩, ⟨none, some 8, .mv (.s 1)⟩, ⟨none, some 9, .len (.s 8)⟩, ⟨none, some 10, .bin .neq (.s 7) (.s 9)⟩]) (.cond (.s 10) (.seq (.reg [⟨none, some 4, .mv (.c (.lit (.bool false)))⟩]) .ret) .skip)) (.seq (.seq (.reg [⟨none, some 5, .mv (.c (.lit (.int .i64 0)))⟩]) (.block 0 (.loop [5, 0, 1] (.seq (.seq (.reg [⟨none, some 11, .mv (.s 5)⟩, ⟨none, some 12, .mv (.s 0)⟩, ⟨none, some 13, .len (.s 12)⟩, ⟨none, some 14, .bin .lss (.s 11) (.s 13)⟩]) (.cond (.s 14) .skip (.exit 0))) (.seq (.block 1 (.seq (.reg [⟨none, some 17, .mv (.s 0)⟩, ⟨none, some 18, .mv (.s 5)⟩, ⟨none, some 19, .ia 1 (.s 17) (.s 18)⟩, ⟨none, some 20, .ld none (.s 19)⟩, ⟨none, some 21, .mv (.s 1)⟩, ⟨none, some 22, .mv (.s 5)⟩, ⟨none, some 23, .ia 1 (.s 21) (.s 22)⟩, ⟨none, some 24, .ld none (.s 23)⟩, ⟨none, some 25, .bin .neq (.s 20) (.s 24)⟩]) (.cond (.s 25) (.seq (.reg [⟨none, some 4, .mv (.c (.lit (.bool false)))⟩]) .ret) .skip))) (.reg [⟨none, some 15, .mv (.s 5)⟩, ⟨none, some 16, .bin .add (.s 15) (.c (.lit (.int .i64 1)))⟩, ⟨none, some 5, .mv (.s 16)⟩])))))) (.seq (.reg [⟨none, some 4, .mv (.c (.lit (.bool true)))⟩]) .ret))))⟩ := by kernel_rfl
theorem bInts_z (k : Nat) (xs ys : List Int) (hx : xs.length < 1000000) : runZ MT (orA k) (itA k) 4000000 35 [.sl (xs.map I64), .sl (ys.map I64)] [] = some (Bo (xs == ys), []) := by
  have hl1 : (xs.map I64).length = xs.length := by simp
  have hl2 : (ys.map I64).length = ys.length := by simp
  refine runZ_of mf_Ints (by simp) ?_
  simp only [argsL]
  by_cases hlen : xs.length = ys.length
  · repeat (first | apply ef_seq | (apply ef_mv; exact rfl; exact rfl) | (apply ef_bin; exact rfl; exact rfl; exact rfl; (first | exact cmp_t rfl (by first | exact rfl | (simp only [cmpP]; omega)) | exact cmp_f rfl (by simp only [cmpP]; omega) | ((with_reducible refine bin_add (wrap_of ?_ ?_)) <;> omega) | with_reducible exact bin_add (by assumption) | exact rfl)) | (apply ef_len; exact rfl; exact rfl; (first | assumption | exact rfl)) | (apply ef_ldr; exact rfl; exact rfl; (first | exact rfl)) | (apply ef_ldp; exact rfl; exact rfl; exact rfl; exact rfl; (first | exact rfl | assumption); (first | exact rfl)) | (apply ef_ias; exact rfl; exact rfl; exact rfl; (first | omega | assumption); assumption; exact rfl) | (apply ef_iaa; exact rfl; exact rfl; exact rfl; (first | omega | assumption); (first | omega | assumption); exact rfl) | apply ef_nil | apply seqQ.normal | apply loopQ.ret | apply loopQ.exit | apply ef_ret | apply seqQ.ret | apply ef_exit | apply seqQ.exit | apply blockQ.normal | apply blockQ.ret | apply blockQ.here | (apply blockQ_there; exact rfl) | apply ef_block | apply ef_skip | (apply ef_condt; exact rfl; (first | exact (rfl : true = true) | assumption | exact decide_eq_true (by omega))) | (apply ef_condf; exact rfl; (first | exact (rfl : false = false) | assumption | exact decide_eq_false (by omega))))
    refine ef_loop (α := Nat) (fun i => i ≤ xs.length ∧ (xs == ys) = (xs.drop i == ys.drop i)) (fun i => [(5, I64 (i : Int)), (0, .sl (xs.map I64)), (1, .sl (ys.map I64))]) (fun _ => []) (fun i => xs.length - i) 0 [5, 0, 1] (fun _ => rfl) rfl ⟨by omega, by simp⟩ (by simp; omega) (by ((repeat (refine Hold.cons (by exact rfl) ?_)); exact Hold.nil)) rfl ?_
    rintro i ⟨hi, hz⟩
    by_cases hlt : i < xs.length
    · have e1 := at_map I64 xs i hlt
      have e2 := at_map I64 ys i (by omega)
      have HD := Lib.hid (drop_at xs i hlt)
      have HD2 := Lib.hid (drop_at ys i (by omega))
      have HZ := Lib.hid hz
      clear hz
      generalize xs[i] = p at e1 HD
      generalize ys[i] = q at e2 HD2
      by_cases hpq : p = q
      · subst hpq
        repeat (first | apply ef_seq | (apply ef_mv; exact rfl; exact rfl) | (apply ef_bin; exact rfl; exact rfl; exact rfl; (first | exact cmp_t rfl (by first | exact rfl | (simp only [cmpP]; omega)) | exact cmp_f rfl (by simp only [cmpP]; omega) | ((with_reducible refine bin_add (wrap_of ?_ ?_)) <;> omega) | with_reducible exact bin_add (by assumption) | exact rfl)) | (apply ef_len; exact rfl; exact rfl; (first | assumption | exact rfl)) | (apply ef_ldr; exact rfl; exact rfl; (first | exact rfl)) | (apply ef_ldp; exact rfl; exact rfl; exact rfl; exact rfl; (first | exact rfl | assumption); (first | exact rfl)) | (apply ef_ias; exact rfl; exact rfl; exact rfl; (first | omega | assumption); assumption; exact rfl) | (apply ef_iaa; exact rfl; exact rfl; exact rfl; (first | omega | assumption); (first | omega | assumption); exact rfl) | apply ef_nil | apply seqQ.normal | apply loopQ.ret | apply loopQ.exit | apply ef_ret | apply seqQ.ret | apply ef_exit | apply seqQ.exit | apply blockQ.normal | apply blockQ.ret | apply blockQ.here | (apply blockQ_there; exact rfl) | apply ef_block | apply ef_skip | (apply ef_condt; exact rfl; (first | exact (rfl : true = true) | assumption | exact decide_eq_true (by omega))) | (apply ef_condf; exact rfl; (first | exact (rfl : false = false) | assumption | exact decide_eq_false (by omega))))
        (refine loopQ.normal _ _ ⟨i + 1, ⟨hlt, by rw [HZ.out, HD.out, HD2.out]; simp⟩, (by first | (simp only; omega) | omega), by ((repeat (refine Hold.cons (by exact rfl) ?_)); exact Hold.nil), .inl (Nat.le_refl _), (by first | exact List.take_length | exact rfl)⟩)
      · repeat (first | apply ef_seq | (apply ef_mv; exact rfl; exact rfl) | (apply ef_bin; exact rfl; exact rfl; exact rfl; (first | exact cmp_t rfl (by first | exact rfl | (simp only [cmpP]; omega)) | exact cmp_f rfl (by simp only [cmpP]; omega) | ((with_reducible refine bin_add (wrap_of ?_ ?_)) <;> omega) | with_reducible exact bin_add (by assumption) | exact rfl)) | (apply ef_len; exact rfl; exact rfl; (first | assumption | exact rfl)) | (apply ef_ldr; exact rfl; exact rfl; (first | exact rfl)) | (apply ef_ldp; exact rfl; exact rfl; exact rfl; exact rfl; (first | exact rfl | assumption); (first | exact rfl)) | (apply ef_ias; exact rfl; exact rfl; exact rfl; (first | omega | assumption); assumption; exact rfl) | (apply ef_iaa; exact rfl; exact rfl; exact rfl; (first | omega | assumption); (first | omega | assumption); exact rfl) | apply ef_nil | apply seqQ.normal | apply loopQ.ret | apply loopQ.exit | apply ef_ret | apply seqQ.ret | apply ef_exit | apply seqQ.exit | apply blockQ.normal | apply blockQ.ret | apply blockQ.here | (apply blockQ_there; exact rfl) | apply ef_block | apply ef_skip | (apply ef_condt; exact rfl; (first | exact (rfl : true = true) | assumption | exact decide_eq_true (by omega))) | (apply ef_condf; exact rfl; (first | exact (rfl : false = false) | assumption | exact decide_eq_false (by omega))))
        (refine fin1 rfl (by exact rfl) rfl ?_)
        rw [HZ.out, HD.out, HD2.out]
        simp [hpq]
    · repeat (first | apply ef_seq | (apply ef_mv; exact rfl; exact rfl) | (apply ef_bin; exact rfl; exact rfl; exact rfl; (first | exact cmp_t rfl (by first | exact rfl | (simp only [cmpP]; omega)) | exact cmp_f rfl (by simp only [cmpP]; omega) | ((with_reducible refine bin_add (wrap_of ?_ ?_)) <;> omega) | with_reducible exact bin_add (by assumption) | exact rfl)) | (apply ef_len; exact rfl; exact rfl; (first | assumption | exact rfl)) | (apply ef_ldr; exact rfl; exact rfl; (first | exact rfl)) | (apply ef_ldp; exact rfl; exact rfl; exact rfl; exact rfl; (first | exact rfl | assumption); (first | exact rfl)) | (apply ef_ias; exact rfl; exact rfl; exact rfl; (first | omega | assumption); assumption; exact rfl) | (apply ef_iaa; exact rfl; exact rfl; exact rfl; (first | omega | assumption); (first | omega | assumption); exact rfl) | apply ef_nil | apply seqQ.normal | apply loopQ.ret | apply loopQ.exit | apply ef_ret | apply seqQ.ret | apply ef_exit | apply seqQ.exit | apply blockQ.normal | apply blockQ.ret | apply blockQ.here | (apply blockQ_there; exact rfl) | apply ef_block | apply ef_skip | (apply ef_condt; exact rfl; (first | exact (rfl : true = true) | assumption | exact decide_eq_true (by omega))) | (apply ef_condf; exact rfl; (first | exact (rfl : false = false) | assumption | exact decide_eq_false (by omega))))
      (refine fin1 rfl (by exact rfl) rfl ?_)
      rw [hz, List.drop_eq_nil_of_le (by omega), List.drop_eq_nil_of_le (by omega)]; rfl
  · repeat (first | apply ef_seq | (apply ef_mv; exact rfl; exact rfl) | (apply ef_bin; exact rfl; exact rfl; exact rfl; (first | exact cmp_t rfl (by first | exact rfl | (simp only [cmpP]; omega)) | exact cmp_f rfl (by simp only [cmpP]; omega) | ((with_reducible refine bin_add (wrap_of ?_ ?_)) <;> omega) | with_reducible exact bin_add (by assumption) | exact rfl)) | (apply ef_len; exact rfl; exact rfl; (first | assumption | exact rfl)) | (apply ef_ldr; exact rfl; exact rfl; (first | exact rfl)) | (apply ef_ldp; exact rfl; exact rfl; exact rfl; exact rfl; (first | exact rfl | assumption); (first | exact rfl)) | (apply ef_ias; exact rfl; exact rfl; exact rfl; (first | omega | assumption); assumption; exact rfl) | (apply ef_iaa; exact rfl; exact rfl; exact rfl; (first | omega | assumption); (first | omega | assumption); exact rfl) | apply ef_nil | apply seqQ.normal | apply loopQ.ret | apply loopQ.exit | apply ef_ret | apply seqQ.ret | apply ef_exit | apply seqQ.exit | apply blockQ.normal | apply blockQ.ret | apply blockQ.here | (apply blockQ_there; exact rfl) | apply ef_block | apply ef_skip | (apply ef_condt; exact rfl; (first | exact (rfl : true = true) | assumption | exact decide_eq_true (by omega))) | (apply ef_condf; exact rfl; (first | exact (rfl : false = false) | assumption | exact decide_eq_false (by omega))))
    (refine fin1 rfl (by exact rfl) rfl ?_)
    have : (xs == ys) = false := by
      rw [beq_eq_false_iff_ne]; exact fun e => hlen (by rw [e])
    rw [this]
theorem bInts_c (k : Nat) (xs ys : List Int) (h : MHeap) {v w : MV} (hx : xs.length < 1000000) (hv : frz 0 [] h 8 v = some (.sl (xs.map I64))) (hw : frz 0 [] h 8 w = some (.sl (ys.map I64))) {t : Bool} (ht : (xs == ys) = t) : orA (k + 1) 35 [v, w] h = some (Bo t, h) :=
  callL (args' := [.sl (xs.map I64), .sl (ys.map I64)]) (by simp [List.mapM_cons, hv, hw]) rfl (by rw [← ht]; exact bInts_z k xs ys hx)
theorem callTT {k f : Nat} {args args' : List MV} {h : MHeap} {a b : Value} (h1 : args.mapM (frz 0 [] h 8) = some args') (hT : tA f args' [] = none) (h2 : runZ MT (orA k) (itA k) 4000000 f args' [] = some (.tup [.lit a, .lit b], [])) : orA (k + 1) f args h = some (.tup [.lit a, .lit b], h) := by
  have := callA h1 hT h2 (by simp [okV, ok1, MV.lt, MV.pure]) rfl
  simpa [shV, sh1] using this
theorem frz_lt {h : MHeap} {m : MV} (hl : m.lt 0 = true) : frz 0 [] h 8 m = some m := by simp [frz, hl]
theorem frzL_lt {h : MHeap} : ∀ {ms : List MV}, ltL 0 ms = true → ms.mapM (frz 0 [] h 8) = some ms
  | [], _ => rfl
  | m :: ms, hl => by
    simp only [ltL, Bool.and_eq_true] at hl
    rw [List.mapM_cons, frz_lt hl.1, frzL_lt hl.2]; rfl
theorem impIds_lt0 : ∀ {v w : MV}, v.lt 0 = true → w.lt 0 = true → impIds 0 [v, w] = [] := fun {v w} h1 h2 => by
  cases v <;> first | (simp [MV.lt] at h1; done) | (cases w <;> first | (simp [MV.lt] at h2; done) | simp [impIds])
theorem fin_res2 {x : MX2} {A : Sl} {h : MHeap} {r1 r2 : MRes} {v w : MV} (hx : outX x = true) (h1 : ResV A h r1 v) (h2 : ResV A h r2 w) (l1 : v.lt 0 = true) (l2 : w.lt 0 = true) : FinF [r1, r2] (.tup [v, w]) [] x A h := by
  have hi := impIds_lt0 l1 l2
  refine ⟨hx, [v, w], [v, w], ⟨v, [w], rfl, h1, w, [], rfl, h2, rfl⟩, by rw [hi]; simp, ?_, rfl⟩
  rw [hi]
  cases v <;> first | (simp [MV.lt] at l1; done) | (cases w <;> first | (simp [MV.lt] at l2; done) | simp [expL, frz, l1, l2])
end Go.Proofs.Ytbdleggmdbihnaa

/- Nets: what the document says of them, without a program. -/
namespace Go.Proofs.Ytbdleggmdbihnaa
open Go.RowKit
set_option linter.unusedVariables false
def fIxG {α : Type} (P : α → Bool) : List α → Nat → Int
  | [], _ => -1
  | z :: zs, i => if P z then i else fIxG P zs (i + 1)
theorem fIxG_spec {α : Type} (P : α → Bool) : ∀ (zs : List α) (s : Nat), (fIxG P zs s = -1 ∧ ∀ z ∈ zs, P z = false) ∨ ∃ (i : Nat) (h : i < zs.length), fIxG P zs s = ((s + i : Nat) : Int) ∧ P zs[i] = true
  | [], s => .inl ⟨rfl, fun z h => by cases h⟩
  | z :: zs, s => by
    by_cases hz : P z = true
    · exact .inr ⟨0, by simp, by simp [fIxG, hz], hz⟩
    · rcases fIxG_spec P zs (s + 1) with ⟨h1, h2⟩ | ⟨i, hi, h1, h2⟩
      · refine .inl ⟨by simp [fIxG, hz, h1], fun w hw => ?_⟩
        rcases List.mem_cons.1 hw with rfl | hw
        · simpa using hz
        · exact h2 w hw
      · refine .inr ⟨i + 1, by simpa using hi, ?_, by simpa using h2⟩
        simp only [fIxG, hz]
        rw [if_neg (by simp), h1]
        congr 1; omega
theorem fIxG_any {α : Type} (P : α → Bool) (zs : List α) : MV.lit (.bool (decide (fIxG P zs 0 ≥ 0))) = Bo (zs.any P) := by
  rcases fIxG_spec P zs 0 with ⟨h1, h2⟩ | ⟨i, hi, h1, h2⟩
  · rw [h1]
    have : zs.any P = false := by rw [List.any_eq_false]; intro z hz; simp [h2 z hz]
    rw [this]; rfl
  · rw [h1]
    have : zs.any P = true := List.any_eq_true.2 ⟨zs[i], List.getElem_mem _, h2⟩
    rw [this]; simp
structure Cr where
  ln : Int
  ti : Int
  pa : Int
  pt : Int
  df : Int
  wt : Int
instance : Inhabited Cr := ⟨⟨0, 0, 0, 0, 0, 0⟩⟩
abbrev Ln := ByteArray × Bool
structure Nt where
  ls : List Ln
  cs : List Cr
abbrev encB (c : UInt8) : MV := .lit (.int .u8 c.toNat)
abbrev encLn (l : Ln) : MV := .agg [.lit (.string l.1), Bo l.2]
abbrev encCr (c : Cr) : MV := .agg [I64 c.ln, I64 c.ti, I64 c.pa, I64 c.pt, I64 c.df, I64 c.wt]
abbrev encN (n : Nt) : MV := .agg [.sl (n.ls.map encLn), .sl (n.cs.map encCr)]
def letB (c : UInt8) : Bool := (decide (97 ≤ c.toNat) && decide (c.toNat ≤ 122)) || (decide (65 ≤ c.toNat) && decide (c.toNat ≤ 90))
def nbB (i : Nat) (c : UInt8) : Bool := letB c || (decide (i ≠ 0) && (decide (c.toNat = 45) || (decide (48 ≤ c.toNat) && decide (c.toNat ≤ 57))))
def allNb : Nat → List UInt8 → Bool
  | _, [] => true
  | i, c :: cs => nbB i c && allNb (i + 1) cs
def nmB (s : ByteArray) : Bool := allNb 0 s.data.toList && inB s.size 1 12
def scanE {α : Type} (f : List α → α → Int) (pre : List α) : List α → Int × Int
  | [] => (0, 0)
  | x :: xs => if f pre x = 0 then scanE f (pre ++ [x]) xs else ((pre.length : Int), f pre x)
theorem scanE_nil {α : Type} (f : List α → α → Int) (pre : List α) : scanE f pre [] = (0, 0) := rfl
theorem scanE_step {α : Type} {f : List α → α → Int} {xs : List α} {i : Nat} (h : i < xs.length) (h0 : f (xs.take i) xs[i] = 0) : scanE f (xs.take i) (xs.drop i) = scanE f (xs.take (i + 1)) (xs.drop (i + 1)) := by
  rw [List.drop_eq_getElem_cons h, scanE, if_pos h0, List.take_add_one, List.getElem?_eq_getElem h]; rfl
theorem scanE_bad {α : Type} {f : List α → α → Int} {xs : List α} {i : Nat} (h : i < xs.length) (h0 : f (xs.take i) xs[i] ≠ 0) : scanE f (xs.take i) (xs.drop i) = ((i : Int), f (xs.take i) xs[i]) := by
  rw [List.drop_eq_getElem_cons h, scanE, if_neg h0, List.length_take, Nat.min_eq_left (Nat.le_of_lt h)]
theorem scanE_ok {α : Type} {f : List α → α → Int} {xs : List α} : ∀ {pre : List α}, (scanE f pre xs).2 = 0 → scanE f pre xs = (0, 0) ∧ ∀ (i : Nat) (h : i < xs.length), f (pre ++ xs.take i) xs[i] = 0 := by
  induction xs with
  | nil => exact fun _ => ⟨rfl, fun i h => absurd h (by simp)⟩
  | cons x xs ih =>
    intro pre h
    rw [scanE] at h ⊢
    by_cases h0 : f pre x = 0
    · rw [if_pos h0] at h ⊢
      obtain ⟨h1, h2⟩ := ih h
      refine ⟨h1, fun i hi => ?_⟩
      cases i with
      | zero => simpa using h0
      | succ i =>
        have := h2 i (by simpa using hi)
        simpa using this
    · rw [if_neg h0] at h
      exact absurd h h0
def lineE (pre : List Ln) (l : Ln) : Int := firstE [unl (nmB l.1) 4, unl (!(pre.any fun o => o.1 == l.1)) 5]
def tieOf (ls : List Ln) (i : Int) : Bool := (ls.getD i.toNat (⟨#[]⟩, false)).2
def dblB (c o : Cr) : Bool := (decide (o.ln = c.ln) && decide (o.pa = c.pa)) || (decide (o.ti = c.ti) && decide (o.pt = c.pt))
def rngB (c : Cr) : Bool := inB c.pa 0 1000000 && (inB c.pt 0 1000000 && (inB c.df (-10000) 10000 && inB c.wt 1 10))
def crossE (ls : List Ln) (pre : List Cr) (c : Cr) : Int :=
  if inB c.ln 0 ((ls.length : Int) - 1) && inB c.ti 0 ((ls.length : Int) - 1) then
    firstE [unl (!tieOf ls c.ln && tieOf ls c.ti) 15, unl (rngB c) 2, unl (!(pre.any (dblB c))) 23]
  else 6
def netF (n : Nt) : Int × Int :=
  if n.ls.length = 0 then (0, 10) else if 8 < n.ls.length ∨ 16 < n.cs.length then (0, 8)
  else if (scanE lineE [] n.ls).2 = 0 then scanE (crossE n.ls) [] n.cs else scanE lineE [] n.ls
end Go.Proofs.Ytbdleggmdbihnaa

/- Open values of nets. -/
namespace Go.Proofs.Ytbdleggmdbihnaa
open Go.ChangeShapes Go.WideShapes Go.ChangeAt Go.RowKit
abbrev i64Sh : Sh := .int .i64
def lineSh : Sh := .agg [.str, .bool]
def crossSh : Sh := .agg [i64Sh, i64Sh, i64Sh, i64Sh, i64Sh, i64Sh]
def netSh : Sh := .agg [.slice lineSh, .slice crossSh]
theorem fits_list {α : Type} {s : Sh} (enc : α → MV) (H : ∀ m, Fits s m → ∃ a, m = enc a) {m : MV} (h : Fits (.slice s) m) : ∃ xs : List α, m = .sl (xs.map enc) ∧ xs.length ≤ 9223372036854775807 := by
  rw [Fits] at h
  obtain ⟨es, rfl, hl, he⟩ := h
  replace hl := Nat.le_trans hl maxLen_le
  induction es with
  | nil => exact ⟨[], rfl, by simp⟩
  | cons e es ih =>
    obtain ⟨a, rfl⟩ := H e (he e List.mem_cons_self)
    obtain ⟨xs, h1, h2⟩ := ih (fun e h => he e (List.mem_cons_of_mem _ h)) (by simp at hl; omega)
    have e1 : es = xs.map enc := by simpa using h1
    subst e1
    exact ⟨a :: xs, rfl, by simpa using hl⟩
theorem fits_line {m : MV} (h : Fits lineSh m) : ∃ l : Ln, m = encLn l := by
  obtain ⟨ms, h', rfl⟩ := fits_agg h
  obtain ⟨m1, r1, rfl, h1, h⟩ := fitsL_cons h'
  obtain ⟨m2, r2, rfl, h2, h⟩ := fitsL_cons h
  obtain rfl := fitsL_nil h
  simp only [Fits] at h1 h2
  obtain ⟨s, rfl, -⟩ := h1
  obtain ⟨b, rfl⟩ := h2
  exact ⟨(s, b), rfl⟩
theorem fits_cross {m : MV} (h : Fits crossSh m) : ∃ x : Cr, m = encCr x := by
  obtain ⟨ms, h', rfl⟩ := fits_agg h
  obtain ⟨m1, r1, rfl, h1, h⟩ := fitsL_cons h'
  obtain ⟨m2, r2, rfl, h2, h⟩ := fitsL_cons h
  obtain ⟨m3, r3, rfl, h3, h⟩ := fitsL_cons h
  obtain ⟨m4, r4, rfl, h4, h⟩ := fitsL_cons h
  obtain ⟨m5, r5, rfl, h5, h⟩ := fitsL_cons h
  obtain ⟨m6, r6, rfl, h6, h⟩ := fitsL_cons h
  obtain rfl := fitsL_nil h
  obtain ⟨a1, rfl, -⟩ := fits_int h1
  obtain ⟨a2, rfl, -⟩ := fits_int h2
  obtain ⟨a3, rfl, -⟩ := fits_int h3
  obtain ⟨a4, rfl, -⟩ := fits_int h4
  obtain ⟨a5, rfl, -⟩ := fits_int h5
  obtain ⟨a6, rfl, -⟩ := fits_int h6
  exact ⟨⟨a1, a2, a3, a4, a5, a6⟩, rfl⟩
theorem fits_net {m : MV} (h : Fits netSh m) : ∃ n : Nt, m = encN n ∧ n.ls.length ≤ 9223372036854775807 ∧ n.cs.length ≤ 9223372036854775807 := by
  obtain ⟨ms, h', rfl⟩ := fits_agg h
  obtain ⟨m1, r1, rfl, h1, h⟩ := fitsL_cons h'
  obtain ⟨m2, r2, rfl, h2, h⟩ := fitsL_cons h
  obtain rfl := fitsL_nil h
  obtain ⟨ls, rfl, q1⟩ := fits_list encLn (fun _ => fits_line) h1
  obtain ⟨cs, rfl, q2⟩ := fits_list encCr (fun _ => fits_cross) h2
  exact ⟨⟨ls, cs⟩, rfl, q1, q2⟩
end Go.Proofs.Ytbdleggmdbihnaa

/- Contracts of the program: the words of the chapter. -/
namespace Go.Proofs.Ytbdleggmdbihnaa
open Go.RowKit
set_option linter.unusedVariables false
theorem mf_pwithin : MT.mf 50 = some ⟨15, [(.tmp 6)], (.seq (.reg [⟨none, some 6, .mv (.c (.lit (.bool false)))⟩]) (.seq (.reg [⟨none, some 7, .mv (.s 1)⟩, ⟨none, some 8, .mv (.s 0)⟩, ⟨none, some 9, .bin .leq (.s 7) (.s 8)⟩, ⟨none, some 10, .mv (.s 9)⟩, ⟨some (10, true), some 11, .mv (.s 0)⟩, ⟨some (10, true), some 12, .mv (.s 2)⟩, ⟨some (10, true), some 13, .bin .leq (.s 11) (.s 12)⟩, ⟨none, some 14, .pick (.s 10) (.s 13) (.c (.lit (.bool false)))⟩, ⟨none, some 6, .mv (.s 14)⟩]) .ret))⟩ := by kernel_rfl
theorem within_c (k : Nat) (a b c : Int) (h : MHeap) {t : Bool} (ht : inB a b c = t) : orA (k + 1) 50 [I64 a, I64 b, I64 c] h = some (Bo t, h) := by
  refine callL (frz_lits [.int .i64 a, .int .i64 b, .int .i64 c]) rfl (runZ_of mf_pwithin (by simp) ?_)
  simp only [argsL, List.map_cons, List.map_nil]
  by_cases h1 : b ≤ a
  all_goals repeat (first | apply ef_seq | (apply ef_mv; exact rfl; exact rfl) | (apply ef_bin; exact rfl; exact rfl; exact rfl; (first | exact cmp_t rfl (by first | exact rfl | (simp only [cmpP]; omega)) | exact cmp_f rfl (by simp only [cmpP]; omega) | exact rfl)) | (apply ef_gy; exact rfl; (first | exact (rfl : true = true) | exact (rfl : false = false) | exact (rfl : true = !false) | exact (rfl : false = !true) | assumption | exact decide_eq_true (by omega) | exact decide_eq_false (by omega))) | (apply ef_gn; exact rfl; (first | exact (rfl : true = true) | exact (rfl : false = false) | exact (rfl : true = !false) | exact (rfl : false = !true) | assumption | exact decide_eq_true (by omega) | exact decide_eq_false (by omega)); exact rfl) | (apply ef_gu; exact rfl; exact rfl) | (apply ef_pick; exact rfl; exact rfl; exact rfl) | (apply ef_pickb; exact rfl; exact rfl; exact rfl; exact rfl) | apply ef_nil | apply seqQ.normal | apply ef_ret | apply seqQ.ret)
  · (refine fin1 rfl (by exact rfl) rfl ?_)
    simp [inB, h1] at ht; simp [← ht]
  · (refine fin1 rfl (by exact rfl) rfl ?_)
    simp [inB, h1] at ht; simp [← ht]
theorem mf_unless : MT.mf 41 = some ⟨7, [(.tmp 4)], (.seq (.reg [⟨none, some 4, .mv (.c (.lit (.int .i64 0)))⟩]) (.seq (.seq (.reg [⟨none, some 5, .mv (.s 0)⟩]) (.cond (.s 5) (.seq (.reg [⟨none, some 4, .mv (.c (.lit (.int .i64 0)))⟩]) .ret) .skip)) (.seq (.reg [⟨none, some 6, .mv (.s 1)⟩, ⟨none, some 4, .mv (.s 6)⟩]) .ret)))⟩ := by kernel_rfl
theorem unless_c (k : Nat) (b : Bool) (n : Int) (h : MHeap) {e : Int} (he : unl b n = e) : orA (k + 1) 41 [Bo b, I64 n] h = some (I64 e, h) := by
  subst he
  refine callL (frz_lits [.bool b, .int .i64 n]) rfl (runZ_of mf_unless (by simp) ?_)
  simp only [argsL, List.map_cons, List.map_nil]
  cases b
  all_goals repeat (first | apply ef_seq | (apply ef_mv; exact rfl; exact rfl) | apply ef_nil | apply seqQ.normal | apply ef_ret | apply seqQ.ret | apply ef_skip | (apply ef_condt; exact rfl; (first | exact (rfl : true = true) | assumption | exact decide_eq_true (by omega))) | (apply ef_condf; exact rfl; (first | exact (rfl : false = false) | assumption | exact decide_eq_false (by omega))))
  all_goals (refine fin1 rfl (by exact rfl) rfl ?_)
  all_goals rfl
theorem mf_first : MT.mf 40 = some ⟨15, [(.tmp 2)], (.seq (.reg [⟨none, some 2, .mv (.c (.lit (.int .i64 0)))⟩]) (.seq (.seq (.reg [⟨none, some 5, .mv (.s 0)⟩, ⟨none, some 6, .len (.s 5)⟩, ⟨none, some 7, .mv (.c (.lit (.int .i64 0)))⟩]) (.block 0 (.loop [7, 6, 5] (.seq (.reg [⟨none, some 8, .bin .lss (.s 7) (.s 6)⟩]) (.seq (.cond (.s 8) .skip (.exit 0)) (.seq (.block 1 (.seq (.reg [⟨none, some 9, .ia 1 (.s 5) (.s 7)⟩, ⟨none, some 10, .ld none (.s 9)⟩, ⟨none, some 4, .mv (.s 10)⟩]) (.seq (.reg [⟨none, some 11, .mv (.s 4)⟩, ⟨none, some 12, .bin .neq (.s 11) (.c (.lit (.int .i64 0)))⟩]) (.cond (.s 12) (.seq (.reg [⟨none, some 13, .mv (.s 4)⟩, ⟨none, some 2, .mv (.s 13)⟩]) .ret) .skip)))) (.reg [⟨none, some 14, .bin .add (.s 7) (.c (.lit (.int .i64 1)))⟩, ⟨none, some 7, .mv (.s 14)⟩]))))))) (.seq (.reg [⟨none, some 2, .mv (.c (.lit (.int .i64 0)))⟩]) .ret)))⟩ := by kernel_rfl
theorem first_z (k : Nat) (xs : List Int) (hx : xs.length ≤ 1000) : runZ MT (orA k) (itA k) 4000000 40 [.sl (xs.map I64)] [] = some (I64 (firstE xs), []) := by
  have hl : (MV.sl (xs.map I64)).slen = some xs.length := by simp [MV.slen]
  refine runZ_of mf_first (by simp) ?_
  simp only [argsL]
  repeat (first | apply ef_seq | (apply ef_mv; exact rfl; exact rfl) | (apply ef_bin; exact rfl; exact rfl; exact rfl; (first | exact cmp_t rfl (by first | exact rfl | (simp only [cmpP]; omega)) | exact cmp_f rfl (by simp only [cmpP]; omega) | ((with_reducible refine bin_add (wrap_of ?_ ?_)) <;> omega) | with_reducible exact bin_add (by assumption) | exact rfl)) | (apply ef_len; exact rfl; exact rfl; (first | assumption | exact rfl)) | (apply ef_ldr; exact rfl; exact rfl; (first | exact rfl)) | (apply ef_ldp; exact rfl; exact rfl; exact rfl; exact rfl; (first | exact rfl | assumption); (first | exact rfl)) | (apply ef_ias; exact rfl; exact rfl; exact rfl; (first | omega | assumption); assumption; exact rfl) | (apply ef_iaa; exact rfl; exact rfl; exact rfl; (first | omega | assumption); (first | omega | assumption); exact rfl) | apply ef_nil | apply seqQ.normal | apply loopQ.ret | apply loopQ.exit | apply ef_ret | apply seqQ.ret | apply ef_exit | apply seqQ.exit | apply blockQ.normal | apply blockQ.ret | apply blockQ.here | (apply blockQ_there; exact rfl) | apply ef_block | apply ef_skip | (apply ef_condt; exact rfl; (first | exact (rfl : true = true) | assumption | exact decide_eq_true (by omega))) | (apply ef_condf; exact rfl; (first | exact (rfl : false = false) | assumption | exact decide_eq_false (by omega))))
  refine ef_loop (α := Nat) (fun i => i ≤ xs.length ∧ firstE xs = firstE (xs.drop i)) (fun i => [(7, I64 (i : Int)), (6, I64 (xs.length : Int)), (5, .sl (xs.map I64))]) (fun _ => []) (fun i => xs.length - i) 0 [7, 6, 5] (fun _ => rfl) rfl ⟨by omega, rfl⟩ (by simp; omega) (by ((repeat (refine Hold.cons (by exact rfl) ?_)); exact Hold.nil)) rfl ?_
  rintro i ⟨hi, hz⟩
  by_cases hlt : i < xs.length
  · have e1 := at_map I64 xs i hlt
    have HD := Lib.hid (drop_at xs i hlt)
    have HZ := Lib.hid hz
    clear hz
    generalize xs[i] = x at e1 HD
    by_cases h0 : x = 0
    · subst h0
      repeat (first | apply ef_seq | (apply ef_mv; exact rfl; exact rfl) | (apply ef_bin; exact rfl; exact rfl; exact rfl; (first | exact cmp_t rfl (by first | exact rfl | (simp only [cmpP]; omega)) | exact cmp_f rfl (by simp only [cmpP]; omega) | ((with_reducible refine bin_add (wrap_of ?_ ?_)) <;> omega) | with_reducible exact bin_add (by assumption) | exact rfl)) | (apply ef_len; exact rfl; exact rfl; (first | assumption | exact rfl)) | (apply ef_ldr; exact rfl; exact rfl; (first | exact rfl)) | (apply ef_ldp; exact rfl; exact rfl; exact rfl; exact rfl; (first | exact rfl | assumption); (first | exact rfl)) | (apply ef_ias; exact rfl; exact rfl; exact rfl; (first | omega | assumption); assumption; exact rfl) | (apply ef_iaa; exact rfl; exact rfl; exact rfl; (first | omega | assumption); (first | omega | assumption); exact rfl) | apply ef_nil | apply seqQ.normal | apply loopQ.ret | apply loopQ.exit | apply ef_ret | apply seqQ.ret | apply ef_exit | apply seqQ.exit | apply blockQ.normal | apply blockQ.ret | apply blockQ.here | (apply blockQ_there; exact rfl) | apply ef_block | apply ef_skip | (apply ef_condt; exact rfl; (first | exact (rfl : true = true) | assumption | exact decide_eq_true (by omega))) | (apply ef_condf; exact rfl; (first | exact (rfl : false = false) | assumption | exact decide_eq_false (by omega))))
      (refine loopQ.normal _ _ ⟨i + 1, ⟨hlt, by rw [HZ.out, HD.out]; simp [firstE]⟩, (by first | (simp only; omega) | omega), by ((repeat (refine Hold.cons (by exact rfl) ?_)); exact Hold.nil), .inl (Nat.le_refl _), (by first | exact List.take_length | exact rfl)⟩)
    · repeat (first | apply ef_seq | (apply ef_mv; exact rfl; exact rfl) | (apply ef_bin; exact rfl; exact rfl; exact rfl; (first | exact cmp_t rfl (by first | exact rfl | (simp only [cmpP]; omega)) | exact cmp_f rfl (by simp only [cmpP]; omega) | ((with_reducible refine bin_add (wrap_of ?_ ?_)) <;> omega) | with_reducible exact bin_add (by assumption) | exact rfl)) | (apply ef_len; exact rfl; exact rfl; (first | assumption | exact rfl)) | (apply ef_ldr; exact rfl; exact rfl; (first | exact rfl)) | (apply ef_ldp; exact rfl; exact rfl; exact rfl; exact rfl; (first | exact rfl | assumption); (first | exact rfl)) | (apply ef_ias; exact rfl; exact rfl; exact rfl; (first | omega | assumption); assumption; exact rfl) | (apply ef_iaa; exact rfl; exact rfl; exact rfl; (first | omega | assumption); (first | omega | assumption); exact rfl) | apply ef_nil | apply seqQ.normal | apply loopQ.ret | apply loopQ.exit | apply ef_ret | apply seqQ.ret | apply ef_exit | apply seqQ.exit | apply blockQ.normal | apply blockQ.ret | apply blockQ.here | (apply blockQ_there; exact rfl) | apply ef_block | apply ef_skip | (apply ef_condt; exact rfl; (first | exact (rfl : true = true) | assumption | exact decide_eq_true (by omega))) | (apply ef_condf; exact rfl; (first | exact (rfl : false = false) | assumption | exact decide_eq_false (by omega))))
      (refine fin1 rfl (by exact rfl) rfl ?_)
      rw [HZ.out, HD.out]; simp [firstE, h0]
  · repeat (first | apply ef_seq | (apply ef_mv; exact rfl; exact rfl) | (apply ef_bin; exact rfl; exact rfl; exact rfl; (first | exact cmp_t rfl (by first | exact rfl | (simp only [cmpP]; omega)) | exact cmp_f rfl (by simp only [cmpP]; omega) | ((with_reducible refine bin_add (wrap_of ?_ ?_)) <;> omega) | with_reducible exact bin_add (by assumption) | exact rfl)) | (apply ef_len; exact rfl; exact rfl; (first | assumption | exact rfl)) | (apply ef_ldr; exact rfl; exact rfl; (first | exact rfl)) | (apply ef_ldp; exact rfl; exact rfl; exact rfl; exact rfl; (first | exact rfl | assumption); (first | exact rfl)) | (apply ef_ias; exact rfl; exact rfl; exact rfl; (first | omega | assumption); assumption; exact rfl) | (apply ef_iaa; exact rfl; exact rfl; exact rfl; (first | omega | assumption); (first | omega | assumption); exact rfl) | apply ef_nil | apply seqQ.normal | apply loopQ.ret | apply loopQ.exit | apply ef_ret | apply seqQ.ret | apply ef_exit | apply seqQ.exit | apply blockQ.normal | apply blockQ.ret | apply blockQ.here | (apply blockQ_there; exact rfl) | apply ef_block | apply ef_skip | (apply ef_condt; exact rfl; (first | exact (rfl : true = true) | assumption | exact decide_eq_true (by omega))) | (apply ef_condf; exact rfl; (first | exact (rfl : false = false) | assumption | exact decide_eq_false (by omega))))
    (refine fin1 rfl (by exact rfl) rfl ?_)
    rw [hz, List.drop_eq_nil_of_le (by omega)]; rfl
theorem first_c (k : Nat) (xs : List Int) (h : MHeap) {v : MV} {e : Int} (hv : frz 0 [] h 8 v = some (.sl (xs.map I64))) (he : firstE xs = e) (hx : xs.length ≤ 1000 := by simp) : orA (k + 1) 40 [v] h = some (I64 e, h) :=
  callL (args' := [.sl (xs.map I64)]) (by simp [List.mapM_cons, hv]) rfl (by rw [← he]; exact first_z k xs hx)
theorem first2_c {k id : Nat} {a0 a1 e : Int} {h : MHeap} {o : MObj} (ho : h[id]? = some o) (hg : o.g = 0) (hes : o.es = [I64 a0, I64 a1]) (he : firstE [a0, a1] = e) : orA (k + 1) 40 [.arr id 0 2 0] h = some (I64 e, h) :=
  first_c k [a0, a1] h (fz_arr ho hg rfl rfl hes).now he
theorem first3_c {k id : Nat} {a0 a1 a2 e : Int} {h : MHeap} {o : MObj} (ho : h[id]? = some o) (hg : o.g = 0) (hes : o.es = [I64 a0, I64 a1, I64 a2]) (he : firstE [a0, a1, a2] = e) : orA (k + 1) 40 [.arr id 0 3 0] h = some (I64 e, h) :=
  first_c k [a0, a1, a2] h (fz_arr ho hg rfl rfl hes).now he
end Go.Proofs.Ytbdleggmdbihnaa

/- More rules of evaluation: cuts with a state, rows of integers. -/
namespace Go.Proofs.Ytbdleggmdbihnaa
open Go.RowKit
section
variable {O : Oracle} {I : Iter} {N n : Nat} {lk : Nat → Bool} {A : Sl} {h : MHeap} {Q : MX2 → Sl → MHeap → Prop}
end
theorem fin_al {x : MX2} {A : Sl} {h : MHeap} {t u id k g : Nat} {o : MObj} {es : List MV} {sz : Nat} {nl : Bool} {v : Value} (hx : outX x = true) (hv : look A t = some (.arr id 0 k g)) (hw : look A u = some (.lit v)) (ho : h[id]? = some o) (hg : o.g = g) (hk : k = es.length) (hl : ltL 0 es = true) (he : o.es = es) (hz : o.sz = sz) (hn : o.nl = nl) :
    FinF [.tmp t, .tmp u] (.tup [.arr 0 0 k 0, .lit v]) [⟨0, nl, sz, es⟩] x A h := by
  subst hz hn he hk
  refine ⟨hx, [.arr id 0 o.es.length g, .lit v], [.arr 0 0 o.es.length 0, .lit v], ⟨_, _, rfl, hv, _, [], rfl, hw, rfl⟩, ?_, ?_, rfl⟩
  · simp [impIds]
  · simp [expL, ho, hg, hl, frz, MV.lt]
end Go.Proofs.Ytbdleggmdbihnaa

/- Iterators with open values: rules; ranges over them. -/
namespace Go.Proofs.Ytbdleggmdbihnaa
open Go.RowKit
set_option linter.unusedVariables false
abbrev QI := MX2 → Sl → MHeap → Nat → List (List MV) → Bool → Prop
structure EfI (O : Oracle) (N n : Nat) (mc : MC) (A : Sl) (h : MHeap) (ln : Nat) (xs : List (List MV)) (stop : Bool) (Q : QI) : Prop where
  run : ∀ s, SRel n A s → ∃ outs, evI O N mc ⟨s, h, ln, xs, stop⟩ = some outs ∧ ∀ o ∈ outs, ∃ A', SRel n A' o.2.s ∧ Q o.1 A' o.2.h o.2.ln o.2.xs o.2.stop
structure EfY (O : Oracle) (N n : Nat) (gl : List GO) (A : Sl) (h : MHeap) (ln : Nat) (xs : List (List MV)) (stop : Bool) (Q : Sl → MHeap → Nat → List (List MV) → Bool → Prop) : Prop where
  run : ∀ s, SRel n A s → ∃ l, evRI O gl ⟨s, h, ln, xs, stop⟩ = some l ∧ ∀ o ∈ l, ∃ A', SRel n A' o.s ∧ Q A' o.h o.ln o.xs o.stop
section
variable {O : Oracle} {N n : Nat} {A : Sl} {h : MHeap} {ln : Nat} {xs : List (List MV)} {stop : Bool} {Q : QI}
inductive seqI (O : Oracle) (N n : Nat) (b : MC) (Q : QI) : QI
  | normal (A : Sl) (h : MHeap) (ln : Nat) (xs : List (List MV)) (stop : Bool) : EfI O N n b A h ln xs stop Q → seqI O N n b Q .normal A h ln xs stop
  | ret (A : Sl) (h : MHeap) (ln : Nat) (xs : List (List MV)) (stop : Bool) : Q .ret A h ln xs stop → seqI O N n b Q .ret A h ln xs stop
  | exit (id : Nat) (A : Sl) (h : MHeap) (ln : Nat) (xs : List (List MV)) (stop : Bool) : Q (.exit id) A h ln xs stop → seqI O N n b Q (.exit id) A h ln xs stop
inductive blockI (id : Nat) (Q : QI) : QI
  | normal (A : Sl) (h : MHeap) (ln : Nat) (xs : List (List MV)) (stop : Bool) : Q .normal A h ln xs stop → blockI id Q .normal A h ln xs stop
  | ret (A : Sl) (h : MHeap) (ln : Nat) (xs : List (List MV)) (stop : Bool) : Q .ret A h ln xs stop → blockI id Q .ret A h ln xs stop
  | here (A : Sl) (h : MHeap) (ln : Nat) (xs : List (List MV)) (stop : Bool) : Q .normal A h ln xs stop → blockI id Q (.exit id) A h ln xs stop
  | there (k : Nat) (A : Sl) (h : MHeap) (ln : Nat) (xs : List (List MV)) (stop : Bool) : k ≠ id → Q (.exit k) A h ln xs stop → blockI id Q (.exit k) A h ln xs stop
inductive loopI (R : Sl → MHeap → Nat → List (List MV) → Bool → Prop) (Q : QI) : QI
  | normal (A : Sl) (h : MHeap) (ln : Nat) (xs : List (List MV)) (stop : Bool) : R A h ln xs stop → loopI R Q .normal A h ln xs stop
  | ret (A : Sl) (h : MHeap) (ln : Nat) (xs : List (List MV)) (stop : Bool) : Q .ret A h ln xs stop → loopI R Q .ret A h ln xs stop
  | exit (id : Nat) (A : Sl) (h : MHeap) (ln : Nat) (xs : List (List MV)) (stop : Bool) : Q (.exit id) A h ln xs stop → loopI R Q (.exit id) A h ln xs stop
variable {QY : Sl → MHeap → Nat → List (List MV) → Bool → Prop}
end
section
variable {O : Oracle} {I : Iter} {N n : Nat} {lk : Nat → Bool} {A : Sl} {h : MHeap} {Q : MX2 → Sl → MHeap → Prop}
inductive preQ (O : Oracle) (I : Iter) (N n : Nat) (lk : Nat → Bool) (b : MC) (R : MX2 → Sl → MHeap → Prop) : MX2 → Sl → MHeap → Prop
  | normal (A : Sl) (h : MHeap) : Ef O I N n lk b A h R → preQ O I N n lk b R .normal A h
inductive rfQ (A0 : Sl) (R : MHeap → Prop) (Q : MX2 → Sl → MHeap → Prop) : MX2 → Sl → MHeap → Prop
  | normal (A : Sl) (h : MHeap) : R h → rfQ A0 R Q .normal A h
  | ret (A : Sl) (h : MHeap) : Q .ret A0 h → rfQ A0 R Q .ret A h
  | exit (id : Nat) (A : Sl) (h : MHeap) : Q (.exit id) A0 h → rfQ A0 R Q (.exit id) A h
inductive HeadIs (keep : List Nat) (m : Nat) (A : Sl) (h : MHeap) : MHeap → Prop
  | all : h.length ≤ m → HeadIs keep m A h h
  | cut : (∀ t ∈ keep, ∃ v, look A t = some v ∧ v.lt m = true) → hltL m (h.take m) = true → HeadIs keep m A h (h.take m)
  | slot (t : Nat) (v : MV) : t ∈ keep → look A t = some v → v.lt m = false → HeadIs keep m A h h
  | cell : hltL m (h.take m) = false → HeadIs keep m A h h
end
end Go.Proofs.Ytbdleggmdbihnaa

/- Further rules of evaluation with open values: cases on what is undecided, loops with slots that stay. -/
namespace Go.Proofs.Ytbdleggmdbihnaa
open Go.RowKit
set_option linter.unusedVariables false
section
variable {O : Oracle} {I : Iter} {N n : Nat} {lk : Nat → Bool} {A : Sl} {h : MHeap} {Q : MX2 → Sl → MHeap → Prop} {t : Nat} {os : List GO}
theorem ef_loopf {α : Type} {keep : List Nat} {b : MC} (Inv : α → Prop) (hd : α → Sl) (fx : Sl) (hp : α → MHeap) (ms : α → Nat) (a0 : α) (ks : List Nat) (hks : ∀ a, (hd a).map (·.1) = ks) (hA : Hold A (hd a0)) (hF : Hold A fx) (hk : (ks ++ fx.map (·.1)).all (fun t => keep.contains t) = true) (hH : hp a0 = h) (h0 : Inv a0) (hN : ms a0 < N)
    (hb : ∀ a, Inv a → Ef O I N n lk b (hd a ++ fx) (hp a) (loopQ (fun A' h' => ∃ a', Inv a' ∧ ms a' < ms a ∧ (Hold A' (hd a') ∧ Hold A' fx) ∧ headH keep h.length A' h' ∧ h'.take h.length = hp a') Q)) : Ef O I N n lk (.loop keep b) A h Q := by
  have happ : ∀ (A : Sl) (X Y : Sl), Hold A X → Hold A Y → Hold A (X ++ Y) := fun A X Y h1 h2 p hp => by
    rcases List.mem_append.1 hp with hp | hp
    · exact h1 p hp
    · exact h2 p hp
  refine ef_loop Inv (fun a => hd a ++ fx) hp ms a0 (ks ++ fx.map (·.1)) (fun a => by rw [List.map_append, hks a]) hk h0 hN (happ _ _ _ hA hF) hH fun a ha => ?_
  refine (hb a ha).mono fun x A1 h1 hq => ?_
  cases hq with
  | normal _ _ hq =>
    obtain ⟨a', j1, j2, ⟨j3, j4⟩, j5, j6⟩ := hq
    exact .normal _ _ ⟨a', j1, j2, happ _ _ _ j3 j4, j5, j6⟩
  | ret _ _ hq => exact .ret _ _ hq
  | exit id _ _ hq => exact .exit id _ _ hq
end
section
variable {O : Oracle} {N n : Nat} {A : Sl} {h : MHeap} {ln : Nat} {xs : List (List MV)} {stop : Bool} {Q : QI}
end
theorem takeF {l r : MHeap} {n : Nat} (hl : n = l.length) (h : l = r) : l.take n = r := by subst hl h; exact List.take_length
end Go.Proofs.Ytbdleggmdbihnaa
namespace Go.Proofs.Ytbdleggmdbihnaa
open Go.RowKit
end Go.Proofs.Ytbdleggmdbihnaa

/- Rows that are read only. -/
namespace Go.Proofs.Ytbdleggmdbihnaa
open Go.RowKit
set_option linter.unusedVariables false
inductive SlI : MV → List Int → Prop
  | sl (l : List Int) : SlI (.sl (l.map I64)) l
  | nil : SlI (.lit (.slice none 0 0)) []
theorem SlI.lt {v : MV} {l : List Int} (h : SlI v l) : v.lt 0 = true := by
  cases h with
  | sl l => simp [MV.lt, ltL_I]
  | nil => rfl
theorem SlI.frz {v : MV} {l : List Int} (h : SlI v l) (H : MHeap) : Go.Proofs.Ytbdleggmdbihnaa.frz 0 [] H 8 v = some v := frz_lt h.lt
theorem SlI.slen {v : MV} {l : List Int} (h : SlI v l) : v.slen = some l.length := by
  cases h with
  | sl l => simp [MV.slen]
  | nil => rfl
theorem SlI.pos {v : MV} {l : List Int} (h : SlI v l) (hp : 0 < l.length) : v = .sl (l.map I64) := by
  cases h with
  | sl l => rfl
  | nil => simp at hp
theorem SlI.cell {v : MV} {l : List Int} (h : SlI v l) : rdCells v.cells 0 none = some v := by cases h <;> rfl
end Go.Proofs.Ytbdleggmdbihnaa

/- Contracts: names; the program's check of a net. -/
namespace Go.Proofs.Ytbdleggmdbihnaa
open Go.RowKit
set_option linter.unusedVariables false
theorem unl_eq {b : Bool} {n : Int} (hn : n ≠ 0) : unl b n = 0 ↔ b = true := by
  cases b <;> simp [unl, hn]
theorem firstE_zero {x : Int} {xs : List Int} : firstE (x :: xs) = 0 ↔ x = 0 ∧ firstE xs = 0 := by
  by_cases h : x = 0 <;> simp [firstE, h]
theorem or32_all : (List.range 256).all (fun c => match binI .or .u8 (c : Nat) 32 with | some (.int .u8 o) => decide (0 ≤ o) && (decide (o ≤ 255) && (inB o 97 122 == ((decide (97 ≤ c) && decide (c ≤ 122)) || (decide (65 ≤ c) && decide (c ≤ 90))))) | _ => false) = true := by kernel_rfl
theorem or32 (c : UInt8) : ∃ o : Int, binI .or .u8 c.toNat 32 = some (.int .u8 o) ∧ 0 ≤ o ∧ o ≤ 255 ∧ inB o 97 122 = letB c := by
  have h := List.all_eq_true.1 or32_all c.toNat (List.mem_range.2 c.toNat_lt)
  split at h
  · rename_i o ho
    simp only [Bool.and_eq_true, decide_eq_true_eq, beq_iff_eq] at h
    exact ⟨o, ho, h.1, h.2.1, h.2.2⟩
  · cases h
theorem mf_isName : MT.mf 88 = some ⟨38, [(.tmp 2)], (.seq (.reg [⟨none, some 2, .mv (.c (.lit (.bool false)))⟩]) (.seq (.seq (.reg [⟨none, some 6, .mv (.s 0)⟩, ⟨none, some 7, .s2b (.s 6)⟩, ⟨none, some 8, .len (.s 7)⟩, ⟨none, some 9, .mv (.c (.lit (.int .i64 0)))⟩]) (.block 0 (.loop [9, 8, 7, 0] (.seq (.reg [⟨none, some 10, .bin .lss (.s 9) (.s 8)⟩]) (.seq (.cond (.s 10) .skip (.exit 0)) (.seq (.block 1 (.seq (.reg [⟨none, some 11, .mv (.s 9)⟩, ⟨none, some 12, .ia 1 (.s 7) (.s 9)⟩, ⟨none, some 13, .ld none (.s 12)⟩, ⟨none, some 3, .mv (.s 11)⟩, ⟨none, some 4, .mv (.s 13)⟩]) (.seq (.reg [⟨none, some 14, .mv (.s 4)⟩, ⟨none, some 15, .bin .or (.s 14) (.c (.lit (.int .u8 32)))⟩, ⟨none, some 16, .cv .i64 (.s 15)⟩, ⟨none, some 17, .call 50 [.s 16, (.c (.lit (.int .i64 97))), (.c (.lit (.int .i64 122)))]⟩, ⟨none, some 5, .mv (.s 17)⟩]) (.seq (.reg [⟨none, some 18, .mv (.s 5)⟩, ⟨none, some 19, .un .not (.s 18)⟩, ⟨none, some 20, .mv (.s 19)⟩, ⟨some (20, true), some 21, .mv (.s 3)⟩, ⟨some (20, true), some 22, .bin .eql (.s 21) (.c (.lit (.int .i64 0)))⟩, ⟨some (20, true), some 23, .mv (.s 22)⟩, ⟨some (23, false), some 24, .mv (.s 4)⟩, ⟨some (23, false), some 25, .bin .neq (.s 24) (.c (.lit (.int .u8 45)))⟩, ⟨some (23, false), some 26, .mv (.s 25)⟩, ⟨some (26, true), some 27, .mv (.s 4)⟩, ⟨some (26, true), some 28, .cv .i64 (.s 27)⟩, ⟨some (26, true), some 29, .call 50 [.s 28, (.c (.lit (.int .i64 48))), (.c (.lit (.int .i64 57)))]⟩, ⟨some (26, true), some 30, .un .not (.s 29)⟩, ⟨some (23, false), some 31, .pick (.s 26) (.s 30) (.c (.lit (.bool false)))⟩, ⟨some (20, true), some 32, .pick (.s 23) (.c (.lit (.bool true))) (.s 31)⟩, ⟨none, some 33, .pick (.s 20) (.s 32) (.c (.lit (.bool false)))⟩]) (.cond (.s 33) (.seq (.reg [⟨none, some 2, .mv (.c (.lit (.bool false)))⟩]) .ret) .skip))))) (.reg [⟨none, some 34, .bin .add (.s 9) (.c (.lit (.int .i64 1)))⟩, ⟨none, some 9, .mv (.s 34)⟩]))))))) (.seq (.reg [⟨none, some 35, .mv (.s 0)⟩, ⟨none, some 36, .sln (.s 35)⟩, ⟨none, some 37, .call 50 [.s 36, (.c (.lit (.int .i64 1))), (.c (.lit (.int .i64 12)))]⟩, ⟨none, some 2, .mv (.s 37)⟩]) .ret)))⟩ := by kernel_rfl
theorem allNb_step {bs : List UInt8} {i : Nat} (h : i < bs.length) : allNb i (bs.drop i) = (nbB i bs[i] && allNb (i + 1) (bs.drop (i + 1))) := by
  rw [List.drop_eq_getElem_cons h, allNb]
set_option maxHeartbeats 1000000 in
theorem isName_z (k : Nat) (s : ByteArray) (hs : s.size ≤ 1000) : runZ MT (orA (k + 1)) (itA (k + 1)) 4000000 88 [.lit (.string s)] [] = some (Bo (nmB s), []) := by
  obtain ⟨bs, hbs⟩ : ∃ bs, s.data.toList = bs := ⟨_, rfl⟩
  have hbl : bs.length = s.size := by rw [← hbs, Array.length_toList]; rfl
  have hl : (MV.sl (s.data.toList.map fun c => MV.lit (.int .u8 c.toNat))).slen = some bs.length := by simp [MV.slen, hbs]
  have HNM := Lib.hid (show nmB s = (allNb 0 bs && inB s.size 1 12) by rw [← hbs]; rfl)
  refine runZ_of mf_isName (by simp) ?_
  simp only [argsL]
  repeat (first | apply ef_seq | (apply ef_mv; exact rfl; exact rfl) | (apply ef_len; exact rfl; exact rfl; (assumption)) | (apply ef_s2b; exact rfl; exact rfl) | apply ef_nil | apply seqQ.normal | apply ef_block)
  rw [hbs]
  refine ef_loopf (α := Nat) (fun i => i ≤ bs.length ∧ allNb 0 bs = allNb i (bs.drop i)) (fun i => [(9, I64 (i : Int))]) [(8, I64 (bs.length : Int)), (7, .sl (bs.map encB)), (0, .lit (.string s))] (fun _ => []) (fun i => bs.length - i) 0 [9] (fun _ => rfl) (by ((repeat (refine Hold.cons (by exact rfl) ?_)); exact Hold.nil)) (by ((repeat (refine Hold.cons (by exact rfl) ?_)); exact Hold.nil)) rfl rfl ⟨by omega, rfl⟩ (by simp; omega) ?_
  rintro i ⟨hi, hz⟩
  try simp only at hi hz ⊢
  by_cases hlt : i < bs.length
  · have e1 := at_map encB bs i hlt
    have HS := Lib.hid (allNb_step hlt)
    have HZ := Lib.hid hz
    clear hz
    generalize bs[i] = c at e1 HS
    have hc := c.toNat_lt
    obtain ⟨o, ho, o1, o2, o3⟩ := or32 c
    have hw := fun h => within_c k o 97 122 h o3
    have hd := fun h => within_c k (c.toNat : Int) 48 57 h rfl
    have HB := Lib.hid (show nbB i c = (letB c || (decide (i ≠ 0) && (decide (c.toNat = 45) || inB c.toNat 48 57))) by unfold nbB; congr 3; unfold inB; rw [Bool.eq_iff_iff]; simp; omega)
    generalize letB c = lt at hw HB
    generalize hdd : inB (c.toNat : Int) 48 57 = dg at hd HB
    clear o3 hdd
    cases lt
    · by_cases h0 : i = 0
      · subst h0
        repeat (first | apply ef_seq | (apply ef_mv; exact rfl; exact rfl) | (apply ef_bin; exact rfl; exact rfl; exact rfl; (first | assumption | exact cmp_t rfl (by first | exact rfl | (simp only [cmpP]; omega)))) | (apply ef_gy; exact rfl; (exact (rfl : true = true))) | (apply ef_gn; exact rfl; (exact (rfl : true = true)); exact rfl) | (apply ef_gu; exact rfl; exact rfl) | (apply ef_pick; exact rfl; exact rfl; exact rfl) | (apply ef_ldr; exact rfl; exact rfl; (exact rfl)) | (apply ef_ias; exact rfl; exact rfl; exact rfl; (omega); assumption; exact rfl) | (apply ef_notF; exact rfl; exact rfl) | (apply ef_cv; exact rfl; exact rfl; (exact wrap_of (by omega) (by omega))) | apply ef_nil | apply seqQ.normal | apply loopQ.ret | apply ef_ret | apply seqQ.ret | apply blockQ.ret | apply ef_block | apply ef_skip | (apply ef_condt; exact rfl; (exact (rfl : true = true))) | (apply ef_call; exact rfl; ((repeat (apply XVs.cons; exact rfl)); exact XVs.nil); (with_reducible exact hw _)))
        (refine fin1 rfl (by exact rfl) rfl ?_)
        rw [HNM.out, HZ.out, HS.out, HB.out]; simp
      · by_cases h45 : c.toNat = 45
        · repeat (first | apply ef_seq | (apply ef_mv; exact rfl; exact rfl) | (apply ef_bin; exact rfl; exact rfl; exact rfl; (first | assumption | exact cmp_t rfl (by first | exact rfl | (simp only [cmpP]; omega)) | exact cmp_f rfl (by simp only [cmpP]; omega) | ((with_reducible refine bin_add (wrap_of ?_ ?_)) <;> omega))) | (apply ef_gy; exact rfl; (first | exact (rfl : true = true) | exact (rfl : false = false))) | (apply ef_gn; exact rfl; (exact (rfl : false = false)); exact rfl) | (apply ef_pick; exact rfl; exact rfl; exact rfl) | (apply ef_ldr; exact rfl; exact rfl; (exact rfl)) | (apply ef_ias; exact rfl; exact rfl; exact rfl; (omega); assumption; exact rfl) | (apply ef_notF; exact rfl; exact rfl) | (apply ef_cv; exact rfl; exact rfl; (exact wrap_of (by omega) (by omega))) | apply ef_nil | apply seqQ.normal | apply blockQ.normal | apply ef_block | apply ef_skip | (apply ef_condt; exact rfl; (exact (rfl : true = true))) | (apply ef_condf; exact rfl; (exact (rfl : false = false))) | (apply ef_call; exact rfl; ((repeat (apply XVs.cons; exact rfl)); exact XVs.nil); (with_reducible exact hw _)))
          (refine loopQ.normal _ _ ⟨i + 1, ⟨hlt, by rw [HZ.out, HS.out, HB.out]; simp [h0, h45]⟩, (by first | (simp only; omega) | omega), ⟨by ((repeat (refine Hold.cons (by exact rfl) ?_)); exact Hold.nil), by ((repeat (refine Hold.cons (by exact rfl) ?_)); exact Hold.nil)⟩, .inl (Nat.le_refl _), (by first | exact List.take_length | exact rfl | exact takeF rfl rfl)⟩)
        · cases dg
          · repeat (first | apply ef_seq | (apply ef_mv; exact rfl; exact rfl) | (apply ef_bin; exact rfl; exact rfl; exact rfl; (first | assumption | exact cmp_t rfl (by first | exact rfl | (simp only [cmpP]; omega)) | exact cmp_f rfl (by simp only [cmpP]; omega))) | (apply ef_gy; exact rfl; (first | exact (rfl : true = true) | exact (rfl : false = false))) | (apply ef_pick; exact rfl; exact rfl; exact rfl) | (apply ef_ldr; exact rfl; exact rfl; (exact rfl)) | (apply ef_ias; exact rfl; exact rfl; exact rfl; (omega); assumption; exact rfl) | (apply ef_notF; exact rfl; exact rfl) | (apply ef_cv; exact rfl; exact rfl; (exact wrap_of (by omega) (by omega))) | apply ef_nil | apply seqQ.normal | apply loopQ.ret | apply ef_ret | apply seqQ.ret | apply blockQ.ret | apply ef_block | apply ef_skip | (apply ef_condt; exact rfl; (exact (rfl : true = true))) | (apply ef_call; exact rfl; ((repeat (apply XVs.cons; exact rfl)); exact XVs.nil); (with_reducible first | exact hw _ | exact hd _)))
            (refine fin1 rfl (by exact rfl) rfl ?_)
            rw [HNM.out, HZ.out, HS.out, HB.out]; simp [h0, h45]
          · repeat (first | apply ef_seq | (apply ef_mv; exact rfl; exact rfl) | (apply ef_bin; exact rfl; exact rfl; exact rfl; (first | assumption | exact cmp_t rfl (by first | exact rfl | (simp only [cmpP]; omega)) | exact cmp_f rfl (by simp only [cmpP]; omega) | ((with_reducible refine bin_add (wrap_of ?_ ?_)) <;> omega))) | (apply ef_gy; exact rfl; (first | exact (rfl : true = true) | exact (rfl : false = false))) | (apply ef_pick; exact rfl; exact rfl; exact rfl) | (apply ef_ldr; exact rfl; exact rfl; (exact rfl)) | (apply ef_ias; exact rfl; exact rfl; exact rfl; (omega); assumption; exact rfl) | (apply ef_notT; exact rfl; exact rfl) | (apply ef_notF; exact rfl; exact rfl) | (apply ef_cv; exact rfl; exact rfl; (exact wrap_of (by omega) (by omega))) | apply ef_nil | apply seqQ.normal | apply blockQ.normal | apply ef_block | apply ef_skip | (apply ef_condt; exact rfl; (exact (rfl : true = true))) | (apply ef_condf; exact rfl; (exact (rfl : false = false))) | (apply ef_call; exact rfl; ((repeat (apply XVs.cons; exact rfl)); exact XVs.nil); (with_reducible first | exact hw _ | exact hd _)))
            (refine loopQ.normal _ _ ⟨i + 1, ⟨hlt, by rw [HZ.out, HS.out, HB.out]; simp [h0, h45]⟩, (by first | (simp only; omega) | omega), ⟨by ((repeat (refine Hold.cons (by exact rfl) ?_)); exact Hold.nil), by ((repeat (refine Hold.cons (by exact rfl) ?_)); exact Hold.nil)⟩, .inl (Nat.le_refl _), (by first | exact List.take_length | exact rfl | exact takeF rfl rfl)⟩)
    · repeat (first | apply ef_seq | (apply ef_mv; exact rfl; exact rfl) | (apply ef_bin; exact rfl; exact rfl; exact rfl; (first | assumption | exact cmp_t rfl (by first | exact rfl | (simp only [cmpP]; omega)) | ((with_reducible refine bin_add (wrap_of ?_ ?_)) <;> omega))) | (apply ef_gn; exact rfl; (exact (rfl : false = false)); exact rfl) | (apply ef_gu; exact rfl; exact rfl) | (apply ef_pick; exact rfl; exact rfl; exact rfl) | (apply ef_ldr; exact rfl; exact rfl; (exact rfl)) | (apply ef_ias; exact rfl; exact rfl; exact rfl; (omega); assumption; exact rfl) | (apply ef_notT; exact rfl; exact rfl) | (apply ef_cv; exact rfl; exact rfl; (exact wrap_of (by omega) (by omega))) | apply ef_nil | apply seqQ.normal | apply blockQ.normal | apply ef_block | apply ef_skip | (apply ef_condt; exact rfl; (exact (rfl : true = true))) | (apply ef_condf; exact rfl; (exact (rfl : false = false))) | (apply ef_call; exact rfl; ((repeat (apply XVs.cons; exact rfl)); exact XVs.nil); (with_reducible exact hw _)))
      (refine loopQ.normal _ _ ⟨i + 1, ⟨hlt, by rw [HZ.out, HS.out, HB.out]; simp⟩, (by first | (simp only; omega) | omega), ⟨by ((repeat (refine Hold.cons (by exact rfl) ?_)); exact Hold.nil), by ((repeat (refine Hold.cons (by exact rfl) ?_)); exact Hold.nil)⟩, .inl (Nat.le_refl _), (by first | exact List.take_length | exact rfl | exact takeF rfl rfl)⟩)
  · have hw := fun h => within_c k (s.size : Int) 1 12 h rfl
    repeat (first | apply ef_seq | (apply ef_mv; exact rfl; exact rfl) | (apply ef_bin; exact rfl; exact rfl; exact rfl; (exact cmp_f rfl (by simp only [cmpP]; omega))) | (apply ef_sln; exact rfl; exact rfl) | apply ef_nil | apply seqQ.normal | apply loopQ.exit | apply ef_ret | apply ef_exit | apply seqQ.exit | apply blockQ.here | (apply ef_condf; exact rfl; (exact (rfl : false = false))) | (apply ef_call; exact rfl; ((repeat (apply XVs.cons; exact rfl)); exact XVs.nil); (with_reducible exact hw _)))
    (refine fin1 rfl (by exact rfl) rfl ?_)
    rw [HNM.out, hz, List.drop_eq_nil_of_le (by omega)]; simp [allNb]
theorem isName_c (k : Nat) (s : ByteArray) (hs : s.size ≤ 1000) (h : MHeap) : orA (k + 2) 88 [.lit (.string s)] h = some (Bo (nmB s), h) :=
  callL (args' := [.lit (.string s)]) (frzL_lt rfl) rfl (isName_z k s hs)
end Go.Proofs.Ytbdleggmdbihnaa

/- Contracts: the program's check of a net. -/
namespace Go.Proofs.Ytbdleggmdbihnaa
open Go.RowKit
set_option linter.unusedVariables false
theorem mf_IndexFuncL : MT.mf 104 = some ⟨19, [(.tmp 4)], (.seq (.reg [⟨none, some 4, .mv (.c (.lit (.int .i64 0)))⟩]) (.seq (.seq (.reg [⟨none, some 6, .mv (.s 0)⟩, ⟨none, some 7, .len (.s 6)⟩, ⟨none, some 8, .mv (.c (.lit (.int .i64 0)))⟩]) (.block 0 (.loop [8, 7, 1, 0] (.seq (.reg [⟨none, some 9, .bin .lss (.s 8) (.s 7)⟩]) (.seq (.cond (.s 9) .skip (.exit 0)) (.seq (.block 1 (.seq (.reg [⟨none, some 10, .mv (.s 8)⟩, ⟨none, some 5, .mv (.s 10)⟩]) (.seq (.reg [⟨none, some 11, .mv (.s 1)⟩, ⟨none, some 12, .mv (.s 0)⟩, ⟨none, some 13, .mv (.s 5)⟩, ⟨none, some 14, .ia 2 (.s 12) (.s 13)⟩, ⟨none, some 15, .ld (some 2) (.s 14)⟩, ⟨none, some 16, .callv (.s 11) [.s 15]⟩]) (.cond (.s 16) (.seq (.reg [⟨none, some 17, .mv (.s 5)⟩, ⟨none, some 4, .mv (.s 17)⟩]) .ret) .skip)))) (.reg [⟨none, some 18, .bin .add (.s 8) (.c (.lit (.int .i64 1)))⟩, ⟨none, some 8, .mv (.s 18)⟩]))))))) (.seq (.reg [⟨none, some 4, .mv (.c (.lit (.int .i64 (-1))))⟩]) .ret)))⟩ := by kernel_rfl
theorem IndexFuncL_z (k g : Nat) (caps : List MV) (P : Ln → Bool) (zs : List Ln) (hx : zs.length ≤ 1000) (hg : ∀ z ∈ zs, ∀ h, orA k g (encLn z :: caps) h = some (Bo (P z), h)) :
    runZ MT (orA k) (itA k) 4000000 104 [.sl (zs.map encLn), .fn g 0 caps] [] = some (I64 (fIxG P zs 0), []) := by
  have hl : (MV.sl (zs.map encLn)).slen = some zs.length := by simp [MV.slen]
  refine runZ_of mf_IndexFuncL (by simp) ?_
  simp only [argsL]
  repeat (first | apply ef_seq | (apply ef_mv; exact rfl; exact rfl) | (apply ef_len; exact rfl; exact rfl; (assumption)) | apply ef_nil | apply seqQ.normal | apply ef_block)
  refine ef_loop (α := Nat) (fun i => i ≤ zs.length ∧ fIxG P zs 0 = fIxG P (zs.drop i) i) (fun i => [(8, I64 (i : Int)), (7, I64 (zs.length : Int)), (1, .fn g 0 caps), (0, .sl (zs.map encLn))]) (fun _ => []) (fun i => zs.length - i) 0 [8, 7, 1, 0] (fun _ => rfl) rfl ⟨by omega, rfl⟩ (by simp; omega) (by ((repeat (refine Hold.cons (by exact rfl) ?_)); exact Hold.nil)) rfl ?_
  rintro i ⟨hi, hz⟩
  by_cases hlt : i < zs.length
  · have e1 := at_map encLn zs i hlt
    have HD := Lib.hid (drop_at zs i hlt)
    have HZ := Lib.hid hz
    have hg1 := hg zs[i] (List.getElem_mem hlt)
    clear hz hg
    obtain ⟨t, ht⟩ : ∃ t, P zs[i] = t := ⟨_, rfl⟩
    have HT := Lib.hid ht
    rw [ht] at hg1
    clear ht
    generalize zs[i] = z at e1 HD hg1 HT
    cases t
    · repeat (first | apply ef_seq | (apply ef_mv; exact rfl; exact rfl) | (apply ef_bin; exact rfl; exact rfl; exact rfl; (exact cmp_t rfl (by first | exact rfl | (simp only [cmpP]; omega)))) | (apply ef_ldr; exact rfl; exact rfl; (exact rd_2 rfl rfl)) | (apply ef_ias; exact rfl; exact rfl; exact rfl; (omega); assumption; exact rfl) | apply ef_nil | apply seqQ.normal | apply ef_block | apply ef_skip | (apply ef_condt; exact rfl; (exact (rfl : true = true))))
      (apply ef_callv; exact rfl; exact rfl; ((repeat (apply XVs.cons; exact rfl)); exact XVs.nil); exact rfl; exact hg1 _)
      repeat (first | (apply ef_mv; exact rfl; exact rfl) | (apply ef_bin; exact rfl; exact rfl; exact rfl; (((with_reducible refine bin_add (wrap_of ?_ ?_)) <;> omega))) | apply ef_nil | apply seqQ.normal | apply blockQ.normal | apply ef_skip | (apply ef_condf; exact rfl; (exact (rfl : false = false))))
      (refine loopQ.normal _ _ ⟨i + 1, ⟨hlt, by rw [HZ.out, HD.out]; simp [fIxG, HT.out]⟩, (by first | (simp only; omega) | omega), by ((repeat (refine Hold.cons (by exact rfl) ?_)); exact Hold.nil), .inl (Nat.le_refl _), (by first | exact List.take_length | exact rfl)⟩)
    · repeat (first | apply ef_seq | (apply ef_mv; exact rfl; exact rfl) | (apply ef_bin; exact rfl; exact rfl; exact rfl; (exact cmp_t rfl (by first | exact rfl | (simp only [cmpP]; omega)))) | (apply ef_ldr; exact rfl; exact rfl; (exact rd_2 rfl rfl)) | (apply ef_ias; exact rfl; exact rfl; exact rfl; (omega); assumption; exact rfl) | apply ef_nil | apply seqQ.normal | apply ef_block | apply ef_skip | (apply ef_condt; exact rfl; (exact (rfl : true = true))))
      (apply ef_callv; exact rfl; exact rfl; ((repeat (apply XVs.cons; exact rfl)); exact XVs.nil); exact rfl; exact hg1 _)
      repeat (first | apply ef_seq | (apply ef_mv; exact rfl; exact rfl) | apply ef_nil | apply seqQ.normal | apply loopQ.ret | apply ef_ret | apply seqQ.ret | apply blockQ.ret | (apply ef_condt; exact rfl; (exact (rfl : true = true))))
      (refine fin1 rfl (by exact rfl) rfl ?_)
      rw [HZ.out, HD.out]; simp [fIxG, HT.out]
  · repeat (first | apply ef_seq | (apply ef_mv; exact rfl; exact rfl) | (apply ef_bin; exact rfl; exact rfl; exact rfl; (exact cmp_f rfl (by simp only [cmpP]; omega))) | apply ef_nil | apply seqQ.normal | apply loopQ.exit | apply ef_ret | apply ef_exit | apply seqQ.exit | apply blockQ.here | (apply ef_condf; exact rfl; (exact (rfl : false = false))))
    (refine fin1 rfl (by exact rfl) rfl ?_)
    rw [hz, List.drop_eq_nil_of_le (by omega)]; rfl
theorem IndexFuncL_c (k g : Nat) (caps : List MV) (P : Ln → Bool) (zs : List Ln) (h : MHeap) {v fv : MV} (hx : zs.length ≤ 1000) (hg : ∀ z ∈ zs, ∀ h, orA k g (encLn z :: caps) h = some (Bo (P z), h)) (hv : frz 0 [] h 8 v = some (.sl (zs.map encLn))) (hf : frz 0 [] h 8 fv = some (.fn g 0 caps)) :
    orA (k + 1) 104 [v, fv] h = some (I64 (fIxG P zs 0), h) :=
  callL (args' := [.sl (zs.map encLn), .fn g 0 caps]) (by simp [List.mapM_cons, hv, hf]) rfl (IndexFuncL_z k g caps P zs hx hg)
theorem mf_ContainsFuncL : MT.mf 86 = some ⟨9, [(.tmp 4)], (.seq (.reg [⟨none, some 4, .mv (.c (.lit (.bool false)))⟩]) (.seq (.reg [⟨none, some 5, .mv (.s 0)⟩, ⟨none, some 6, .mv (.s 1)⟩, ⟨none, some 7, .call 104 [.s 5, .s 6]⟩, ⟨none, some 8, .bin .geq (.s 7) (.c (.lit (.int .i64 0)))⟩, ⟨none, some 4, .mv (.s 8)⟩]) .ret))⟩ := by kernel_rfl
theorem ContainsFuncL_c (k g : Nat) (caps : List MV) (P : Ln → Bool) (zs : List Ln) (h : MHeap) {v fv : MV} {t : Bool} (hx : zs.length ≤ 1000) (hg : ∀ z ∈ zs, ∀ h, orA k g (encLn z :: caps) h = some (Bo (P z), h)) (hl : ltL 0 caps = true) (hv : frz 0 [] h 8 v = some (.sl (zs.map encLn))) (hf : frz 0 [] h 8 fv = some (.fn g 0 caps))
    (ht : zs.any P = t) : orA (k + 2) 86 [v, fv] h = some (Bo t, h) := by
  refine callL (args' := [.sl (zs.map encLn), .fn g 0 caps]) (by simp [List.mapM_cons, hv, hf]) rfl (runZ_of mf_ContainsFuncL (by simp) ?_)
  simp only [argsL]
  have hi := fun h => IndexFuncL_c k g caps P zs h (v := .sl (zs.map encLn)) (fv := .fn g 0 caps) hx hg (frz_sl (ltL_lits (fun _ => by simp [MV.lt, ltL]) zs)) (by simp [frz, MV.lt, hl])
  repeat (first | apply ef_seq | (apply ef_mv; exact rfl; exact rfl) | (apply ef_bin; exact rfl; exact rfl; exact rfl; (exact rfl)) | apply ef_nil | apply seqQ.normal | apply ef_ret | (apply ef_call; exact rfl; ((repeat (apply XVs.cons; exact rfl)); exact XVs.nil); (with_reducible exact hi _)))
  (refine fin1 rfl (by exact rfl) rfl ?_)
  rw [← ht]
  exact fIxG_any P zs
theorem mf_IndexFuncC : MT.mf 114 = some ⟨19, [(.tmp 4)], (.seq (.reg [⟨none, some 4, .mv (.c (.lit (.int .i64 0)))⟩]) (.seq (.seq (.reg [⟨none, some 6, .mv (.s 0)⟩, ⟨none, some 7, .len (.s 6)⟩, ⟨none, some 8, .mv (.c (.lit (.int .i64 0)))⟩]) (.block 0 (.loop [8, 7, 1, 0] (.seq (.reg [⟨none, some 9, .bin .lss (.s 8) (.s 7)⟩]) (.seq (.cond (.s 9) .skip (.exit 0)) (.seq (.block 1 (.seq (.reg [⟨none, some 10, .mv (.s 8)⟩, ⟨none, some 5, .mv (.s 10)⟩]) (.seq (.reg [⟨none, some 11, .mv (.s 1)⟩, ⟨none, some 12, .mv (.s 0)⟩, ⟨none, some 13, .mv (.s 5)⟩, ⟨none, some 14, .ia 6 (.s 12) (.s 13)⟩, ⟨none, some 15, .ld (some 6) (.s 14)⟩, ⟨none, some 16, .callv (.s 11) [.s 15]⟩]) (.cond (.s 16) (.seq (.reg [⟨none, some 17, .mv (.s 5)⟩, ⟨none, some 4, .mv (.s 17)⟩]) .ret) .skip)))) (.reg [⟨none, some 18, .bin .add (.s 8) (.c (.lit (.int .i64 1)))⟩, ⟨none, some 8, .mv (.s 18)⟩]))))))) (.seq (.reg [⟨none, some 4, .mv (.c (.lit (.int .i64 (-1))))⟩]) .ret)))⟩ := by kernel_rfl
theorem IndexFuncC_z (k g : Nat) (caps : List MV) (P : Cr → Bool) (zs : List Cr) (hx : zs.length ≤ 1000) (hg : ∀ z ∈ zs, ∀ h, orA k g (encCr z :: caps) h = some (Bo (P z), h)) :
    runZ MT (orA k) (itA k) 4000000 114 [.sl (zs.map encCr), .fn g 0 caps] [] = some (I64 (fIxG P zs 0), []) := by
  have hl : (MV.sl (zs.map encCr)).slen = some zs.length := by simp [MV.slen]
  refine runZ_of mf_IndexFuncC (by simp) ?_
  simp only [argsL]
  repeat (first | apply ef_seq | (apply ef_mv; exact rfl; exact rfl) | (apply ef_len; exact rfl; exact rfl; (assumption)) | apply ef_nil | apply seqQ.normal | apply ef_block)
  refine ef_loop (α := Nat) (fun i => i ≤ zs.length ∧ fIxG P zs 0 = fIxG P (zs.drop i) i) (fun i => [(8, I64 (i : Int)), (7, I64 (zs.length : Int)), (1, .fn g 0 caps), (0, .sl (zs.map encCr))]) (fun _ => []) (fun i => zs.length - i) 0 [8, 7, 1, 0] (fun _ => rfl) rfl ⟨by omega, rfl⟩ (by simp; omega) (by ((repeat (refine Hold.cons (by exact rfl) ?_)); exact Hold.nil)) rfl ?_
  rintro i ⟨hi, hz⟩
  by_cases hlt : i < zs.length
  · have e1 := at_map encCr zs i hlt
    have HD := Lib.hid (drop_at zs i hlt)
    have HZ := Lib.hid hz
    have hg1 := hg zs[i] (List.getElem_mem hlt)
    clear hz hg
    obtain ⟨t, ht⟩ : ∃ t, P zs[i] = t := ⟨_, rfl⟩
    have HT := Lib.hid ht
    rw [ht] at hg1
    clear ht
    generalize zs[i] = z at e1 HD hg1 HT
    cases t
    · repeat (first | apply ef_seq | (apply ef_mv; exact rfl; exact rfl) | (apply ef_bin; exact rfl; exact rfl; exact rfl; (exact cmp_t rfl (by first | exact rfl | (simp only [cmpP]; omega)))) | (apply ef_ldr; exact rfl; exact rfl; (exact rd_6 rfl rfl rfl rfl rfl rfl)) | (apply ef_ias; exact rfl; exact rfl; exact rfl; (omega); assumption; exact rfl) | apply ef_nil | apply seqQ.normal | apply ef_block | apply ef_skip | (apply ef_condt; exact rfl; (exact (rfl : true = true))))
      (apply ef_callv; exact rfl; exact rfl; ((repeat (apply XVs.cons; exact rfl)); exact XVs.nil); exact rfl; exact hg1 _)
      repeat (first | (apply ef_mv; exact rfl; exact rfl) | (apply ef_bin; exact rfl; exact rfl; exact rfl; (((with_reducible refine bin_add (wrap_of ?_ ?_)) <;> omega))) | apply ef_nil | apply seqQ.normal | apply blockQ.normal | apply ef_skip | (apply ef_condf; exact rfl; (exact (rfl : false = false))))
      (refine loopQ.normal _ _ ⟨i + 1, ⟨hlt, by rw [HZ.out, HD.out]; simp [fIxG, HT.out]⟩, (by first | (simp only; omega) | omega), by ((repeat (refine Hold.cons (by exact rfl) ?_)); exact Hold.nil), .inl (Nat.le_refl _), (by first | exact List.take_length | exact rfl)⟩)
    · repeat (first | apply ef_seq | (apply ef_mv; exact rfl; exact rfl) | (apply ef_bin; exact rfl; exact rfl; exact rfl; (exact cmp_t rfl (by first | exact rfl | (simp only [cmpP]; omega)))) | (apply ef_ldr; exact rfl; exact rfl; (exact rd_6 rfl rfl rfl rfl rfl rfl)) | (apply ef_ias; exact rfl; exact rfl; exact rfl; (omega); assumption; exact rfl) | apply ef_nil | apply seqQ.normal | apply ef_block | apply ef_skip | (apply ef_condt; exact rfl; (exact (rfl : true = true))))
      (apply ef_callv; exact rfl; exact rfl; ((repeat (apply XVs.cons; exact rfl)); exact XVs.nil); exact rfl; exact hg1 _)
      repeat (first | apply ef_seq | (apply ef_mv; exact rfl; exact rfl) | apply ef_nil | apply seqQ.normal | apply loopQ.ret | apply ef_ret | apply seqQ.ret | apply blockQ.ret | (apply ef_condt; exact rfl; (exact (rfl : true = true))))
      (refine fin1 rfl (by exact rfl) rfl ?_)
      rw [HZ.out, HD.out]; simp [fIxG, HT.out]
  · repeat (first | apply ef_seq | (apply ef_mv; exact rfl; exact rfl) | (apply ef_bin; exact rfl; exact rfl; exact rfl; (exact cmp_f rfl (by simp only [cmpP]; omega))) | apply ef_nil | apply seqQ.normal | apply loopQ.exit | apply ef_ret | apply ef_exit | apply seqQ.exit | apply blockQ.here | (apply ef_condf; exact rfl; (exact (rfl : false = false))))
    (refine fin1 rfl (by exact rfl) rfl ?_)
    rw [hz, List.drop_eq_nil_of_le (by omega)]; rfl
theorem IndexFuncC_c (k g : Nat) (caps : List MV) (P : Cr → Bool) (zs : List Cr) (h : MHeap) {v fv : MV} (hx : zs.length ≤ 1000) (hg : ∀ z ∈ zs, ∀ h, orA k g (encCr z :: caps) h = some (Bo (P z), h)) (hv : frz 0 [] h 8 v = some (.sl (zs.map encCr))) (hf : frz 0 [] h 8 fv = some (.fn g 0 caps)) :
    orA (k + 1) 114 [v, fv] h = some (I64 (fIxG P zs 0), h) :=
  callL (args' := [.sl (zs.map encCr), .fn g 0 caps]) (by simp [List.mapM_cons, hv, hf]) rfl (IndexFuncC_z k g caps P zs hx hg)
theorem mf_ContainsFuncC : MT.mf 105 = some ⟨9, [(.tmp 4)], (.seq (.reg [⟨none, some 4, .mv (.c (.lit (.bool false)))⟩]) (.seq (.reg [⟨none, some 5, .mv (.s 0)⟩, ⟨none, some 6, .mv (.s 1)⟩, ⟨none, some 7, .call 114 [.s 5, .s 6]⟩, ⟨none, some 8, .bin .geq (.s 7) (.c (.lit (.int .i64 0)))⟩, ⟨none, some 4, .mv (.s 8)⟩]) .ret))⟩ := by kernel_rfl
theorem ContainsFuncC_c (k g : Nat) (caps : List MV) (P : Cr → Bool) (zs : List Cr) (h : MHeap) {v fv : MV} {t : Bool} (hx : zs.length ≤ 1000) (hg : ∀ z ∈ zs, ∀ h, orA k g (encCr z :: caps) h = some (Bo (P z), h)) (hl : ltL 0 caps = true) (hv : frz 0 [] h 8 v = some (.sl (zs.map encCr))) (hf : frz 0 [] h 8 fv = some (.fn g 0 caps))
    (ht : zs.any P = t) : orA (k + 2) 105 [v, fv] h = some (Bo t, h) := by
  refine callL (args' := [.sl (zs.map encCr), .fn g 0 caps]) (by simp [List.mapM_cons, hv, hf]) rfl (runZ_of mf_ContainsFuncC (by simp) ?_)
  simp only [argsL]
  have hi := fun h => IndexFuncC_c k g caps P zs h (v := .sl (zs.map encCr)) (fv := .fn g 0 caps) hx hg (frz_sl (ltL_lits (fun _ => by simp [MV.lt, ltL]) zs)) (by simp [frz, MV.lt, hl])
  repeat (first | apply ef_seq | (apply ef_mv; exact rfl; exact rfl) | (apply ef_bin; exact rfl; exact rfl; exact rfl; (exact rfl)) | apply ef_nil | apply seqQ.normal | apply ef_ret | (apply ef_call; exact rfl; ((repeat (apply XVs.cons; exact rfl)); exact XVs.nil); (with_reducible exact hi _)))
  (refine fin1 rfl (by exact rfl) rfl ?_)
  rw [← ht]
  exact fIxG_any P zs
theorem mf_CheckNet1 : MT.mf 87 = some ⟨9, [(.tmp 3)], (.seq (.reg [⟨none, some 2, .box 2 (.s 0)⟩, ⟨none, some 3, .mv (.c (.lit (.bool false)))⟩]) (.seq (.reg [⟨none, some 4, .fa 0 (.s 2)⟩, ⟨none, some 5, .ld none (.s 4)⟩, ⟨none, some 6, .fa 0 (.s 1)⟩, ⟨none, some 7, .ld none (.s 6)⟩, ⟨none, some 8, .seq false (.s 5) (.s 7)⟩, ⟨none, some 3, .mv (.s 8)⟩]) .ret))⟩ := by kernel_rfl
theorem CheckNet1_c (k : Nat) (o l : Ln) (h : MHeap) : orA (k + 1) 87 [encLn o, .rp (encLn l) 0] h = some (Bo (o.1 == l.1), h) := by
  refine callL (args' := [encLn o, .rp (encLn l) 0]) (frzL_lt rfl) rfl (runZ_of mf_CheckNet1 (by simp) ?_)
  simp only [argsL]
  repeat (first | apply ef_seq | (apply ef_mv; exact rfl; exact rfl) | (apply ef_ldr; exact rfl; exact rfl; (exact rfl)) | (apply ef_ldp; exact rfl; exact rfl; (exact rfl); exact rfl; (exact rfl); (exact rfl)) | (apply ef_fap; exact rfl; exact rfl) | (apply ef_far; exact rfl; exact rfl) | (apply ef_box; exact rfl; exact rfl; exact rfl; exact rfl) | (apply ef_sq; exact rfl; exact rfl; exact rfl) | apply ef_nil | apply seqQ.normal | apply ef_ret)
  repeat (fail)
  repeat (fail)
  (refine fin1 rfl (by exact rfl) rfl ?_)
  rfl
theorem mf_crossingErr1 : MT.mf 106 = some ⟨30, [(.tmp 3)], (.seq (.reg [⟨none, some 2, .box 6 (.s 0)⟩, ⟨none, some 3, .mv (.c (.lit (.bool false)))⟩]) (.seq (.reg [⟨none, some 4, .fa 0 (.s 2)⟩, ⟨none, some 5, .ld none (.s 4)⟩, ⟨none, some 6, .fa 0 (.s 1)⟩, ⟨none, some 7, .ld none (.s 6)⟩, ⟨none, some 8, .bin .eql (.s 5) (.s 7)⟩, ⟨none, some 9, .mv (.s 8)⟩, ⟨some (9, true), some 10, .fa 2 (.s 2)⟩, ⟨some (9, true), some 11, .ld none (.s 10)⟩, ⟨some (9, true), some 12, .fa 2 (.s 1)⟩, ⟨some (9, true), some 13, .ld none (.s 12)⟩, ⟨some (9, true), some 14, .bin .eql (.s 11) (.s 13)⟩, ⟨none, some 15, .pick (.s 9) (.s 14) (.c (.lit (.bool false)))⟩, ⟨none, some 16, .mv (.s 15)⟩, ⟨some (16, false), some 17, .fa 1 (.s 2)⟩, ⟨some (16, false), some 18, .ld none (.s 17)⟩, ⟨some (16, false), some 19, .fa 1 (.s 1)⟩, ⟨some (16, false), some 20, .ld none (.s 19)⟩, ⟨some (16, false), some 21, .bin .eql (.s 18) (.s 20)⟩, ⟨some (16, false), some 22, .mv (.s 21)⟩, ⟨some (22, true), some 23, .fa 3 (.s 2)⟩, ⟨some (22, true), some 24, .ld none (.s 23)⟩, ⟨some (22, true), some 25, .fa 3 (.s 1)⟩, ⟨some (22, true), some 26, .ld none (.s 25)⟩, ⟨some (22, true), some 27, .bin .eql (.s 24) (.s 26)⟩, ⟨some (16, false), some 28, .pick (.s 22) (.s 27) (.c (.lit (.bool false)))⟩, ⟨none, some 29, .pick (.s 16) (.c (.lit (.bool true))) (.s 28)⟩, ⟨none, some 3, .mv (.s 29)⟩]) .ret))⟩ := by kernel_rfl
theorem crossingErr1_c (k : Nat) (o c : Cr) (h : MHeap) : orA (k + 1) 106 [encCr o, .rp (encCr c) 0] h = some (Bo (dblB c o), h) := by
  refine callL (args' := [encCr o, .rp (encCr c) 0]) (frzL_lt rfl) rfl (runZ_of mf_crossingErr1 (by simp) ?_)
  simp only [argsL]
  have HD := Lib.hid (show dblB c o = ((decide (o.ln = c.ln) && decide (o.pa = c.pa)) || (decide (o.ti = c.ti) && decide (o.pt = c.pt))) from rfl)
  by_cases h1 : o.ln = c.ln <;> by_cases h2 : o.pa = c.pa <;> by_cases h3 : o.ti = c.ti <;> by_cases h4 : o.pt = c.pt
  all_goals repeat (first | apply ef_seq | (apply ef_mv; exact rfl; exact rfl) | (apply ef_bin; exact rfl; exact rfl; exact rfl; (first | exact cmp_t rfl (by first | exact rfl | (simp only [cmpP]; omega)) | exact cmp_f rfl (by simp only [cmpP]; omega))) | (apply ef_gy; exact rfl; (first | exact (rfl : true = true) | exact (rfl : false = false))) | (apply ef_gn; exact rfl; (first | exact (rfl : true = true) | exact (rfl : false = false)); exact rfl) | (apply ef_gu; exact rfl; exact rfl) | (apply ef_pick; exact rfl; exact rfl; exact rfl) | (apply ef_ldr; exact rfl; exact rfl; (exact rfl)) | (apply ef_ldp; exact rfl; exact rfl; (exact rfl); exact rfl; (exact rfl); (exact rfl)) | (apply ef_fap; exact rfl; exact rfl) | (apply ef_far; exact rfl; exact rfl) | (apply ef_box; exact rfl; exact rfl; exact rfl; exact rfl) | apply ef_nil | apply seqQ.normal | apply ef_ret)
  all_goals (refine fin1 rfl (by exact rfl) rfl ?_)
  all_goals (rw [HD.out]; simp [h1, h2, h3, h4])
theorem mf_isPosition : MT.mf 54 = some ⟨5, [(.tmp 2)], (.seq (.reg [⟨none, some 2, .mv (.c (.lit (.bool false)))⟩]) (.seq (.reg [⟨none, some 3, .mv (.s 0)⟩, ⟨none, some 4, .call 50 [.s 3, (.c (.lit (.int .i64 0))), (.c (.lit (.int .i64 1000000)))]⟩, ⟨none, some 2, .mv (.s 4)⟩]) .ret))⟩ := by kernel_rfl
theorem isPosition_c (k : Nat) (n : Int) (h : MHeap) {b : Bool} (hb : inB n 0 1000000 = b) : orA (k + 2) 54 [I64 n] h = some (Bo b, h) := by
  refine callL (args' := [I64 n]) (frzL_lt rfl) rfl (runZ_of mf_isPosition (by simp) ?_)
  simp only [argsL]
  have hw := fun h => within_c k n 0 1000000 h hb
  repeat (first | apply ef_seq | (apply ef_mv; exact rfl; exact rfl) | apply ef_nil | apply seqQ.normal | apply ef_ret | (apply ef_call; exact rfl; ((repeat (apply XVs.cons; exact rfl)); exact XVs.nil); (with_reducible exact hw _)))
  (refine fin1 rfl (by exact rfl) rfl ?_)
  rfl
theorem mf_isSized : MT.mf 39 = some ⟨10, [(.tmp 4)], (.seq (.reg [⟨none, some 4, .mv (.c (.lit (.bool false)))⟩]) (.seq (.reg [⟨none, some 5, .mv (.s 0)⟩, ⟨none, some 6, .mv (.s 1)⟩, ⟨none, some 7, .un .neg (.s 6)⟩, ⟨none, some 8, .mv (.s 1)⟩, ⟨none, some 9, .call 50 [.s 5, .s 7, .s 8]⟩, ⟨none, some 4, .mv (.s 9)⟩]) .ret))⟩ := by kernel_rfl
theorem isSized_c (k : Nat) (n m : Int) (h : MHeap) {b : Bool} (h0 : 0 ≤ m) (h1 : m ≤ 1000000000) (hb : inB n (-m) m = b) : orA (k + 2) 39 [I64 n, I64 m] h = some (Bo b, h) := by
  refine callL (args' := [I64 n, I64 m]) (frzL_lt rfl) rfl (runZ_of mf_isSized (by simp) ?_)
  simp only [argsL]
  have hw := fun h => within_c k n (0 - m) m h (t := b) (by rw [Int.zero_sub]; exact hb)
  repeat (first | apply ef_seq | (apply ef_mv; exact rfl; exact rfl) | (apply ef_neg; exact rfl; exact rfl; exact wrap_of (by omega) (by omega)) | apply ef_nil | apply seqQ.normal | apply ef_ret | (apply ef_call; exact rfl; ((repeat (apply XVs.cons; exact rfl)); exact XVs.nil); (with_reducible exact hw _)))
  (refine fin1 rfl (by exact rfl) rfl ?_)
  rfl
theorem ln_at {ls : List Ln} {i : Int} (h : inB i 0 ((ls.length : Int) - 1) = true) : 0 ≤ i ∧ (ls.map encLn)[i.toNat]? = some (encLn (ls.getD i.toNat (⟨#[]⟩, false))) := by
  obtain ⟨h0, h1⟩ := inB_iff.1 h
  refine ⟨h0, ?_⟩
  have hlt : i.toNat < ls.length := by omega
  rw [List.getElem?_map, List.getElem?_eq_getElem hlt, List.getD_eq_getElem?_getD, List.getElem?_eq_getElem hlt]; rfl
theorem ltL_Ln (n : Nat) (ls : List Ln) : ltL n (ls.map encLn) = true := ltL_lits (fun _ => rfl) ls
theorem ltL_Cr (n : Nat) (ls : List Cr) : ltL n (ls.map encCr) = true := ltL_lits (fun _ => rfl) ls
theorem mf_crossingErr : MT.mf 89 = some ⟨69, [(.tmp 6)], (.seq (.reg [⟨none, some 5, .box 6 (.s 2)⟩, ⟨none, some 6, .mv (.c (.lit (.int .i64 0)))⟩]) (.seq (.seq (.reg [⟨none, some 9, .fa 0 (.s 5)⟩, ⟨none, some 10, .ld none (.s 9)⟩, ⟨none, some 11, .mv (.s 0)⟩, ⟨none, some 12, .len (.s 11)⟩, ⟨none, some 13, .bin .sub (.s 12) (.c (.lit (.int .i64 1)))⟩, ⟨none, some 14, .call 50 [.s 10, (.c (.lit (.int .i64 0))), .s 13]⟩, ⟨none, some 15, .un .not (.s 14)⟩, ⟨none, some 16, .mv (.s 15)⟩, ⟨some (16, false), some 17, .fa 1 (.s 5)⟩, ⟨some (16, false), some 18, .ld none (.s 17)⟩, ⟨some (16, false), some 19, .mv (.s 0)⟩, ⟨some (16, false), some 20, .len (.s 19)⟩, ⟨some (16, false), some 21, .bin .sub (.s 20) (.c (.lit (.int .i64 1)))⟩, ⟨some (16, false), some 22, .call 50 [.s 18, (.c (.lit (.int .i64 0))), .s 21]⟩, ⟨some (16, false), some 23, .un .not (.s 22)⟩, ⟨none, some 24, .pick (.s 16) (.c (.lit (.bool true))) (.s 23)⟩]) (.cond (.s 24) (.seq (.reg [⟨none, some 6, .mv (.c (.lit (.int .i64 6)))⟩]) .ret) .skip)) (.seq (.reg [⟨none, some 25, .fa 2 (.s 5)⟩, ⟨none, some 26, .ld none (.s 25)⟩, ⟨none, some 27, .call 54 [.s 26]⟩, ⟨none, some 28, .mv (.s 27)⟩, ⟨some (28, true), some 29, .fa 3 (.s 5)⟩, ⟨some (28, true), some 30, .ld none (.s 29)⟩, ⟨some (28, true), some 31, .call 54 [.s 30]⟩, ⟨none, some 32, .pick (.s 28) (.s 31) (.c (.lit (.bool false)))⟩, ⟨none, some 33, .mv (.s 32)⟩, ⟨some (33, true), some 34, .fa 4 (.s 5)⟩, ⟨some (33, true), some 35, .ld none (.s 34)⟩, ⟨some (33, true), some 36, .call 39 [.s 35, (.c (.lit (.int .i64 10000)))]⟩, ⟨none, some 37, .pick (.s 33) (.s 36) (.c (.lit (.bool false)))⟩, ⟨none, some 38, .mv (.s 37)⟩, ⟨some (38, true), some 39, .fa 5 (.s 5)⟩, ⟨some (38, true), some 40, .ld none (.s 39)⟩, ⟨some (38, true), some 41, .call 50 [.s 40, (.c (.lit (.int .i64 1))), (.c (.lit (.int .i64 10)))]⟩, ⟨none, some 42, .pick (.s 38) (.s 41) (.c (.lit (.bool false)))⟩, ⟨none, some 7, .mv (.s 42)⟩]) (.seq (.reg [⟨none, some 43, .mv (.s 1)⟩, ⟨none, some 44, .mf 106 0 [.s 5]⟩, ⟨none, some 45, .call 105 [.s 43, .s 44]⟩, ⟨none, some 8, .mv (.s 45)⟩]) (.seq (.reg [⟨none, some 46, .mv (.s 0)⟩, ⟨none, some 47, .fa 0 (.s 5)⟩, ⟨none, some 48, .ld none (.s 47)⟩, ⟨none, some 49, .ia 2 (.s 46) (.s 48)⟩, ⟨none, some 50, .fa 1 (.s 49)⟩, ⟨none, some 51, .ld none (.s 50)⟩, ⟨none, some 52, .un .not (.s 51)⟩, ⟨none, some 53, .mv (.s 52)⟩, ⟨some (53, true), some 54, .mv (.s 0)⟩, ⟨some (53, true), some 55, .fa 1 (.s 5)⟩, ⟨some (53, true), some 56, .ld none (.s 55)⟩, ⟨some (53, true), some 57, .ia 2 (.s 54) (.s 56)⟩, ⟨some (53, true), some 58, .fa 1 (.s 57)⟩, ⟨some (53, true), some 59, .ld none (.s 58)⟩, ⟨none, some 60, .pick (.s 53) (.s 59) (.c (.lit (.bool false)))⟩, ⟨none, some 61, .call 41 [.s 60, (.c (.lit (.int .i64 15)))]⟩, ⟨none, some 62, .mv (.s 7)⟩, ⟨none, some 63, .call 41 [.s 62, (.c (.lit (.int .i64 2)))]⟩, ⟨none, some 64, .mv (.s 8)⟩, ⟨none, some 65, .un .not (.s 64)⟩, ⟨none, some 66, .call 41 [.s 65, (.c (.lit (.int .i64 23)))]⟩, ⟨none, some 67, .bsl (.lit (.int .i64 0)) 1 3 [(0, (.s 61)), (1, (.s 63)), (2, (.s 66))]⟩, ⟨none, some 68, .call 40 [.s 67]⟩, ⟨none, some 6, .mv (.s 68)⟩]) .ret)))))⟩ := by kernel_rfl
set_option maxHeartbeats 2000000 in
theorem crossingErr_c (k : Nat) (ls : List Ln) (pre : List Cr) (c : Cr) (h : MHeap) (hl : ls.length ≤ 1000) (hp : pre.length ≤ 1000) : orA (k + 4) 89 [.sl (ls.map encLn), .sl (pre.map encCr), encCr c] h = some (I64 (crossE ls pre c), h) := by
  refine callL (args' := [.sl (ls.map encLn), .sl (pre.map encCr), encCr c]) (frzL_lt (by simp [ltL, MV.lt, ltL_Ln, ltL_Cr])) rfl (runZ_of mf_crossingErr (by simp) ?_)
  simp only [argsL]
  have hsl : (MV.sl (ls.map encLn)).slen = some ls.length := by simp [MV.slen]
  have hun := fun b e h => unless_c (k + 2) b e h rfl
  cases h1 : inB c.ln 0 ((ls.length : Int) - 1)
  · have hw1 := fun h => within_c (k + 2) c.ln 0 ((ls.length : Int) - 1) h h1
    repeat (first | apply ef_seq | (apply ef_mv; exact rfl; exact rfl) | (apply ef_bin; exact rfl; exact rfl; exact rfl; (((with_reducible refine bin_sub (wrap_of ?_ ?_)) <;> omega))) | (apply ef_gn; exact rfl; (exact (rfl : true = true)); exact rfl) | (apply ef_pick; exact rfl; exact rfl; exact rfl) | (apply ef_len; exact rfl; exact rfl; (assumption)) | (apply ef_ldp; exact rfl; exact rfl; (exact rfl); exact rfl; (exact rfl); (exact rfl)) | (apply ef_fap; exact rfl; exact rfl) | (apply ef_notF; exact rfl; exact rfl) | (apply ef_box; exact rfl; exact rfl; exact rfl; exact rfl) | apply ef_nil | apply seqQ.normal | apply ef_ret | apply seqQ.ret | (apply ef_condt; exact rfl; (exact (rfl : true = true))) | (apply ef_call; exact rfl; ((repeat (apply XVs.cons; exact rfl)); exact XVs.nil); (with_reducible exact hw1 _)))
    (refine fin1 rfl (by exact rfl) rfl ?_)
    simp [crossE, h1]
  · cases h2 : inB c.ti 0 ((ls.length : Int) - 1)
    · have hw1 := fun h => within_c (k + 2) c.ln 0 ((ls.length : Int) - 1) h h1
      have hw2 := fun h => within_c (k + 2) c.ti 0 ((ls.length : Int) - 1) h h2
      repeat (first | apply ef_seq | (apply ef_mv; exact rfl; exact rfl) | (apply ef_bin; exact rfl; exact rfl; exact rfl; (((with_reducible refine bin_sub (wrap_of ?_ ?_)) <;> omega))) | (apply ef_gy; exact rfl; (exact (rfl : false = false))) | (apply ef_pick; exact rfl; exact rfl; exact rfl) | (apply ef_len; exact rfl; exact rfl; (assumption)) | (apply ef_ldp; exact rfl; exact rfl; (exact rfl); exact rfl; (exact rfl); (exact rfl)) | (apply ef_fap; exact rfl; exact rfl) | (apply ef_notT; exact rfl; exact rfl) | (apply ef_notF; exact rfl; exact rfl) | (apply ef_box; exact rfl; exact rfl; exact rfl; exact rfl) | apply ef_nil | apply seqQ.normal | apply ef_ret | apply seqQ.ret | (apply ef_condt; exact rfl; (exact (rfl : true = true))) | (apply ef_call; exact rfl; ((repeat (apply XVs.cons; exact rfl)); exact XVs.nil); (with_reducible first | exact hw1 _ | exact hw2 _)))
      (refine fin1 rfl (by exact rfl) rfl ?_)
      simp [crossE, h1, h2]
    · have hw1 := fun h => within_c (k + 2) c.ln 0 ((ls.length : Int) - 1) h h1
      have hw2 := fun h => within_c (k + 2) c.ti 0 ((ls.length : Int) - 1) h h2
      obtain ⟨p1, e1⟩ := ln_at h1
      obtain ⟨p2, e2⟩ := ln_at h2
      have HE := Lib.hid (show crossE ls pre c = firstE [unl (!tieOf ls c.ln && tieOf ls c.ti) 15, unl (rngB c) 2, unl (!(pre.any (dblB c))) 23] by simp [crossE, h1, h2])
      have HR := Lib.hid (show rngB c = (inB c.pa 0 1000000 && (inB c.pt 0 1000000 && (inB c.df (-10000) 10000 && inB c.wt 1 10))) from rfl)
      have ht1 : (ls.getD c.ln.toNat (⟨#[]⟩, false)).2 = tieOf ls c.ln := rfl
      have ht2 : (ls.getD c.ti.toNat (⟨#[]⟩, false)).2 = tieOf ls c.ti := rfl
      generalize ls.getD c.ln.toNat (⟨#[]⟩, false) = l1 at e1 ht1
      generalize ls.getD c.ti.toNat (⟨#[]⟩, false) = l2 at e2 ht2
      obtain ⟨n1, b1⟩ := l1
      obtain ⟨n2, b2⟩ := l2
      simp only at ht1 ht2
      rw [← ht1, ← ht2] at HE
      have hcf := fun h => ContainsFuncC_c (k + 1) 106 [.rp (encCr c) 0] (dblB c) pre h (v := .sl (pre.map encCr)) (fv := .fn 106 0 [.ptr 0 0 0 0]) (t := pre.any (dblB c)) hp (fun o _ h => crossingErr1_c k o c h) rfl (frz_sl (ltL_Cr 0 pre))
      have hc := hcf [⟨0, false, 6, [encCr c]⟩] (by simp [frz, MV.lt, ltL]) rfl
      generalize pre.any (dblB c) = db at hc HE
      generalize q1 : inB c.pa 0 1000000 = r1 at HR
      generalize q2 : inB c.pt 0 1000000 = r2 at HR
      generalize q3 : inB c.df (-10000) 10000 = r3 at HR
      generalize q4 : inB c.wt 1 10 = r4 at HR
      have hw3 := fun h => isPosition_c (k + 1) c.pa h q1
      have hw4 := fun h => isPosition_c (k + 1) c.pt h q2
      have hw5 := fun h => isSized_c (k + 1) c.df 10000 h (by omega) (by omega) q3
      have hw6 := fun h => within_c (k + 2) c.wt 1 10 h q4
      rw [HR.out] at HE
      clear hcf ht1 ht2 h1 h2 q1 q2 q3 q4 HR
      have key : ∀ rb, (r1 && (r2 && (r3 && r4))) = rb → RowKit.Hid (crossE ls pre c = firstE [unl (!b1 && b2) 15, unl rb 2, unl (!db) 23]) := fun rb hrb => Lib.hid (by rw [HE.out, hrb])
      clear HE
      cases r1
      · have HE := key false rfl
        clear key
        cases b1
        all_goals repeat (first | apply ef_seq | (apply ef_mv; exact rfl; exact rfl) | (apply ef_bin; exact rfl; exact rfl; exact rfl; (((with_reducible refine bin_sub (wrap_of ?_ ?_)) <;> omega))) | (apply ef_gy; exact rfl; (exact (rfl : false = false))) | (apply ef_gn; exact rfl; (exact (rfl : false = false)); exact rfl) | (apply ef_pick; exact rfl; exact rfl; exact rfl) | (apply ef_len; exact rfl; exact rfl; (assumption)) | (apply ef_ldp; exact rfl; exact rfl; (exact rfl); exact rfl; (exact rfl); (exact rfl)) | (apply ef_fap; exact rfl; exact rfl) | (apply ef_notT; exact rfl; exact rfl) | (apply ef_box; exact rfl; exact rfl; exact rfl; exact rfl) | (apply ef_mf; exact rfl; (repeat (apply XVs.cons; exact rfl)); exact XVs.nil) | apply ef_nil | apply seqQ.normal | apply ef_skip | (apply ef_condf; exact rfl; (exact (rfl : false = false))) | (apply ef_call; exact rfl; ((repeat (apply XVs.cons; exact rfl)); exact XVs.nil); (with_reducible first | exact hw1 _ | exact hw2 _ | exact hw3 _)))
        all_goals (apply ef_call; (· exact rfl); (· ((repeat (apply XVs.cons; exact rfl)); exact XVs.nil)); · exact hc)
        all_goals repeat (first | apply ef_seq | (apply ef_mv; exact rfl; exact rfl) | (apply ef_gy; exact rfl; (exact (rfl : true = true))) | (apply ef_gn; exact rfl; (exact (rfl : false = false)); exact rfl) | (apply ef_pick; exact rfl; exact rfl; exact rfl) | (apply ef_ldr; exact rfl; exact rfl; (exact rfl)) | (apply ef_ldp; exact rfl; exact rfl; (exact rfl); exact rfl; (exact rfl); (exact rfl)) | (apply ef_ias; exact rfl; exact rfl; exact rfl; (omega); assumption; exact rfl) | (apply ef_fap; exact rfl; exact rfl) | (apply ef_far; exact rfl; exact rfl) | (apply ef_notT; exact rfl; exact rfl) | (apply ef_notF; exact rfl; exact rfl) | (apply ef_not; exact rfl; exact rfl; exact rfl) | (apply ef_bsl; exact rfl; (repeat (apply XVs.cons; exact rfl)); exact XVs.nil; exact rfl) | apply ef_nil | apply seqQ.normal | apply ef_ret | (apply ef_call; exact rfl; ((repeat (apply XVs.cons; exact rfl)); exact XVs.nil); (with_reducible exact hun _ _ _)) | (apply ef_call; exact rfl; ((repeat (apply XVs.cons; exact rfl)); exact XVs.nil); (with_reducible apply first3_c); exact rfl; exact rfl; exact rfl; (exact rfl)))
        all_goals (refine fin1 rfl (by exact rfl) rfl ?_)
        all_goals (rw [HE.out]; rfl)
      · cases r2
        · have HE := key false rfl
          clear key
          cases b1
          all_goals repeat (first | apply ef_seq | (apply ef_mv; exact rfl; exact rfl) | (apply ef_bin; exact rfl; exact rfl; exact rfl; (((with_reducible refine bin_sub (wrap_of ?_ ?_)) <;> omega))) | (apply ef_gy; exact rfl; (first | exact (rfl : true = true) | exact (rfl : false = false))) | (apply ef_gn; exact rfl; (exact (rfl : false = false)); exact rfl) | (apply ef_pick; exact rfl; exact rfl; exact rfl) | (apply ef_len; exact rfl; exact rfl; (assumption)) | (apply ef_ldp; exact rfl; exact rfl; (exact rfl); exact rfl; (exact rfl); (exact rfl)) | (apply ef_fap; exact rfl; exact rfl) | (apply ef_notT; exact rfl; exact rfl) | (apply ef_box; exact rfl; exact rfl; exact rfl; exact rfl) | (apply ef_mf; exact rfl; (repeat (apply XVs.cons; exact rfl)); exact XVs.nil) | apply ef_nil | apply seqQ.normal | apply ef_skip | (apply ef_condf; exact rfl; (exact (rfl : false = false))) | (apply ef_call; exact rfl; ((repeat (apply XVs.cons; exact rfl)); exact XVs.nil); (with_reducible first | exact hw1 _ | exact hw2 _ | exact hw3 _ | exact hw4 _)))
          all_goals (apply ef_call; (· exact rfl); (· ((repeat (apply XVs.cons; exact rfl)); exact XVs.nil)); · exact hc)
          all_goals repeat (first | apply ef_seq | (apply ef_mv; exact rfl; exact rfl) | (apply ef_gy; exact rfl; (exact (rfl : true = true))) | (apply ef_gn; exact rfl; (exact (rfl : false = false)); exact rfl) | (apply ef_pick; exact rfl; exact rfl; exact rfl) | (apply ef_ldr; exact rfl; exact rfl; (exact rfl)) | (apply ef_ldp; exact rfl; exact rfl; (exact rfl); exact rfl; (exact rfl); (exact rfl)) | (apply ef_ias; exact rfl; exact rfl; exact rfl; (omega); assumption; exact rfl) | (apply ef_fap; exact rfl; exact rfl) | (apply ef_far; exact rfl; exact rfl) | (apply ef_notT; exact rfl; exact rfl) | (apply ef_notF; exact rfl; exact rfl) | (apply ef_not; exact rfl; exact rfl; exact rfl) | (apply ef_bsl; exact rfl; (repeat (apply XVs.cons; exact rfl)); exact XVs.nil; exact rfl) | apply ef_nil | apply seqQ.normal | apply ef_ret | (apply ef_call; exact rfl; ((repeat (apply XVs.cons; exact rfl)); exact XVs.nil); (with_reducible exact hun _ _ _)) | (apply ef_call; exact rfl; ((repeat (apply XVs.cons; exact rfl)); exact XVs.nil); (with_reducible apply first3_c); exact rfl; exact rfl; exact rfl; (exact rfl)))
          all_goals (refine fin1 rfl (by exact rfl) rfl ?_)
          all_goals (rw [HE.out]; rfl)
        · cases r3
          · have HE := key false rfl
            clear key
            cases b1
            all_goals repeat (first | apply ef_seq | (apply ef_mv; exact rfl; exact rfl) | (apply ef_bin; exact rfl; exact rfl; exact rfl; (((with_reducible refine bin_sub (wrap_of ?_ ?_)) <;> omega))) | (apply ef_gy; exact rfl; (first | exact (rfl : true = true) | exact (rfl : false = false))) | (apply ef_gn; exact rfl; (exact (rfl : false = false)); exact rfl) | (apply ef_pick; exact rfl; exact rfl; exact rfl) | (apply ef_len; exact rfl; exact rfl; (assumption)) | (apply ef_ldp; exact rfl; exact rfl; (exact rfl); exact rfl; (exact rfl); (exact rfl)) | (apply ef_fap; exact rfl; exact rfl) | (apply ef_notT; exact rfl; exact rfl) | (apply ef_box; exact rfl; exact rfl; exact rfl; exact rfl) | (apply ef_mf; exact rfl; (repeat (apply XVs.cons; exact rfl)); exact XVs.nil) | apply ef_nil | apply seqQ.normal | apply ef_skip | (apply ef_condf; exact rfl; (exact (rfl : false = false))) | (apply ef_call; exact rfl; ((repeat (apply XVs.cons; exact rfl)); exact XVs.nil); (with_reducible first | exact hw1 _ | exact hw2 _ | exact hw3 _ | exact hw4 _ | exact hw5 _)))
            all_goals (apply ef_call; (· exact rfl); (· ((repeat (apply XVs.cons; exact rfl)); exact XVs.nil)); · exact hc)
            all_goals repeat (first | apply ef_seq | (apply ef_mv; exact rfl; exact rfl) | (apply ef_gy; exact rfl; (exact (rfl : true = true))) | (apply ef_gn; exact rfl; (exact (rfl : false = false)); exact rfl) | (apply ef_pick; exact rfl; exact rfl; exact rfl) | (apply ef_ldr; exact rfl; exact rfl; (exact rfl)) | (apply ef_ldp; exact rfl; exact rfl; (exact rfl); exact rfl; (exact rfl); (exact rfl)) | (apply ef_ias; exact rfl; exact rfl; exact rfl; (omega); assumption; exact rfl) | (apply ef_fap; exact rfl; exact rfl) | (apply ef_far; exact rfl; exact rfl) | (apply ef_notT; exact rfl; exact rfl) | (apply ef_notF; exact rfl; exact rfl) | (apply ef_not; exact rfl; exact rfl; exact rfl) | (apply ef_bsl; exact rfl; (repeat (apply XVs.cons; exact rfl)); exact XVs.nil; exact rfl) | apply ef_nil | apply seqQ.normal | apply ef_ret | (apply ef_call; exact rfl; ((repeat (apply XVs.cons; exact rfl)); exact XVs.nil); (with_reducible exact hun _ _ _)) | (apply ef_call; exact rfl; ((repeat (apply XVs.cons; exact rfl)); exact XVs.nil); (with_reducible apply first3_c); exact rfl; exact rfl; exact rfl; (exact rfl)))
            all_goals (refine fin1 rfl (by exact rfl) rfl ?_)
            all_goals (rw [HE.out]; rfl)
          · have HE := key r4 rfl
            clear key
            cases b1
            all_goals repeat (first | apply ef_seq | (apply ef_mv; exact rfl; exact rfl) | (apply ef_bin; exact rfl; exact rfl; exact rfl; (((with_reducible refine bin_sub (wrap_of ?_ ?_)) <;> omega))) | (apply ef_gy; exact rfl; (first | exact (rfl : true = true) | exact (rfl : false = false))) | (apply ef_pick; exact rfl; exact rfl; exact rfl) | (apply ef_len; exact rfl; exact rfl; (assumption)) | (apply ef_ldp; exact rfl; exact rfl; (exact rfl); exact rfl; (exact rfl); (exact rfl)) | (apply ef_fap; exact rfl; exact rfl) | (apply ef_notT; exact rfl; exact rfl) | (apply ef_box; exact rfl; exact rfl; exact rfl; exact rfl) | (apply ef_mf; exact rfl; (repeat (apply XVs.cons; exact rfl)); exact XVs.nil) | apply ef_nil | apply seqQ.normal | apply ef_skip | (apply ef_condf; exact rfl; (exact (rfl : false = false))) | (apply ef_call; exact rfl; ((repeat (apply XVs.cons; exact rfl)); exact XVs.nil); (with_reducible first | exact hw1 _ | exact hw2 _ | exact hw3 _ | exact hw4 _ | exact hw5 _ | exact hw6 _)))
            all_goals (apply ef_call; (· exact rfl); (· ((repeat (apply XVs.cons; exact rfl)); exact XVs.nil)); · exact hc)
            all_goals repeat (first | apply ef_seq | (apply ef_mv; exact rfl; exact rfl) | (apply ef_gy; exact rfl; (exact (rfl : true = true))) | (apply ef_gn; exact rfl; (exact (rfl : false = false)); exact rfl) | (apply ef_pick; exact rfl; exact rfl; exact rfl) | (apply ef_ldr; exact rfl; exact rfl; (exact rfl)) | (apply ef_ldp; exact rfl; exact rfl; (exact rfl); exact rfl; (exact rfl); (exact rfl)) | (apply ef_ias; exact rfl; exact rfl; exact rfl; (omega); assumption; exact rfl) | (apply ef_fap; exact rfl; exact rfl) | (apply ef_far; exact rfl; exact rfl) | (apply ef_notT; exact rfl; exact rfl) | (apply ef_notF; exact rfl; exact rfl) | (apply ef_not; exact rfl; exact rfl; exact rfl) | (apply ef_bsl; exact rfl; (repeat (apply XVs.cons; exact rfl)); exact XVs.nil; exact rfl) | apply ef_nil | apply seqQ.normal | apply ef_ret | (apply ef_call; exact rfl; ((repeat (apply XVs.cons; exact rfl)); exact XVs.nil); (with_reducible exact hun _ _ _)) | (apply ef_call; exact rfl; ((repeat (apply XVs.cons; exact rfl)); exact XVs.nil); (with_reducible apply first3_c); exact rfl; exact rfl; exact rfl; (exact rfl)))
            all_goals (refine fin1 rfl (by exact rfl) rfl ?_)
            all_goals (rw [HE.out]; rfl)
end Go.Proofs.Ytbdleggmdbihnaa
