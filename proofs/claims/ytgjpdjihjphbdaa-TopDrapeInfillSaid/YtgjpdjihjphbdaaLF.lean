/- Control. -/
import Derived.Test.YtgjpdjihjphbdaaLD
import Derived.LoopNIn
/- Control. -/
namespace Go.Proofs.Ytgjpdjihjphbdaa
open Go.RowKit

/-- What a round, or no round, is about: the marks of loops; the record of the loop that the round is of. -/
def MkOk (r : Option Nat) (B : Nat) (a : Act) (w : World) : Prop :=
  B ≤ w.heap.size ∧ match r with
  | none => Marks B a.defers w
  | some l => a.defers = [] ∧ ∃ rec, w.heap[l]? = some (.loop rec)

theorem noCells_ext {lk : Nat → Bool} {E E' : Env} {h : MHeap} {w w' : World} (hr : HRel E h w) (hx : Ext lk E w E' w') {k : Nat} {o : Obj} (hk : w.heap[k]? = some o) (ho : o.isCells = false) : w'.heap[k]? = some o := by
  have hlt := (Array.getElem?_eq_some_iff.1 hk).1
  refine (hx.keep k hlt fun id hid _ hc e => ?_).trans hk
  obtain ⟨es, -, -, -, -, hb⟩ := hr.obj id hid
  obtain ⟨arr, t, h1, -⟩ := hb hc
  rw [e, hk] at h1
  cases h1
  cases ho

theorem MkOk.ext {lk : Nat → Bool} {r : Option Nat} {B : Nat} {a a' : Act} {E E' : Env} {h : MHeap} {w w' : World} (hm : MkOk r B a w) (hr : HRel E h w) (hx : Ext lk E w E' w') (hd : a'.defers = a.defers) : MkOk r B a' w' := by
  refine ⟨Nat.le_trans hm.1 hx.size, ?_⟩
  have := hm.2
  cases r with
  | none =>
    simp only at this ⊢
    rw [hd]
    exact this.keep fun D _ hD => noCells_ext hr hx hD rfl
  | some l =>
    simp only at this ⊢
    obtain ⟨h1, rec, h2⟩ := this
    exact ⟨hd.trans h1, rec, noCells_ext hr hx h2 rfl⟩

def exitOf : MX2 → Exit
  | .normal => .normal
  | .exit id => .exit id
  | .ret => .ret

/-- The state. -/
structure Rel (r : Option Nat) (B : Nat) (E : Env) (st : MSt) (a : Act) (w : World) : Prop where
  slots : Slots E w st.s a
  heap : HRel E st.h w
  mok : MkOk r B a w

/-- A piece of code comes to what its evaluation comes to. -/
def CodeOK (P : Program) (O : Oracle) (I : Iter) (N : Nat) (c : Code) (mc : MC) : Prop :=
  ∀ (lk : Nat → Bool) (st st' : MSt) (x : MX2), evC O I N mc lk st = some (x, st') → ∀ (r : Option Nat) (B n : Nat) (E : Env) (a : Act) (w : World) (Q : Exit → Act → World → Prop), Rel r B E st a w →
    (∀ a' w' E', Rel r B E' st' a' w' → Ext lk E w E' w' → Q (exitOf x) a' w') → c.wpIn (Fw r) n P Q a w

section
variable {P : Program} {O : Oracle} {I : Iter} {N : Nat}

theorem code_skip : CodeOK P O I N .skip .skip := by
  intro lk st st' x he r B n E a w Q hR hQ
  simp only [evC, Option.some.injEq, Prod.mk.injEq] at he
  obtain ⟨rfl, rfl⟩ := he
  exact wpIn_skip (hQ a w E hR (Ext.refl _ _ _))
theorem code_ret : CodeOK P O I N .ret .ret := by
  intro lk st st' x he r B n E a w Q hR hQ
  simp only [evC, Option.some.injEq, Prod.mk.injEq] at he
  obtain ⟨rfl, rfl⟩ := he
  exact wpIn_ret (hQ a w E hR (Ext.refl _ _ _))
theorem code_exit {id : Nat} : CodeOK P O I N (.exit id) (.exit id) := by
  intro lk st st' x he r B n E a w Q hR hQ
  simp only [evC, Option.some.injEq, Prod.mk.injEq] at he
  obtain ⟨rfl, rfl⟩ := he
  exact wpIn_exit (hQ a w E hR (Ext.refl _ _ _))
theorem code_seq {c d : Code} {mc md : MC} (h1 : CodeOK P O I N c mc) (h2 : CodeOK P O I N d md) : CodeOK P O I N (.seq c d) (.seq mc md) := by
  intro lk st st' x he r B n E a w Q hR hQ
  simp only [evC] at he
  split at he
  · rename_i st1 he1
    exact wpIn_seq (h1 lk st st1 .normal he1 r B n E a w _ hR fun a1 w1 E1 hR1 hx1 => h2 lk st1 st' x he r B n E1 a1 w1 Q hR1 fun a2 w2 E2 hR2 hx2 => hQ a2 w2 E2 hR2 (hx1.trans hx2))
  · rename_i y hne
    cases x with
    | normal => exact absurd he (hne st')
    | exit id => exact wpIn_seq (h1 lk st st' (.exit id) he r B n E a w _ hR fun a1 w1 E1 hR1 hx1 => hQ a1 w1 E1 hR1 hx1)
    | ret => exact wpIn_seq (h1 lk st st' .ret he r B n E a w _ hR fun a1 w1 E1 hR1 hx1 => hQ a1 w1 E1 hR1 hx1)
theorem code_cond {x : Operand} {x' : MX} {c d : Code} {mc md : MC} (hx : cX x = some x') (h1 : CodeOK P O I N c mc) (h2 : CodeOK P O I N d md) : CodeOK P O I N (.cond x c d) (.cond x' mc md) := by
  intro lk st st' y he r B n E a w Q hR hQ
  simp only [evC] at he
  have hv := hR.slots.x hx
  split at he
  case h_2 => cases he
  rename_i t ht
  rw [ht] at hv
  refine wpIn_cond hv.lit_eq ?_
  cases t
  · exact h2 lk st st' y he r B n E a w Q hR hQ
  · exact h1 lk st st' y he r B n E a w Q hR hQ
theorem code_block {id : Nat} {c : Code} {mc : MC} (h1 : CodeOK P O I N c mc) : CodeOK P O I N (.block id c) (.block id mc) := by
  intro lk st st' y he r B n E a w Q hR hQ
  simp only [evC] at he
  split at he
  · rename_i k st1 he1
    refine wpIn_block (h1 lk st st1 (.exit k) he1 r B n E a w _ hR fun a1 w1 E1 hR1 hx1 => ?_)
    split at he
    · rename_i e
      cases he
      have := hQ a1 w1 E1 hR1 hx1
      simpa [exitOf, Exit.inBlock, e] using this
    · rename_i e
      cases he
      have := hQ a1 w1 E1 hR1 hx1
      simpa [exitOf, Exit.inBlock, e] using this
  · rename_i hne
    refine wpIn_block (h1 lk st st' y he r B n E a w _ hR fun a1 w1 E1 hR1 hx1 => ?_)
    have := hQ a1 w1 E1 hR1 hx1
    cases y with
    | normal => simpa [exitOf, Exit.inBlock] using this
    | exit k => exact absurd he (hne k st')
    | ret => simpa [exitOf, Exit.inBlock] using this
end

end Go.Proofs.Ytgjpdjihjphbdaa

/- Loops. -/
namespace Go.Proofs.Ytgjpdjihjphbdaa
open Go.RowKit

def Env.res (E : Env) (n : Nat) : Env := { E with K := fun id => E.K id ∧ id < n }

theorem ltL_at {n : Nat} : ∀ {l : List MV}, ltL n l = true → ∀ (i : Nat) m, l[i]? = some m → m.lt n = true
  | v :: vs, h, 0, m, hi => by simp at hi; subst hi; simp only [ltL, Bool.and_eq_true] at h; exact h.1
  | v :: vs, h, i + 1, m, hi => by simp at hi; simp only [ltL, Bool.and_eq_true] at h; exact ltL_at h.2 i m hi
theorem lt_cells {n : Nat} {m : MV} (h : m.lt n = true) (i : Nat) (c : MV) (hc : m.cells[i]? = some c) : c.lt n = true := by
  have key : ∀ {v : MV}, v.cells = [v] → v.lt n = true → v.cells[i]? = some c → c.lt n = true := fun hv h hc => by
    rw [hv] at hc
    cases i with
    | zero => simp at hc; subst hc; exact h
    | succ i => simp at hc
  cases m with
  | agg cs => simp only [MV.lt] at h; exact ltL_at h i c hc
  | _ => exact key rfl h hc
theorem lt_flat {n : Nat} {l : List MV} (h : ltL n l = true) (k : Nat) (c : MV) (hc : (flat l)[k]? = some c) : c.lt n = true := by
  have hm := List.mem_of_getElem? hc
  unfold flat at hm
  rw [List.mem_flatMap] at hm
  obtain ⟨e, he, hce⟩ := hm
  obtain ⟨i, hi⟩ := List.getElem?_of_mem he
  obtain ⟨j, hj⟩ := List.getElem?_of_mem hce
  exact lt_cells (ltL_at h i e hi) j c hj

theorem V.resY {E : Env} {w : World} {m : MV} {v : Value} {n : Nat} (l : Nat) (hv : V E w m v) : m.lt n = true → V { E.res n with yl := l } w m v := by
  induction hv with
  | junk v => exact fun _ => .junk v
  | yld => exact fun h => by simp [MV.lt] at h
  | lit v => exact fun _ => .lit v
  | agg cs vs hl _ ih => exact fun h => .agg cs vs hl fun i c v hc hx => ih i c v hc hx (by simp only [MV.lt] at h; exact ltL_at h i c hc)
  | tup cs vs hl _ ih => exact fun h => .tup cs vs hl fun i c v hc hx => ih i c v hc hx (by simp only [MV.lt] at h; exact ltL_at h i c hc)
  | fn f k cs vs hl _ ih => exact fun h => .fn f k cs vs hl fun i c v hc hx => ih i c v hc hx (by simp only [MV.lt] at h; exact ltL_at h i c hc)
  | sl es vs A cap sz hc hs hl _ hA ih => exact fun h => .sl es vs A cap sz hc hs hl (fun i c v hc' hx => ih i c v hc' hx (by simp only [MV.lt] at h; exact lt_flat h i c hc')) hA
  | rp e off vs b o hl _ hb hcell ih => exact fun h => .rp e off vs b o hl (fun i c v hc' hx => ih i c v hc' hx (by simp only [MV.lt] at h; exact lt_cells h i c hc')) hb hcell
  | ptr id i off g b o hk hg hd => exact fun h => .ptr id i off g b o ⟨hk, by simpa [MV.lt] using h⟩ hg hd
  | arr id i n' g A cap hk hg hd => exact fun h => .arr id i n' g A cap ⟨hk, by simpa [MV.lt] using h⟩ hg hd
theorem V.res {E : Env} {w : World} {m : MV} {v : Value} {n : Nat} (hv : V E w m v) (h : m.lt n = true) : V (E.res n) w m v := V.resY E.yl hv h

theorem HRel.res {E : Env} {h : MHeap} {w : World} {n : Nat} (hr : HRel E h w) (hn : E.top ≤ n) (hlt : hltL n (h.take n) = true) : HRel (E.res n) (h.take n) w := by
  refine ⟨fun id hk => by have := hr.klt id hk.1; have := hk.2; simp; omega, by have := hr.top; simp [Env.res]; omega, fun id hk => ?_, fun i j hi hj => hr.inj i j hi.1 hj.1, fun id hk => hr.sep id hk.1, hr.slt⟩
  obtain ⟨es, a1, a2, a3, a4, a5⟩ := hr.obj id hk.1
  have hmem : (h.take n)[id]? = some ⟨E.gn id, E.nl id, E.sz id, es⟩ := by rw [List.getElem?_take, if_pos hk.2]; exact a1
  refine ⟨es, hmem, a2, a3, a4, fun hc => ?_⟩
  obtain ⟨arr, t, b1, b2, b3⟩ := a5 hc
  refine ⟨arr, t, b1, b2, fun k c hkc => ?_⟩
  obtain ⟨v, c1, c2⟩ := b3 k c hkc
  exact ⟨v, c1, c2.res (lt_flat (List.all_eq_true.1 hlt _ (List.mem_of_getElem? hmem)) k c hkc)⟩

theorem Ext.res {lk : Nat → Bool} {E0 E : Env} {w0 w : World} {n : Nat} (hx : Ext lk E0 w0 E w) (hn : ∀ id, E0.K id → id < n) : Ext lk E0 w0 (E.res n) w :=
  { hx with K := fun id hk => ⟨hx.K id hk, hn id hk⟩, src := fun id hk hc => hx.src id hk.1 hc, srcK := fun id hk => hx.srcK id hk.1 }

theorem keepS_len {keep : List Nat} : ∀ (s : List MV) (i : Nat), (keepS keep i s).length = s.length
  | [], _ => rfl
  | _ :: s, i => by simp [keepS, keepS_len s]
theorem keepS_at {keep : List Nat} : ∀ (s : List MV) (i t : Nat) (m : MV), (keepS keep i s)[t]? = some m → m = .junk ∨ s[t]? = some m
  | [], i, t, m, h => by simp [keepS] at h
  | v :: s, i, 0, m, h => by
    simp only [keepS, List.getElem?_cons_zero, Option.some.injEq] at h
    split at h
    · exact .inr (by simp [h])
    · exact .inl h.symm
  | v :: s, i, t + 1, m, h => by
    simp only [keepS, List.getElem?_cons_succ] at h
    simpa using keepS_at s (i + 1) t m h

theorem Slots.keep {E : Env} {w : World} {s : List MV} {a : Act} (hs : Slots E w s a) (keep : List Nat) (i : Nat) : Slots E w (keepS keep i s) a :=
  ⟨by rw [keepS_len, hs.1], fun t m v hm hv => by
    rcases keepS_at s i t m hm with rfl | h
    · exact .junk v
    · exact hs.2 t m v h hv⟩

/-- The head of a loop. -/
theorem head_ok {lk : Nat → Bool} {r : Option Nat} {B : Nat} {E0 E : Env} {st : MSt} {a : Act} {w0 w : World} {n : Nat} (hR : Rel r B E st a w) (hx : Ext lk E0 w0 E w) (hn : ∀ id, E0.K id → id < n) (ht : E0.top ≤ n) (keep : List Nat) :
    ∃ E', Rel r B E' (headM keep n st) a w ∧ Ext lk E0 w0 E' w ∧ ∀ id, E'.K id → E.K id ∧ E'.ρ id = E.ρ id ∧ E'.cp id = E.cp id := by
  unfold headM
  dsimp only
  have hk := hR.slots.keep keep 0
  split
  · exact ⟨E, ⟨hk, hR.heap, hR.mok⟩, hx, fun id h => ⟨h, rfl, rfl⟩⟩
  · split
    · rename_i hc
      simp only [Bool.and_eq_true] at hc
      exact ⟨E.res n, ⟨⟨hk.1, fun t m v hm hv => (hk.2 t m v hm hv).res (ltL_at hc.1 t m hm)⟩, hR.heap.res (by rw [hx.top]; exact ht) hc.2, hR.mok⟩, hx.res hn, fun id h => ⟨h.1, rfl, rfl⟩⟩
    · exact ⟨E, ⟨hk, hR.heap, hR.mok⟩, hx, fun id h => ⟨h, rfl, rfl⟩⟩

section
variable {P : Program} {O : Oracle} {I : Iter} {N : Nat}
theorem code_loop {keep : List Nat} {c : Code} {mc : MC} (h1 : CodeOK P O I N c mc) : CodeOK P O I N (.loop c) (.loop keep mc) := by
  intro lk st st' y he r B n E a w Q hR hQ
  simp only [evC] at he
  refine wpIn_loop_rounds N ?_
  have key : ∀ (M : Nat) (st1 : MSt) (a1 : Act) (w1 : World) (E1 : Env), rounds (fun st' => evC O I N mc lk (headM keep st.h.length st')) M st1 = some (y, st') → Rel r B E1 st1 a1 w1 → Ext lk E w E1 w1 → Code.roundsIn (Fw r) n P c Q M a1 w1 := by
    intro M
    induction M with
    | zero => intro st1 a1 w1 E1 he; simp [rounds] at he
    | succ M ih =>
      intro st1 a1 w1 E1 he hR1 hx1
      simp only [rounds] at he
      obtain ⟨E2, hR2, hx2, -⟩ := head_ok hR1 hx1 (fun id hk => hR.heap.klt id hk) hR.heap.top keep
      rw [roundsIn_succ]
      split at he
      · rename_i st2 he2
        exact h1 lk _ st2 .normal he2 r B n E2 a1 w1 _ hR2 fun a3 w3 E3 hR3 hx3 => ih st2 a3 w3 E3 he hR3 (hx2.trans hx3)
      · rename_i hne
        cases y with
        | normal => exact absurd he (hne st')
        | exit id => exact h1 lk _ st' (.exit id) he r B n E2 a1 w1 _ hR2 fun a3 w3 E3 hR3 hx3 => hQ a3 w3 E3 hR3 (hx2.trans hx3)
        | ret => exact h1 lk _ st' .ret he r B n E2 a1 w1 _ hR2 fun a3 w3 E3 hR3 hx3 => hQ a3 w3 E3 hR3 (hx2.trans hx3)
  exact key N st a w E he hR (Ext.refl _ _ _)

theorem code_reg (hm : P.follows .mixedOrders = true) (hO : SoundO P O) (hA : AppO O) {id : Nat} {ops : Array Oper} {draw : Bool} {gl : List GO} (hg : ops.toList.mapM (compG P ops) = some gl) (hd : draw = true → drawOk ops gl = true) : CodeOK P O I N (.region id ops draw) (.reg gl) := by
  intro lk st st' y he r B n E a w Q hR hQ
  simp only [evC, Option.map_eq_some_iff, Prod.mk.injEq] at he
  obtain ⟨st1, he1, rfl, rfl⟩ := he
  have hQ' : ∀ a' w' E', Slots E' w' st1.s a' → HRel E' st1.h w' → Ext lk E w E' w' → a'.defers = a.defers → Q .normal a' w' := fun a' w' E' h1 h2 h3 h4 => hQ a' w' E' ⟨h1, h2, hR.mok.ext hR.heap h3 h4⟩ h3
  cases draw
  · exact wpIn_region_list (evR_ok hO hg he1 hR.slots hR.heap hQ')
  · exact draw_ok hm hO hA hg (hd rfl) he1 hR.slots hR.heap hQ'
theorem code_regV (hm : P.follows .mixedOrders = true) (hO : SoundO P O) (hA : AppO O) {id : Nat} {ops : Array Oper} {gl : List GO} (hg : ops.toList.mapM (compG P ops) = some gl) (hd : drawOk ops (virt ops gl) = true) : CodeOK P O I N (.region id ops true) (.reg (virt ops gl)) := by
  intro lk st st' y he r B n E a w Q hR hQ
  simp only [evC, Option.map_eq_some_iff, Prod.mk.injEq] at he
  obtain ⟨st1, he1, rfl, rfl⟩ := he
  have hQ' : ∀ a' w' E', Slots E' w' st1.s a' → HRel E' st1.h w' → Ext lk E w E' w' → a'.defers = a.defers → Q .normal a' w' := fun a' w' E' h1 h2 h3 h4 => hQ a' w' E' ⟨h1, h2, hR.mok.ext hR.heap h3 h4⟩ h3
  exact draw_okV hm hO hA (virt_len (by obtain ⟨hl, _⟩ := mapM_some hg; rw [← hl]; simp)) (virt_comp hg) hd he1 hR.slots hR.heap hQ'
end

end Go.Proofs.Ytgjpdjihjphbdaa

/- Ranges over functions. -/
namespace Go.Proofs.Ytgjpdjihjphbdaa
open Go.RowKit

theorem V.ck {E : Env} {B : Nat} {w w' : World} (h : CK B w w') {m : MV} {v : Value} (hv : V E w m v) : V E w' m v := by
  induction hv with
  | junk v => exact .junk v
  | yld => exact .yld
  | lit v => exact .lit v
  | agg cs vs hl _ ih => exact .agg cs vs hl ih
  | tup cs vs hl _ ih => exact .tup cs vs hl ih
  | fn f k cs vs hl _ ih => exact .fn f k cs vs hl ih
  | sl es vs A cap sz hc hs hl _ hA ih =>
    refine .sl es vs A cap sz hc hs hl ih fun h0 => ?_
    obtain ⟨b, off, e, hb, hcell⟩ := hA h0
    exact ⟨b, off, e, hb, fun i v hi => h.cell (hcell i v hi)⟩
  | rp e off vs b o hl _ hb hcell ih => exact .rp e off vs b o hl ih hb fun i v hi => h.cell (hcell i v hi)
  | ptr id i off g b o hk hg hd => exact .ptr id i off g b o hk hg hd
  | arr id i n g A cap hk hg hd => exact .arr id i n g A cap hk hg hd

theorem HRel.ck {E : Env} {B : Nat} {h : MHeap} {w w' : World} (hr : HRel E h w) (hc : CK B w w') : HRel E h w' :=
  ⟨hr.klt, hr.top, fun id hk => by
    obtain ⟨es, a1, a2, a3, a4, a5⟩ := hr.obj id hk
    refine ⟨es, a1, a2, a3, a4, fun hcp => ?_⟩
    obtain ⟨arr, t, b1, b2, b3⟩ := a5 hcp
    refine ⟨arr, t, hc.cells _ _ b1 rfl, b2, fun k c hk => ?_⟩
    obtain ⟨v, c1, c2⟩ := b3 k c hk
    exact ⟨v, c1, c2.ck hc⟩, hr.inj, hr.sep, fun b hb => Nat.lt_of_lt_of_le (hr.slt b hb) hc.size⟩
theorem Ext.ck {lk : Nat → Bool} {E0 E : Env} {w0 w w' : World} (hx : Ext lk E0 w0 E w) (hc : CK w0.heap.size w w') : Ext lk E0 w0 E w' :=
  { hx with os := hc.os.trans hx.os, tape := hc.tape.trans hx.tape, output := hc.output.trans hx.output, size := Nat.le_trans hx.size hc.size, keep := fun k hk hn => (hc.low k hk (Nat.lt_of_lt_of_le hk hx.size)).trans (hx.keep k hk hn) }
theorem Slots.ck {E : Env} {B : Nat} {s : List MV} {a : Act} {w w' : World} (hs : Slots E w s a) (hc : CK B w w') : Slots E w' s a := ⟨hs.1, fun i m v hm hv => (hs.2 i m v hm hv).ck hc⟩

theorem CK.of_grown {B : Nat} {W W' : World} {row : Option Nat} (hg : W.grownBy W' row) (hr : ∀ r, row = some r → B ≤ r ∧ ∃ o : Obj, W.heap[r]? = some o ∧ o.isCells = false) : CK B W W' :=
  ⟨hg.os, hg.tape, hg.output, hg.size, fun k hk hs' => hg.block k hs' (fun e => by have := (hr k e.symm).1; omega), fun k o hk ho => by
    refine (hg.block k (Array.getElem?_eq_some_iff.1 hk).1 (fun e => ?_)).trans hk
    obtain ⟨_, o', ho', hx⟩ := hr k e.symm
    rw [hk] at ho'; cases ho'; rw [ho] at hx; cases hx⟩

/-- The marks and the loop's record abide a turn of another block that is no cells. -/
theorem MkOk.grown {r : Option Nat} {B : Nat} {a : Act} {W W' : World} {row : Option Nat} (hm : MkOk r B a W) (hg : W.grownBy W' row) (hr : ∀ k, row = some k → ∃ o : Obj, W.heap[k]? = some o ∧ o.isWalk = true) : MkOk r B a W' := by
  refine ⟨Nat.le_trans hm.1 hg.size, ?_⟩
  have same : ∀ {k : Nat} {o : Obj}, W.heap[k]? = some o → o.isWalk = false → W'.heap[k]? = some o := fun {k o} hk ho => (grownBy_keeps hg hr hk ho).trans hk
  have := hm.2
  cases r with
  | none => exact Marks.keep this fun D _ hD => same hD rfl
  | some l =>
    obtain ⟨h1, rec, h2⟩ := this
    exact ⟨h1, rec, same h2 rfl⟩
theorem MkOk.putLoop {r : Option Nat} {B : Nat} {a : Act} {W : World} {l : Nat} {rec rec' : Loop} (hm : MkOk r B a W) (hl : W.heap[l]? = some (.loop rec)) : MkOk r B a (W.putObj l (.loop rec')) := by
  have hg := grownBy_putObj' W l (.loop rec')
  refine ⟨Nat.le_trans hm.1 hg.size, ?_⟩
  have := hm.2
  cases r with
  | none =>
    refine Marks.keep this fun D _ hD => (World.putObj_heap_other (fun e => ?_)).trans hD
    subst e
    rw [hl] at hD; cases hD
  | some l0 =>
    obtain ⟨h1, rec0, h2⟩ := this
    by_cases e : l0 = l
    · subst e
      exact ⟨h1, _, World.putObj_heap_same (Array.getElem?_eq_some_iff.1 hl).1⟩
    · exact ⟨h1, rec0, (World.putObj_heap_other e).trans h2⟩
theorem ck_putLoop {B : Nat} {W : World} {l : Nat} {rec : Loop} (rec' : Loop) (hl : W.heap[l]? = some (.loop rec)) (hB : B ≤ l) : CK B W (W.putObj l (.loop rec')) := CK.putObj W l _ _ hl rfl hB

/-- Values without memory. -/
def concV : MV → Value
  | .lit v => v
  | .agg cs => .agg (cs.map fun | .lit v => v | _ => undef).toArray
  | _ => undef
def MV.cl : MV → Bool
  | .lit _ => true
  | .agg cs => cs.all fun | .lit _ => true | _ => false
  | _ => false
theorem V.conc {E : Env} {w : World} {m : MV} (h : m.cl = true) : V E w m (concV m) := by
  cases m with
  | lit v => exact .lit v
  | agg cs =>
    refine .agg cs _ (by simp) fun i c v hc hv => ?_
    rw [List.getElem?_map, hc] at hv
    have := List.all_eq_true.1 h c (List.mem_of_getElem? hc)
    cases c <;> simp at this
    cases hv
    exact .lit _
  | _ => cases h

/-- An iterator that yields these values, one after the other, as long as the blocks of S are as they were, and its own. -/
def IterK (P : Program) (g : Nat) (fst lb : Array Value) (encs : List (Array Value)) (S : Nat → Prop) (w : World) : Prop :=
  ∀ (l : Nat) (J : (Nat → Prop) → Nat → World → Prop) (Jx : World → Prop) (W : World), Below w.heap.size w W → (∀ T T' k A A', J T k A → Below A.heap.size A A' → (∀ b, T' b → T b ∨ A.heap.size ≤ b) → J T' k A') → (∀ A A', Jx A → Below A.heap.size A A' → Jx A') →
    (∀ (T : Nat → Prop) (k : Nat) (x : Array Value) (W1 : World), encs[k]? = some x → (∀ b, T b → b < W1.heap.size) → J T k W1 → YieldAt Fence.wide 0 P l x W1 fun e W' => ((e = .returned (.bool true) ∧ J T (k + 1) W') ∨ (e = .returned (.bool false) ∧ Jx W')) ∧ SameS S W1 W' ∧ SameS T W1 W') →
    J (fun _ => False) 0 W → CallsIn Fence.wide 0 P g (fst ++ #[.func (.yield l) #[] #[]] ++ lb) W fun e W' => (∃ v, e = .returned v) ∧ ((∃ T, J T encs.length W') ∨ Jx W')

/-- What iterators yield is so. -/
def SoundI (P : Program) (I : Iter) : Prop := ∀ g q caps h xs, I g q caps h = some xs → hasBody P g = true ∧ (∀ x ∈ xs, ∀ m ∈ x, m.cl = true) ∧ ∀ E w vs, HRel E h w → Vs E w caps vs →
  ∃ S : Nat → Prop, (∀ k, S k → E.S k ∨ ∃ id, id ∈ caps.flatMap (MV.ids h 6) ∧ E.K id ∧ 0 < E.cp id ∧ E.ρ id = k) ∧ IterK P g (vs.take q).toArray (vs.drop q).toArray (xs.map fun x => (x.map concV).toArray) S w

theorem roundIn_n {P : Program} {l : Nat} {f : FuncId} {tmps : Array Value} {as_ body : Code} {w : World} {R : Ending → World → Prop} (n m : Nat) (h : RoundIn Fence.wide n P l f tmps as_ body w R) : RoundIn Fence.wide m P l f tmps as_ body w R :=
  ⟨h.1, fun c cs _ => h.2 c cs (room_wide _)⟩
theorem wpIn_n {P : Program} {r : Option Nat} {c : Code} {Q : Exit → Act → World → Prop} {a : Act} {w : World} (n m : Nat) (h : c.wpIn (Fw r) n P Q a w) : c.wpIn (Fw r) m P Q a w :=
  fun b k cs h1 h2 _ => h b k cs h1 h2 (fun d hd => by simp [Fence.wide] at hd)
theorem callsIn_n {P : Program} {f : FuncId} {args : Array Value} {w : World} {R : Ending → World → Prop} (r : Option Nat) (n m : Nat) (h : CallsIn Fence.wide n P f args w R) : CallsIn (Fw r) m P f args w R :=
  ⟨trivial, fun cs _ => h.2 cs (room_wide _)⟩

/-- The state of a range over a function between its rounds. -/
def RfSt (T : Nat → Prop) (lk : Nat → Bool) (r : Option Nat) (B : Nat) (E : Env) (w : World) (a1 : Act) (hh : MHeap) (W : World) : Prop := ∃ E', HRel E' hh W ∧ Ext lk E w E' W ∧ MkOk r B a1 W ∧ ∀ id, E'.K id → 0 < E'.cp id → ¬ T (E'.ρ id)

theorem overH_trace {f : List MV → MHeap → Option (MX2 × MHeap)} : ∀ {xs : List (List MV)} {h h' : MHeap} {y : MX2}, overH f xs h = some (y, h') →
    ∃ (m : Nat) (hs : Nat → MHeap), hs 0 = h ∧ m ≤ xs.length ∧ (∀ k x, k < m → xs[k]? = some x → f x (hs k) = some (.normal, hs (k + 1))) ∧ ((m = xs.length ∧ y = .normal ∧ h' = hs m) ∨ (m < xs.length ∧ y ≠ .normal ∧ ∀ x, xs[m]? = some x → f x (hs m) = some (y, h')))
  | [], h, h', y, he => by
    simp only [overH, Option.some.injEq, Prod.mk.injEq] at he
    obtain ⟨rfl, rfl⟩ := he
    exact ⟨0, fun _ => h, rfl, Nat.le_refl _, fun k x hk => absurd hk (by omega), .inl ⟨rfl, rfl, rfl⟩⟩
  | x :: xs, h, h', y, he => by
    simp only [overH] at he
    split at he
    · rename_i h1 he1
      obtain ⟨m, hs, e0, em, ek, ee⟩ := overH_trace he
      refine ⟨m + 1, fun k => match k with | 0 => h | k + 1 => hs k, rfl, by simpa using em, fun k z hk hz => ?_, ?_⟩
      · cases k with
        | zero => simp at hz; subst hz; simpa [e0] using he1
        | succ k => simp at hz; exact ek k z (by omega) hz
      · rcases ee with ⟨e1, e2, e3⟩ | ⟨e1, e2, e3⟩
        · exact .inl ⟨by simp [e1], e2, e3⟩
        · exact .inr ⟨by simpa using e1, e2, fun z hz => by simp at hz; exact e3 z hz⟩
    · rename_i hne
      refine ⟨0, fun _ => h, rfl, Nat.zero_le _, fun k x hk => absurd hk (by omega), .inr ⟨by simp, fun e => ?_, fun z hz => by simp at hz; subst hz; exact he⟩⟩
      subst e
      exact hne h' he

theorem putAll_slots {E : Env} {w : World} : ∀ {ps : List Nat} {s ms : List MV} {vs : List Value} {a : Act}, Slots E w s a → Vs E w ms vs → Slots E w (putAll s ps ms) ⟨(ps.zip vs).foldl (fun t p => t.setIfInBounds p.1 p.2) a.tmps, []⟩
  | [], s, ms, vs, a, hs, _ => by
    have : putAll s [] ms = s := by cases ms <;> rfl
    rw [this]; exact hs
  | p :: ps, s, [], vs, a, hs, hv => by
    have : vs = [] := by have := hv.1; cases vs <;> simp_all
    subst this
    exact hs
  | p :: ps, s, m :: ms, [], a, hs, hv => by have := hv.1; simp at this
  | p :: ps, s, m :: ms, v :: vs, a, hs, hv => by
    simp only [putAll, List.zip_cons_cons, List.foldl_cons]
    have h1 : Slots E w (s.set p m) ⟨a.tmps.setIfInBounds p v, []⟩ := hs.put (hv.2 0 m v rfl rfl) (some p)
    exact putAll_slots h1 ⟨by have := hv.1; simpa using this, fun i c u hc hu => hv.2 (i + 1) c u (by simpa using hc) (by simpa using hu)⟩

end Go.Proofs.Ytgjpdjihjphbdaa

/- Ranges over functions: the law. -/
namespace Go.Proofs.Ytgjpdjihjphbdaa
open Go.RowKit

/-- The jump that a round leaves. -/
def jumpOf : MX2 → Code
  | .exit id => .exit id
  | _ => .ret

section
variable {P : Program} {O : Oracle} {I : Iter} {N : Nat}

/-- The record of a loop, and the state beside it. -/
def AtRec (T : Nat → Prop) (l : Nat) (rec : Loop) (lk : Nat → Bool) (r : Option Nat) (B : Nat) (E : Env) (w : World) (a1 : Act) (hh : MHeap) (W : World) : Prop := W.heap[l]? = some (.loop rec) ∧ ¬ T l ∧ RfSt T lk r B E w a1 hh W

theorem AtRec.below {T T' : Nat → Prop} {l : Nat} {rec : Loop} {lk : Nat → Bool} {r : Option Nat} {B : Nat} {E : Env} {w : World} {a1 : Act} {hh : MHeap} {W W' : World} (h : AtRec T l rec lk r B E w a1 hh W) (hb : Below W.heap.size W W') (hT : ∀ b, T' b → T b ∨ W.heap.size ≤ b) : AtRec T' l rec lk r B E w a1 hh W' := by
  obtain ⟨hl, hTl, E', h1, h2, h3, h4⟩ := h
  have hlt := (Array.getElem?_eq_some_iff.1 hl).1
  have hck : ∀ B, CK B W W' := fun B => CK.of_below hb
  refine ⟨(hb.block l hlt).trans hl, fun h => ?_, E', h1.ck (hck 0), h2.ck (hck _), h3.ext h1 ((Ext.refl lk E' W).ck (hck _)) rfl, fun id hk hc h => ?_⟩
  · rcases hT l h with h | h
    · exact hTl h
    · omega
  · rcases hT _ h with h | h
    · exact h4 id hk hc h
    · have := h1.lt hk hc; omega
theorem AtRec.put {T : Nat → Prop} {l : Nat} {rec : Loop} {lk : Nat → Bool} {r : Option Nat} {B : Nat} {E : Env} {w : World} {a1 : Act} {hh : MHeap} {W : World} (h : AtRec T l rec lk r B E w a1 hh W) (hl : w.heap.size ≤ l) (rec' : Loop) : AtRec T l rec' lk r B E w a1 hh (W.putObj l (.loop rec')) := by
  obtain ⟨h0, hT, E', h1, h2, h3, h4⟩ := h
  have hck : CK w.heap.size W (W.putObj l (.loop rec')) := ck_putLoop rec' h0 hl
  exact ⟨World.putObj_heap_same (Array.getElem?_eq_some_iff.1 h0).1, hT, E', h1.ck hck, h2.ck hck, h3.putLoop h0, h4⟩

/-- The iterator's own blocks. -/
theorem sameT_ext {lk : Nat → Bool} {T : Nat → Prop} {E1 E2 : Env} {W W' : World} (hx : Ext lk E1 W E2 W') (hT : ∀ b, T b → b < W.heap.size) (hn : ∀ id, E1.K id → 0 < E1.cp id → ¬ T (E1.ρ id)) : SameS T W W' ∧ ∀ id, E2.K id → 0 < E2.cp id → ¬ T (E2.ρ id) :=
  ⟨⟨hx.os, hx.tape, hx.output, hx.size, fun k hk => hx.keep k (hT k hk) fun id hid _ hc e => hn id hid hc (e ▸ hk)⟩, fun id hid hc h => by
    rcases hx.src id hid hc with ⟨h1, h2, h3⟩ | h1
    · exact hn id h1 h2 (h3 ▸ h)
    · have := hT _ h; omega⟩

theorem sameS_ext {lk : Nat → Bool} {S : Nat → Prop} {E E1 E2 : Env} {h0 h1 : MHeap} {w W W' : World} (hr0 : HRel E h0 w) (hr : HRel E1 h1 W) (hx1 : Ext lk E w E1 W) (hx : Ext lk E1 W E2 W') (hS : ∀ k, S k → E.S k ∨ ∃ id, lk id = true ∧ E.K id ∧ 0 < E.cp id ∧ E.ρ id = k) : SameS S W W' :=
  ⟨hx.os, hx.tape, hx.output, hx.size, fun k hk => by
    rcases hS k hk with h | ⟨id, hlk, hid, hc, rfl⟩
    · exact hr.sblock hx (hx1.S k h)
    · have hlt := hr0.lt hid hc
      obtain ⟨e1, e2, e3, e4, e5, e6⟩ := (hx1.old id hid).2 (hx1.lock id hid hlk)
      refine hx.keep _ (Nat.lt_of_lt_of_le hlt hx1.size) fun id2 hid2 hl2 hc2 e => ?_
      have : id2 = id := hr.inj id2 id hid2 (hx1.K id hid) hc2 (by rw [e3]; exact hc) (e.trans e1.symm)
      rw [this, hlk] at hl2
      cases hl2⟩

theorem code_rf (hI : SoundI P I) {keep : List Nat} {f : Operand} {f' : MX} {ps : Array Tmp} {ca cb : Code} {ma mb : MC} (hf : cX f = some f') (h1 : CodeOK P O I N ca ma) (h2 : CodeOK P O I N cb mb) :
    CodeOK P O I N (.rangeFunc f ps ca cb) (.rf keep f' ps.toList ma mb) := by
  intro lk st st' y he r B n E a w Q hR hQ
  simp only [evC] at he
  split at he
  case h_2 => cases he
  rename_i g q caps hfv
  split at he
  case h_2 => cases he
  rename_i xs hxs
  split at he
  case isFalse => cases he
  rename_i hlen
  rw [Option.map_eq_some_iff] at he
  obtain ⟨⟨y1, hh1⟩, he, heq⟩ := he
  simp only [Prod.mk.injEq] at heq
  obtain ⟨rfl, rfl⟩ := heq
  obtain ⟨hbody, hcl, hit⟩ := hI g q caps st.h xs hxs
  have hfa := hR.slots.x hf
  rw [hfv] at hfa
  generalize hfe : a.eval f = fv at hfa
  cases hfa with
  | fn _ _ _ vs hvl hvv =>
  obtain ⟨S, hS, hiter⟩ := hit E w vs hR.heap ⟨hvl, hvv⟩
  obtain ⟨m, hs, e0, em, ek, ee⟩ := overH_trace he
  obtain ⟨lk', hlk'⟩ : ∃ lk' : Nat → Bool, lk' = fun id => lk id || (caps.flatMap (MV.ids st.h 6)).contains id := ⟨_, rfl⟩
  rw [← hlk'] at ek ee
  have hlkm : ∀ {E2 : Env} {W : World}, Ext lk' E w E2 W → Ext lk E w E2 W := fun hx => hx.mono fun id _ h => by rw [hlk']; simp [h]
  have hS' : ∀ k, S k → E.S k ∨ ∃ id, lk' id = true ∧ E.K id ∧ 0 < E.cp id ∧ E.ρ id = k := fun k hk => by
    rcases hS k hk with h | ⟨id, h1, h2, h3, h4⟩
    · exact .inl h
    · exact .inr ⟨id, by rw [hlk']; show (lk id || _) = true; rw [Bool.or_eq_true]; exact .inr (List.contains_iff_mem.2 h1), h2, h3, h4⟩
  refine wpIn_rangeFunc ?_
  intro fn hfn
  -- the record of the loop, the world behind its laying
  have enter : ∃ (l : Nat) (mark : List Deferred) (W1 : World) (rec : LoopState → Option Code → Loop), (Instr.enterLoop fn a.tmps ps ca cb (Fw r).round).run P w = .ok (l, mark) W1 ∧ w.heap.size ≤ l ∧ l < W1.heap.size ∧ Below w.heap.size w W1 ∧
      (∀ s p, (rec s p).state = s ∧ (rec s p).pending = p ∧ (rec s p).fn = fn ∧ (rec s p).tmps = a.tmps ∧ (rec s p).params = ps ∧ (rec s p).assign = ca ∧ (rec s p).body = cb) ∧ (∀ s p s' p', { rec s p with state := s', pending := p' } = rec s' p') ∧ (∀ s p s', { rec s p with state := s' } = rec s' p) ∧
      W1.heap[l]? = some (.loop (rec .ready none)) ∧ MkOk r B { a with defers := mark ++ a.defers } W1 := by
    have hm := hR.mok
    cases r with
    | none =>
      refine ⟨w.heap.size + 1, [{ target := .collected w.heap.size, args := #[] }], _, fun s p => { state := s, pending := p, fn, tmps := a.tmps, params := ps, assign := ca, body := cb, defers := w.heap.size }, run_enterLoop_outer _ _ _ _ _, by omega, by simp, ((Below.refl _ w).alloc (Nat.le_refl _) _).alloc (by simp) _, fun s p => ⟨rfl, rfl, rfl, rfl, rfl, rfl, rfl⟩, fun _ _ _ _ => rfl, fun _ _ _ => rfl, ?_, ?_⟩
      · have := World.alloc_heap_new (w.alloc (.deferred (some []))) (.loop { state := .ready, pending := none, fn, tmps := a.tmps, params := ps, assign := ca, body := cb, defers := w.heap.size })
        rwa [World.size_alloc] at this
      · refine ⟨by have := hm.1; simp; omega, ?_⟩
        have hm2 : Marks B a.defers w := hm.2
        have old : ∀ D, ({ target := .collected D, args := #[] } : Deferred) ∈ a.defers → D < w.heap.size := fun D hD => (Array.getElem?_eq_some_iff.1 (hm2.at_ D hD).1).1
        refine ⟨⟨w.heap.size, rfl, hm.1, ?_, fun d' hd' e => ?_⟩, Marks.keep hm2 fun D hD hh => ?_⟩
        · exact (Below.heap_alloc _ _ _ (by simp)).trans (World.alloc_heap_new w _)
        · subst e
          have := old _ hd'
          omega
        · exact (Below.heap_alloc _ _ _ (by have := old D hD; simp; omega)).trans ((Below.heap_alloc _ _ _ (old D hD)).trans hh)
    | some l0 =>
      obtain ⟨hm1, hm2, rec0, hm3⟩ := hm
      refine ⟨w.heap.size, [], _, fun s p => { state := s, pending := p, fn, tmps := a.tmps, params := ps, assign := ca, body := cb, defers := rec0.defers }, run_enterLoop_inner hm3 _ _ _ _ _, by omega, by simp, (Below.refl _ w).alloc (Nat.le_refl _) _, fun s p => ⟨rfl, rfl, rfl, rfl, rfl, rfl, rfl⟩, fun _ _ _ _ => rfl, fun _ _ _ => rfl, World.alloc_heap_new _ _, by simp; omega, by simpa using hm2, rec0, ?_⟩
      exact (Below.heap_alloc _ _ _ (Array.getElem?_eq_some_iff.1 hm3).1).trans hm3
  obtain ⟨l, mark, W1, rec, hent, hl0, hl1, hb1, hrec, hupd, hupd2, hrl, hmk⟩ := enter
  refine ⟨l, mark, W1, { target := .fn (.func g) (vs.drop q).toArray, args := (vs.take q).toArray ++ #[.func (.yield l) #[] #[]] }, W1, g, (vs.take q).toArray ++ #[.func (.yield l) #[] #[]] ++ (vs.drop q).toArray, W1, hent, ?_, fun _ _ => trivial, ?_, fun h => by simp [Fence.wide] at h, ?_⟩
  · simp only [resolve, hfe]
    simp [go_sem]
  · simp [invoke, hasBody_run hbody]
  -- the state ahead of the first round
  have hx0 : Ext lk' E w E W1 := (Ext.refl lk' E w).ck (CK.of_below hb1)
  have st0 : AtRec (fun _ => False) l (rec .ready none) lk' r B E w { a with defers := mark ++ a.defers } (hs 0) W1 := ⟨hrl, fun h => h, E, by rw [e0]; exact hR.heap.ck (B := 0) (CK.of_below hb1), hx0, hmk, fun _ _ _ h => h⟩
  obtain ⟨a1, ha1⟩ : ∃ a1 : Act, a1 = { a with defers := mark ++ a.defers } := ⟨_, rfl⟩
  rw [← ha1] at st0 ⊢
  obtain ⟨cj, hcj⟩ : ∃ cj : Code, cj = jumpOf y1 := ⟨_, rfl⟩
  have hwW1 : w.heap.size ≤ W1.heap.size := hb1.size
  refine (callsIn_n r 0 (n - 1) (hiter l (fun T k W => k ≤ m ∧ AtRec T l (rec .ready none) lk' r B E w a1 (hs k) W) (fun W => y1 ≠ .normal ∧ AtRec (fun _ => False) l (rec .done (some cj)) lk' r B E w a1 hh1 W) W1 hb1
    (fun T T' k A A' hJ hg hT => ⟨hJ.1, hJ.2.below hg hT⟩) (fun A A' hJ hg => ⟨hJ.1, hJ.2.below hg fun b h => h.elim⟩) ?round ⟨Nat.zero_le _, st0⟩)).mono ?behind
  case behind =>
    rintro e W2 ⟨⟨v, rfl⟩, (⟨T, hm2, hat⟩ | ⟨hne, hat⟩)⟩
    · -- all rounds
      rw [List.length_map] at hm2
      have hmx : m = xs.length := by omega
      have hfin : y1 = .normal ∧ hh1 = hs m := by
        rcases ee with ⟨_, b, c⟩ | ⟨a, _, _⟩
        · exact ⟨b, c⟩
        · omega
      obtain ⟨rfl, rfl⟩ := hfin
      refine ⟨none, W2.putObj l (.loop (rec .exhausted none)), ?_, ?_⟩
      · have := run_endLoop (P := P) hat.1 (by rw [(hrec _ _).1]; simp)
        rw [hupd2, (hrec _ _).2.1] at this
        exact this
      · have hat2 := hat.put hl0 (rec .exhausted none)
        obtain ⟨-, -, E', k1, k2, k3, -⟩ := hat2
        rw [List.length_map, ← hmx] at k1
        have hsl : Slots E' (W2.putObj l (.loop (rec .exhausted none))) st.s a1 := by
          rw [ha1]
          exact Slots.defers (ds := a.defers) (hR.slots.ext hR.heap k2)
        exact hQ a1 _ E' ⟨hsl, k1, k3⟩ (hlkm k2)
    · refine ⟨some cj, W2.putObj l (.loop (rec .exhausted (some cj))), ?_, ?_⟩
      · have := run_endLoop (P := P) hat.1 (by rw [(hrec _ _).1]; simp)
        rw [hupd2, (hrec _ _).2.1] at this
        exact this
      · have hat2 := hat.put hl0 (rec .exhausted (some cj))
        obtain ⟨-, -, E', k1, k2, k3, -⟩ := hat2
        have hsl : Slots E' (W2.putObj l (.loop (rec .exhausted (some cj)))) st.s a1 := by
          rw [ha1]
          exact Slots.defers (ds := a.defers) (hR.slots.ext hR.heap k2)
        have hq := hQ a1 _ E' ⟨hsl, k1, k3⟩ (hlkm k2)
        cases y1 with
        | normal => exact absurd rfl hne
        | exit id =>
          obtain rfl : cj = .exit id := hcj
          exact wpIn_exit hq
        | ret =>
          obtain rfl : cj = .ret := hcj
          exact wpIn_ret hq
  case round =>
    rintro T k x W hx hTlt ⟨hkm, hrl, hTl, E1, hr1, hx1, hmk1, hTn⟩
    rw [List.getElem?_map, Option.map_eq_some_iff] at hx
    obtain ⟨ms, hms, rfl⟩ := hx
    have hkl := (List.getElem?_eq_some_iff.1 hms).1
    have hcx : Vs E1 W ms (ms.map concV) := ⟨by simp, fun i c v hc hv => by
      rw [List.getElem?_map, hc] at hv
      cases hv
      exact V.conc (hcl ms (List.mem_of_getElem? hms) c (List.mem_of_getElem? hc))⟩
    -- what the round comes to
    have hround : ∃ (y2 : MX2) (h2' : MHeap), (match evC O I N ma lk' ⟨putAll (headM keep st.h.length ⟨st.s, hs k⟩).s ps.toList ms, (headM keep st.h.length ⟨st.s, hs k⟩).h⟩ with
          | some (.normal, st2) => match evC O I N mb lk' st2 with
            | some (y, st3) => some (y, st3.h)
            | none => none
          | _ => none) = some (y2, h2') ∧ ((y2 = .normal ∧ k < m ∧ h2' = hs (k + 1)) ∨ (k = m ∧ y2 = y1 ∧ y1 ≠ .normal ∧ h2' = hh1)) := by
      by_cases hlt : k < m
      · exact ⟨_, _, ek k ms hlt hms, .inl ⟨rfl, hlt, rfl⟩⟩
      · have : k = m := by omega
        subst this
        rcases ee with ⟨a, _, _⟩ | ⟨_, b, c⟩
        · omega
        · exact ⟨_, _, c ms hms, .inr ⟨rfl, rfl, b, rfl⟩⟩
    obtain ⟨y2, h2', hev, hcase⟩ := hround
    split at hev
    case h_2 => cases hev
    rename_i st2 hea
    split at hev
    case h_2 => cases hev
    rename_i y3 st3 heb
    simp only [Option.some.injEq, Prod.mk.injEq] at hev
    obtain ⟨rfl, rfl⟩ := hev
    have hy := run_yield (P := P) (args := (ms.map concV).toArray) hrl (by
      rw [(hrec _ _).2.2.2.2.1]
      have := List.all_eq_true.1 hlen ms (List.mem_of_getElem? hms)
      simpa using this)
    rw [(hrec _ _).2.2.1, (hrec _ _).2.2.2.1, (hrec _ _).2.2.2.2.1, (hrec _ _).2.2.2.2.2.1, (hrec _ _).2.2.2.2.2.2] at hy
    refine ⟨fn, _, ca, cb, hy, roundIn_of_wpIn trivial ?_⟩
    clear hy
    have hR0 : Rel (some l) B E1 ⟨st.s, hs k⟩ ⟨a.tmps, []⟩ W := ⟨Slots.defers (ds := a.defers) (hR.slots.ext hR.heap hx1), hr1, hmk1.1, rfl, _, hrl⟩
    obtain ⟨E2, hR2, hx2, hsub⟩ := head_ok hR0 hx1 (fun id hk => hR.heap.klt id hk) hR.heap.top keep
    have hTn2 : ∀ id, E2.K id → 0 < E2.cp id → ¬ T (E2.ρ id) := fun id hk hc => by
      obtain ⟨b1, b2, b3⟩ := hsub id hk
      rw [b2]; exact hTn id b1 (b3 ▸ hc)
    -- 'head_ok' says nothing of how the state goes on from E1: so it is taken from E
    have hcx2 : Vs E2 W ms (ms.map concV) := ⟨by simp, fun i c v hc hv => by
      rw [List.getElem?_map, hc] at hv
      cases hv
      exact V.conc (hcl ms (List.mem_of_getElem? hms) c (List.mem_of_getElem? hc))⟩
    have htm : (ps.zip (ms.map concV).toArray).foldl (fun (tmps : Array Value) (x : Tmp × Value) => tmps.setIfInBounds x.1 x.2) a.tmps = (ps.toList.zip (ms.map concV)).foldl (fun t p => t.setIfInBounds p.1 p.2) a.tmps := by
      rw [← Array.foldl_toList, Array.toList_zip]
    have hRa : Rel (some l) B E2 ⟨putAll (headM keep st.h.length ⟨st.s, hs k⟩).s ps.toList ms, (headM keep st.h.length ⟨st.s, hs k⟩).h⟩ ⟨(ps.zip (ms.map concV).toArray).foldl (fun (tmps : Array Value) (x : Tmp × Value) => tmps.setIfInBounds x.1 x.2) a.tmps, []⟩ W := by
      rw [htm]
      exact ⟨putAll_slots hR2.slots hcx2, hR2.heap, hR2.mok⟩
    refine h1 lk' _ st2 .normal hea (some l) B 0 E2 _ W _ hRa fun a3 W3 E3 hR3 hx3 => ?_
    have hl3 : W3.heap[l]? = some (.loop (rec .ready none)) := noCells_ext hR2.heap hx3 hrl rfl
    refine ⟨_, run_beginRound hl3 (hrec _ _).1, ?_⟩
    rw [hupd2]
    have hck3 : CK w.heap.size W3 (W3.putObj l (.loop (rec .busy none))) := ck_putLoop _ hl3 hl0
    have hR4 : Rel (some l) B E3 st2 a3 (W3.putObj l (.loop (rec .busy none))) := ⟨hR3.slots.ck hck3, hR3.heap.ck hck3, hR3.mok.putLoop hl3⟩
    have hl4 : (W3.putObj l (.loop (rec .busy none))).heap[l]? = some (.loop (rec .busy none)) := World.putObj_heap_same (Array.getElem?_eq_some_iff.1 hl3).1
    refine h2 lk' st2 st3 y3 heb (some l) B 0 E3 a3 _ _ hR4 fun a5 W5 E5 hR5 hx5 => ?_
    have hl5 : W5.heap[l]? = some (.loop (rec .busy none)) := noCells_ext hR4.heap hx5 hl4 rfl
    -- the way back to the state ahead of the loop
    have hxw3 : Ext lk' E w E3 W3 := hx2.trans hx3
    have hxw4 : Ext lk' E w E3 (W3.putObj l (.loop (rec .busy none))) := hxw3.ck hck3
    have hxw5 : Ext lk' E w E5 W5 := hxw4.trans hx5
    have hmk3 : MkOk r B a1 W3 := hmk1.ext hR2.heap hx3 rfl
    have hmk5 : MkOk r B a1 W5 := (hmk3.putLoop hl3).ext hR4.heap hx5 rfl
    obtain ⟨hT3, hTn3⟩ := sameT_ext hx3 hTlt hTn2
    have hTlt4 : ∀ b, T b → b < (W3.putObj l (.loop (rec .busy none))).heap.size := fun b hb => Nat.lt_of_lt_of_le (hTlt b hb) (Nat.le_trans hx3.size hck3.size)
    obtain ⟨hT5, hTn5⟩ := sameT_ext hx5 hTlt4 hTn3
    have tput : ∀ (W0 : World) (rc rc' : Loop), W0.heap[l]? = some (.loop rc) → SameS T W0 (W0.putObj l (.loop rc')) := fun W0 rc rc' h0 => by
      have hg := grownBy_putObj' W0 l (.loop rc')
      exact ⟨hg.os, hg.tape, hg.output, hg.size, fun k hk => World.putObj_heap_other fun e => hTl (e ▸ hk)⟩
    have hSame : ∀ rc', SameS T W (W5.putObj l (.loop rc')) := fun rc' => ((hT3.trans (tput W3 _ _ hl3)).trans hT5).trans (tput W5 _ _ hl5)
    have fin : ∀ (jump : Option Code), (Instr.endRound l jump).run P W5 = .ok (.bool jump.isNone) (W5.putObj l (.loop (rec (if jump.isNone then .ready else .done) jump))) ∧ AtRec T l (rec (if jump.isNone then .ready else .done) jump) lk' r B E w a1 st3.h (W5.putObj l (.loop (rec (if jump.isNone then .ready else .done) jump))) := fun jump => by
      have := run_endRound (P := P) jump hl5
      rw [hupd] at this
      have hat5 : AtRec T l (rec .busy none) lk' r B E w a1 st3.h W5 := ⟨hl5, hTl, E5, hR5.heap, hxw5, hmk5, hTn5⟩
      exact ⟨this, hat5.put hl0 _⟩
    have hSlt : ∀ q, S q → q < w.heap.size := fun q hq => by
      rcases hS' q hq with h | ⟨id, _, h2, h3, rfl⟩
      · exact hR.heap.slt q h
      · exact hR.heap.lt h2 h3
    have sput : ∀ (W0 : World) (rc rc' : Loop), W0.heap[l]? = some (.loop rc) → SameS S W0 (W0.putObj l (.loop rc')) := fun W0 rc rc' h0 =>
      SameS.putObj hSlt W0 l _ _ hl0 h0 rfl rfl
    have hSameS : ∀ rc', SameS S W (W5.putObj l (.loop rc')) := fun rc' => (((sameS_ext hR.heap hR2.heap hx2 hx3 hS').trans (sput W3 _ _ hl3)).trans (sameS_ext hR.heap hR4.heap hxw4 hx5 hS')).trans (sput W5 _ _ hl5)
    rcases hcase with ⟨rfl, hlt, e2⟩ | ⟨rfl, rfl, hne, e2⟩
    · obtain ⟨f1, f2⟩ := fin none
      exact ⟨_, _, f1, .inl ⟨rfl, by omega, by rw [← e2]; exact f2⟩, hSameS _, hSame _⟩
    · have hj : y3 ≠ .normal := hne
      have noT : ∀ {rc hh W0}, AtRec T l rc lk' r B E w a1 hh W0 → AtRec (fun _ => False) l rc lk' r B E w a1 hh W0 := fun h => h.below (Below.refl _ _) fun b h => h.elim
      cases y3 with
      | normal => exact absurd rfl hj
      | exit id =>
        obtain ⟨f1, f2⟩ := fin (some (.exit id))
        exact ⟨_, _, f1, .inr ⟨rfl, hne, by rw [hcj, ← e2]; exact noT f2⟩, hSameS _, hSame _⟩
      | ret =>
        obtain ⟨f1, f2⟩ := fin (some .ret)
        exact ⟨_, _, f1, .inr ⟨rfl, hne, by rw [hcj, ← e2]; exact noT f2⟩, hSameS _, hSame _⟩
end

end Go.Proofs.Ytgjpdjihjphbdaa
