/- What the small language computes is what the program computes: comparisons, places. -/
import Derived.Test.YtgjpdjihjphbdaaLS
import Derived.Deep.Upon
/- What the small language computes is what the program computes: comparisons, places. -/
namespace Go.Proofs.Ytgjpdjihjphbdaa
open Go.RowKit

section
variable {P : Program} {w : World} {E : Env} {o : Oper} {a : Act} {s : List MV} {h : MHeap}

theorem run_binI {op : BinOp} {k : IntKind} {x y : Int} {v : Value} (t : TypeId) (he : binI op k x y = some v) : (binOp op t (.int k x) (.int k y)).run P w = .ok v w := by
  cases op <;> simp [binI] at he <;> first
    | (subst he; simp [binOp, Op.intArith, Op.intCmp]; done)
    | (obtain ⟨h0, rfl⟩ := he; simp [binOp, Op.intDiv, h0])

theorem run_eqGuard_int {op : BinOp} {t : TypeId} {x y : Operand} {k k' : IntKind} {u v : Int} : (eqGuard op t x y (.int k u) (.int k' v)).run P w = .ok () w := by
  cases op <;> simp [eqGuard]

theorem pure_bin {op : BinOp} {t yt : TypeId} {x y : Operand} {x' y' : MX} {v : MV} {h' : MHeap} {lk : Nat → Bool} {O : Oracle} (ho : o.op = .binOp op t x y yt) (hx : cX x = some x') (hy : cX y = some y') (hs : Slots E w s a)
    (he : evO lk O s h (.bin op x' y') = some (v, h')) : h' = h ∧ Pure P o a w E v := by
  have h1 := hs.x hx
  have h2 := hs.x hy
  simp only [evO] at he
  split at he
  case h_2 => cases he
  rename_i k u k' u' e1 e2
  split at he
  case isFalse => cases he
  rename_i hk
  subst hk
  rw [Option.map_eq_some_iff] at he
  obtain ⟨c, hc, he⟩ := he
  simp only [Prod.mk.injEq] at he
  obtain ⟨rfl, rfl⟩ := he
  rw [e1] at h1
  rw [e2] at h2
  exact ⟨rfl, c, by simp [execOp, ho, h1.lit_eq, h2.lit_eq, run_eqGuard_int, run_binI t hc], .lit _⟩

theorem run_beq {t : TypeId} {x y : Operand} {neg : Bool} {u v : Bool} (ht : P.underlying t = some .bool) : ((do eqGuard (if neg then .neq else .eql) t x y (.bool u) (.bool v); binOp (if neg then .neq else .eql) t (.bool u) (.bool v)) : Sem Value).run P w = .ok (.bool (negIf neg (u == v))) w := by
  cases neg <;> simp [eqGuard, binOp, Op.equal, Op.maxDepth, run_equalIn_bool' w 9999 t u v ht, negIf]

theorem pure_beq {neg : Bool} {t yt : TypeId} {x y : Operand} {x' y' : MX} {v : MV} {h' : MHeap} {lk : Nat → Bool} {O : Oracle} (ho : o.op = .binOp (if neg then .neq else .eql) t x y yt) (ht : P.underlying t = some .bool) (hx : cX x = some x') (hy : cX y = some y') (hs : Slots E w s a)
    (he : evO lk O s h (.beq neg x' y') = some (v, h')) : h' = h ∧ Pure P o a w E v := by
  have h1 := hs.x hx
  have h2 := hs.x hy
  simp only [evO] at he
  split at he
  case h_2 => cases he
  rename_i u u' e1 e2
  simp only [Option.some.injEq, Prod.mk.injEq] at he
  obtain ⟨rfl, rfl⟩ := he
  rw [e1] at h1
  rw [e2] at h2
  refine ⟨rfl, _, ?_, .lit _⟩
  have := run_beq (P := P) (w := w) (x := x) (y := y) (neg := neg) (u := u) (v := u') ht
  simp only [execOp, ho, h1.lit_eq, h2.lit_eq]
  rw [Sem.run_bind, this]
  rfl

theorem run_seq {t : TypeId} {x y : Operand} {neg : Bool} {u v : ByteArray} : ((do eqGuard (if neg then .neq else .eql) t x y (.string u) (.string v); binOp (if neg then .neq else .eql) t (.string u) (.string v)) : Sem Value).run P w = .ok (.bool (negIf neg (u == v))) w := by
  cases neg
  · simp [eqGuard, binOp, Op.stringOp, negIf, (beq_toListBytes u v).symm]
  · simp [eqGuard, binOp, Op.stringOp, negIf, (beq_toListBytes u v).symm]

theorem pure_seq {neg : Bool} {t yt : TypeId} {x y : Operand} {x' y' : MX} {v : MV} {h' : MHeap} {lk : Nat → Bool} {O : Oracle} (ho : o.op = .binOp (if neg then .neq else .eql) t x y yt) (hx : cX x = some x') (hy : cX y = some y') (hs : Slots E w s a)
    (he : evO lk O s h (.seq neg x' y') = some (v, h')) : h' = h ∧ Pure P o a w E v := by
  have h1 := hs.x hx
  have h2 := hs.x hy
  simp only [evO] at he
  split at he
  case h_2 => cases he
  rename_i u u' e1 e2
  simp only [Option.some.injEq, Prod.mk.injEq] at he
  obtain ⟨rfl, rfl⟩ := he
  rw [e1] at h1
  rw [e2] at h2
  refine ⟨rfl, _, ?_, .lit _⟩
  have := run_seq (P := P) (w := w) (t := t) (x := x) (y := y) (neg := neg) (u := u) (v := u')
  simp only [execOp, ho, h1.lit_eq, h2.lit_eq]
  rw [Sem.run_bind, this]
  rfl

theorem run_eqFields {d : Nat} {xs ys : Array Value} : ∀ {fs : List Field} {i : Nat} {ps qs : List MV} {b : Bool}, intFields P i fs = true → ps.length = fs.length → litEq ps qs = some b → Vs E w ps (xs.toList.drop i) → Vs E w qs (ys.toList.drop i) →
    (Op.eqFields (d + 1) xs ys fs).run P w = .ok b w
  | [], i, ps, qs, b, _, hl, he, _, _ => by
    have : ps = [] := by simpa using hl
    subst this
    cases qs with
    | nil => simp [litEq] at he; subst he; simp [Op.eqFields]
    | cons q qs => simp [litEq] at he
  | f :: fs, i, ps, qs, b, hf, hl, he, hp, hq => by
    cases ps with
    | nil => simp at hl
    | cons p ps =>
      simp only [intFields, Bool.and_eq_true, beq_iff_eq, bne_iff_ne] at hf
      obtain ⟨⟨⟨f1, f2⟩, f3⟩, f4⟩ := hf
      cases qs with
      | nil => cases p <;> simp [litEq] at he
      | cons q qs =>
        unfold litEq at he
        split at he <;> try (cases he; done)
        · rename_i e _; cases e
        rename_i k u ps' k' v qs' e1 e2
        simp only [List.cons.injEq] at e1 e2
        obtain ⟨rfl, rfl⟩ := e1
        obtain ⟨rfl, rfl⟩ := e2
        split at he
        case isFalse => cases he
        rename_i hk
        subst hk
        rw [Option.map_eq_some_iff] at he
        obtain ⟨r, hr, rfl⟩ := he
        have hxl : 0 < (xs.toList.drop i).length := by rw [← hp.1]; simp
        have hyl : 0 < (ys.toList.drop i).length := by rw [← hq.1]; simp
        have hx0 := (hp.2 0 _ _ rfl (List.getElem?_eq_getElem hxl)).lit_eq
        have hy0 := (hq.2 0 _ _ rfl (List.getElem?_eq_getElem hyl)).lit_eq
        rw [List.getElem_drop] at hx0 hy0
        simp only [Nat.add_zero, Array.getElem_toList] at hx0 hy0
        have hxi : i < xs.size := by simp at hxl; omega
        have hyi : i < ys.size := by simp at hyl; omega
        have gx : xs[i]? = some (.int k u) := by rw [Array.getElem?_eq_getElem hxi, hx0]
        have gy : ys[i]? = some (.int k v) := by rw [Array.getElem?_eq_getElem hyi, hy0]
        have hu : ∃ kk, P.underlying f.type = some (.int kk) := by
          split at f3
          · rename_i kk hh; exact ⟨kk, hh⟩
          · cases f3
        obtain ⟨kk, hu⟩ := hu
        have hag : (isAgg f.type).run P w = .ok false w := run_isAgg hu rfl w
        have tl : ∀ {l : List Value} {ms : List MV} {m : MV}, Vs E w (m :: ms) (l.drop i) → Vs E w ms (l.drop (i + 1)) := fun {l ms m} hv =>
          ⟨by have := hv.1; simp at this ⊢; omega, fun j c x hc hx => hv.2 (j + 1) c x (by simpa using hc) (by rw [List.getElem?_drop] at hx ⊢; rw [← hx]; congr 1; omega)⟩
        have ih := run_eqFields (d := d) f4 (by simpa using hl) hr (tl hp) (tl hq)
        have hne : ¬ f.name = "_" := f2
        simp only [Op.eqFields, hne, not_false_eq_true, if_true, ne_eq]
        simp [part, f1, hag, gx, gy, run_equalIn_int w d f.type k kk u v hu]
        by_cases huv : u = v
        · subst huv; simp [ih]
        · simp [huv]

theorem pure_eqa {neg : Bool} {t yt : TypeId} {fs : Array Field} {x y : Operand} {x' y' : MX} {v : MV} {h' : MHeap} {lk : Nat → Bool} {O : Oracle} (ho : o.op = .binOp (if neg then .neq else .eql) t x y yt) (ht : P.underlying t = some (.struct fs)) (hf : intFields P 0 fs.toList = true)
    (hst : P.stoodInHeld t = false) (hg : P.eqGuardType P.depth t = false) (hx : cX x = some x') (hy : cX y = some y') (hs : Slots E w s a)
    (he : evO lk O s h (.eqa fs.size neg x' y') = some (v, h')) : h' = h ∧ Pure P o a w E v := by
  have h1 := hs.x hx
  have h2 := hs.x hy
  simp only [evO] at he
  split at he
  case h_2 => cases he
  rename_i ps qs e1 e2
  split at he
  case isFalse => cases he
  rename_i hl
  rw [Option.map_eq_some_iff] at he
  obtain ⟨b, hb, he⟩ := he
  simp only [Prod.mk.injEq] at he
  obtain ⟨rfl, rfl⟩ := he
  rw [e1] at h1
  rw [e2] at h2
  generalize hxv : a.eval x = xv at h1
  generalize hyv : a.eval y = yv at h2
  cases h1 with
  | agg _ us hul huv =>
    cases h2 with
    | agg _ vs hvl hvv =>
      have hfo : P.fieldsOf t = fs := by simp [Program.fieldsOf, ht]
      have hrun := run_eqFields (P := P) (E := E) (w := w) (d := 9998) (xs := us.toArray) (ys := vs.toArray) hf (by simpa using hl.1) hb ⟨by simpa using hul, by simpa using huv⟩ ⟨by simpa using hvl, by simpa using hvv⟩
      have h3 := run_equalIn_struct (P := P) w 9999 t us.toArray vs.toArray (by rw [hfo]; exact ht) hst
      rw [hfo] at h3
      have h4 : (Op.equalIn 10000 t (.agg us.toArray) (.agg vs.toArray)).run P w = .ok b w := h3.trans hrun
      refine ⟨rfl, .bool (negIf neg b), ?_, .lit _⟩
      cases neg
      · simp [execOp, ho, hxv, hyv, run_eqGuard_agg w .eql t x y us.toArray vs.toArray hg, run_eql_struct w t us.toArray vs.toArray, h4, negIf]
      · simp [execOp, ho, hxv, hyv, run_eqGuard_agg w .neq t x y us.toArray vs.toArray hg, run_neq_struct w t us.toArray vs.toArray, h4, negIf]

theorem pure_eqn {neg : Bool} {t yt e : TypeId} {x y : Operand} {x' : MX} {v : MV} {h' : MHeap} {lk : Nat → Bool} {O : Oracle} (ho : o.op = .binOp (if neg then .neq else .eql) t x y yt) (ht : P.underlying t = some (.slice e)) (hx : cX x = some x') (hy : isNilSlice y = true) (hs : Slots E w s a) (hr : HRel E h w)
    (he : evO lk O s h (.eqn neg x') = some (v, h')) : h' = h ∧ Pure P o a w E v := by
  have h1 := hs.x hx
  have hy' : y = .const (.slice none 0 0) := by
    unfold isNilSlice at hy
    split at hy
    · rfl
    · cases hy
  subst hy'
  have key : ∀ {A : Option Addr} {n c : Nat}, a.eval x = .slice A n c → Pure P o a w E (.lit (.bool (negIf neg A.isNone))) := by
    intro A n c hxv
    refine ⟨_, ?_, .lit _⟩
    have hcv : a.eval (.const (.slice none 0 0)) = .slice none 0 0 := rfl
    cases neg
    · simp [execOp, ho, hxv, hcv, eqGuard, binOp, Op.equal, Op.maxDepth, run_equalIn_slice_nil w 9999 t e A n c ht, negIf]
    · simp [execOp, ho, hxv, hcv, eqGuard, binOp, Op.equal, Op.maxDepth, run_equalIn_slice_nil w 9999 t e A n c ht, negIf]
  simp only [evO] at he
  split at he
  · rename_i id i n g hb
    rw [hb] at h1
    generalize hxv : a.eval x = xv at h1
    cases h1 with
    | arr _ _ _ _ A cap hk hg hd =>
      split at he
      case h_2 => cases he
      rename_i ob hob
      split at he
      case isFalse => cases he
      rename_i hog
      simp only [Option.some.injEq, Prod.mk.injEq] at he
      obtain ⟨rfl, rfl⟩ := he
      obtain ⟨es, a1, a2, a3, a4, a5⟩ := hr.obj id hk
      rw [hob] at a1
      simp only [Option.some.injEq] at a1
      subst a1
      dsimp only at hog ⊢
      obtain ⟨d1, d2, d3, d4, d5⟩ := hd hog.1
      have : E.nl id = A.isNone := by
        cases hnl : E.nl id
        · have := d4 hnl; cases A <;> simp_all
        · obtain ⟨rfl, -⟩ := d3 hnl; rfl
      rw [this]
      exact ⟨rfl, key hxv⟩
  · rename_i A n c hb
    rw [hb] at h1
    simp only [Option.some.injEq, Prod.mk.injEq] at he
    obtain ⟨rfl, rfl⟩ := he
    exact ⟨rfl, key h1.lit_eq⟩
  · rename_i e0 es hb
    rw [hb] at h1
    simp only [Option.some.injEq, Prod.mk.injEq] at he
    obtain ⟨rfl, rfl⟩ := he
    generalize hxv : a.eval x = xv at h1
    cases h1 with
    | sl _ vs A cap sz hc hsz hl hv hA =>
      obtain ⟨b, off, rfl, -⟩ := hA (by simp)
      have := key hxv
      refine ⟨rfl, ?_⟩
      simpa [negIf] using this
  · cases he
end

end Go.Proofs.Ytgjpdjihjphbdaa

/- What the small language computes is what the program computes: places, cuts, append. -/
namespace Go.Proofs.Ytgjpdjihjphbdaa
open Go.RowKit

section
variable {P : Program} {w : World} {E : Env} {o : Oper} {a : Act} {s : List MV} {h : MHeap}

/-- Pointers moved within their element. -/
theorem V.moved {m : MV} {v : Value} (hv : V E w m v) {m' : MV} {d : Nat} (hm : (∃ id i off g, m = .ptr id i off g ∧ m' = .ptr id i (off + d) g) ∨ ∃ e off, m = .rp e off ∧ m' = .rp e (off + d)) :
    ∃ b o, v = .pointer (some ⟨b, o, none⟩) ∧ V E w m' (.pointer (some ⟨b, o + d, none⟩)) := by
  rcases hm with ⟨id, i, off, g, rfl, rfl⟩ | ⟨e, off, rfl, rfl⟩
  · cases hv with
    | ptr _ _ _ _ b o' hk hg hd =>
      refine ⟨b, o', rfl, .ptr _ _ _ _ _ _ hk hg fun e => ?_⟩
      obtain ⟨h1, h2, h3⟩ := hd e
      exact ⟨h1, by omega, h3⟩
  · cases hv with
    | rp _ _ vs b o' hl hc hS hcell =>
      refine ⟨b, o' + off, rfl, ?_⟩
      rw [Nat.add_assoc]
      exact .rp _ _ vs b o' hl hc hS hcell

theorem pure_fa {t : TypeId} {fs : Array Field} {f : Nat} {fd : Field} {n : Nat} {x : Operand} {x' : MX} {v : MV} {h' : MHeap} {lk : Nat → Bool} {O : Oracle} (ho : o.op = .fieldAddr t x f) (ht : P.underlying t = some (.struct fs)) (hf : fs[f]? = some fd) (hn : tsz P fd.type = some n) (hpos : 0 < n) (hx : cX x = some x')
    (hs : Slots E w s a) (he : evO lk O s h (.fa fd.offset x') = some (v, h')) : h' = h ∧ Pure P o a w E v := by
  have h1 := hs.x hx
  obtain ⟨inf, hinf, hsz⟩ : ∃ inf, P.info? fd.type = some inf ∧ inf.size = n := by unfold tsz at hn; rwa [Option.map_eq_some_iff] at hn
  have key : ∀ {b o' : Nat}, a.eval x = .pointer (some ⟨b, o', none⟩) → (execOp a.eval o).run P w = .ok (.value (.pointer (some ⟨b, o' + fd.offset, none⟩))) w := by
    intro b o' hxv
    have hne : ¬ inf.size = 0 := by omega
    simp [execOp, ho, hxv, Instr.fieldAt, run_underlying ht, hf, Instr.sureAddr, fieldPlace, sizeOf, typeInfo, hinf, hne, Addr.add_none]
  simp only [evO] at he
  split at he
  · rename_i id i off g hb
    simp only [Option.some.injEq, Prod.mk.injEq] at he
    obtain ⟨rfl, rfl⟩ := he
    rw [hb] at h1
    obtain ⟨b, o', e1, e2⟩ := h1.moved (d := fd.offset) (.inl ⟨_, _, _, _, rfl, rfl⟩)
    exact ⟨rfl, _, key e1, e2⟩
  · rename_i e off hb
    simp only [Option.some.injEq, Prod.mk.injEq] at he
    obtain ⟨rfl, rfl⟩ := he
    rw [hb] at h1
    obtain ⟨b, o', e1, e2⟩ := h1.moved (d := fd.offset) (.inr ⟨_, _, rfl, rfl⟩)
    exact ⟨rfl, _, key e1, e2⟩
  · cases he

theorem pure_iaa {t e : TypeId} {len sz : Nat} {x y : Operand} {x' y' : MX} {v : MV} {h' : MHeap} {lk : Nat → Bool} {O : Oracle} (ho : o.op = .indexAddr t x y) (ht : P.underlying t = some (.array len e)) (hn : tsz P e = some sz) (hx : cX x = some x') (hy : cX y = some y')
    (hs : Slots E w s a) (he : evO lk O s h (.iaa sz len x' y') = some (v, h')) : h' = h ∧ Pure P o a w E v := by
  have h1 := hs.x hx
  have h2 := hs.x hy
  obtain ⟨inf, hinf, hsz⟩ : ∃ inf, P.info? e = some inf ∧ inf.size = sz := by unfold tsz at hn; rwa [Option.map_eq_some_iff] at hn
  simp only [evO] at he
  have hint : ∀ {k : Int}, intOf? (y'.get s) = some k → ∃ kk, a.eval y = .int kk k := by
    intro k hk
    unfold intOf? at hk
    split at hk
    · rename_i kk n hb
      cases hk
      rw [hb] at h2
      exact ⟨kk, h2.lit_eq⟩
    · cases hk
  have key : ∀ {b o' : Nat} {k : Int}, a.eval x = .pointer (some ⟨b, o', none⟩) → intOf? (y'.get s) = some k → 0 ≤ k ∧ k < len → (execOp a.eval o).run P w = .ok (.value (.pointer (some ⟨b, o' + k.toNat * sz, none⟩))) w := by
    intro b o' k hxv hk hb
    obtain ⟨kk, hyv⟩ := hint hk
    simp [execOp, ho, hxv, hyv, Instr.indexAt, asIntOf, run_underlying ht, Instr.sureAddr, hb, sizeOf, typeInfo, hinf, hsz, Addr.add_none]
  split at he
  · rename_i id j o' g k hb hk
    split at he
    case isFalse => cases he
    rename_i hlt
    simp only [Option.some.injEq, Prod.mk.injEq] at he
    obtain ⟨rfl, rfl⟩ := he
    rw [hb] at h1
    obtain ⟨b, o', e1, e2⟩ := h1.moved (d := k.toNat * sz) (.inl ⟨_, _, _, _, rfl, rfl⟩)
    exact ⟨rfl, _, key e1 hk hlt, e2⟩
  · rename_i e o' k hb hk
    split at he
    case isFalse => cases he
    rename_i hlt
    simp only [Option.some.injEq, Prod.mk.injEq] at he
    obtain ⟨rfl, rfl⟩ := he
    rw [hb] at h1
    obtain ⟨b, o', e1, e2⟩ := h1.moved (d := k.toNat * sz) (.inr ⟨_, _, rfl, rfl⟩)
    exact ⟨rfl, _, key e1 hk hlt, e2⟩
  · cases he

theorem mheap_ok (hr : HRel E h w) {id g sz : Nat} (hk : E.K id) (hok : MHeap.ok h id g sz = true) : E.gn id = g ∧ E.sz id = sz := by
  unfold MHeap.ok at hok
  obtain ⟨es, a1, -⟩ := hr.obj id hk
  rw [a1] at hok
  simpa using hok

theorem pure_ia {t e : TypeId} {sz : Nat} {x y : Operand} {x' y' : MX} {v : MV} {h' : MHeap} {lk : Nat → Bool} {O : Oracle} (ho : o.op = .indexAddr t x y) (ht : P.underlying t = some (.slice e)) (hn : tsz P e = some sz) (hx : cX x = some x') (hy : cX y = some y')
    (hs : Slots E w s a) (hr : HRel E h w) (he : evO lk O s h (.ia sz x' y') = some (v, h')) : h' = h ∧ Pure P o a w E v := by
  have h1 := hs.x hx
  have h2 := hs.x hy
  obtain ⟨inf, hinf, hsz⟩ : ∃ inf, P.info? e = some inf ∧ inf.size = sz := by unfold tsz at hn; rwa [Option.map_eq_some_iff] at hn
  simp only [evO] at he
  have hint : ∀ {k : Int}, intOf? (y'.get s) = some k → ∃ kk, a.eval y = .int kk k := by
    intro k hk
    unfold intOf? at hk
    split at hk
    · rename_i kk n hb
      cases hk
      rw [hb] at h2
      exact ⟨kk, h2.lit_eq⟩
    · cases hk
  have key : ∀ {b o' n c : Nat} {k : Int}, a.eval x = .slice (some ⟨b, o', none⟩) n c → intOf? (y'.get s) = some k → 0 ≤ k ∧ k < n → (execOp a.eval o).run P w = .ok (.value (.pointer (some ⟨b, o' + k.toNat * sz, none⟩))) w := by
    intro b o' n c k hxv hk hb
    obtain ⟨kk, hyv⟩ := hint hk
    simp [execOp, ho, hxv, hyv, Instr.indexAt, asIntOf, run_underlying ht, hb, sizeOf, typeInfo, hinf, hsz, Addr.add_none]
  split at he
  · rename_i es k hb hk
    split at he
    case isFalse => cases he
    rename_i h0
    obtain ⟨el, hel, he⟩ := Option.bind_eq_some_iff.1 he
    split at he
    case isFalse => cases he
    rename_i hcl
    simp only [Option.some.injEq, Prod.mk.injEq] at he
    obtain ⟨rfl, rfl⟩ := he
    rw [hb] at h1
    generalize hxv : a.eval x = xv at h1
    have hkl := (List.getElem?_eq_some_iff.1 hel).1
    cases h1 with
    | sl _ vs A cap sz' hc hsz' hl hv hA =>
      obtain ⟨b, off, rfl, hS, hcell⟩ := hA (by omega)
      obtain rfl : sz' = sz := by rw [← hsz' el (List.mem_of_getElem? hel)]; exact hcl
      have hvl : vs.length = es.length * sz' := by rw [← hl, flat_len hsz']
      have hfit : k.toNat * sz' + sz' ≤ vs.length := by rw [hvl, ← Nat.succ_mul]; exact Nat.mul_le_mul_right _ hkl
      refine ⟨rfl, _, key hxv hk ⟨h0, by omega⟩, ?_⟩
      have := V.rp (E := E) (w := w) el 0 ((vs.drop (k.toNat * sz')).take sz') b (off + k.toNat * sz') (by simp; omega) (fun i c u hci hu => by
        have hil : i < sz' := by have := (List.getElem?_eq_some_iff.1 hci).1; omega
        rw [List.getElem?_take, if_pos hil, List.getElem?_drop] at hu
        exact hv _ c u ((flat_iff hsz').2 ⟨k.toNat, i, el, rfl, hil, hel, hci⟩) hu) hS (fun i u hu => by
        rw [List.getElem?_take] at hu
        split at hu
        · rw [List.getElem?_drop] at hu
          rw [Nat.add_assoc]
          exact hcell _ u hu
        · cases hu)
      simpa using this
  · rename_i id j n g k hb hk
    split at he
    case isFalse => cases he
    rename_i hlt
    obtain ⟨l1, l2, l3⟩ := hlt
    simp only [Option.some.injEq, Prod.mk.injEq] at he
    obtain ⟨rfl, rfl⟩ := he
    rw [hb] at h1
    generalize hxv : a.eval x = xv at h1
    cases h1 with
    | arr _ _ _ _ A cap hkk hg hd =>
      obtain ⟨c1, c2⟩ := mheap_ok hr hkk l3
      obtain ⟨d1, d2, d3, d4, d5⟩ := hd c1
      obtain ⟨rfl, d6⟩ := d5 (by omega)
      refine ⟨rfl, _, key hxv hk ⟨l1, l2⟩, .ptr _ _ _ _ _ _ hkk hg fun _ => ⟨rfl, ?_, by omega⟩⟩
      rw [c2, ← Nat.add_assoc, Nat.add_mul (E.bo id + j)]; omega
  · cases he

theorem pure_fd {t : TypeId} {fs : Array Field} {f : Nat} {fd : Field} {ag : Option Nat} {x : Operand} {x' : MX} {v : MV} {h' : MHeap} {lk : Nat → Bool} {O : Oracle} (ho : o.op = .field t x f) (ht : P.underlying t = some (.struct fs)) (hf : fs[f]? = some fd) (hn : tagg P fd.type = some ag) (hx : cX x = some x')
    (hs : Slots E w s a) (he : evO lk O s h (.fd fd.offset ag x') = some (v, h')) : h' = h ∧ Pure P o a w E v := by
  have h1 := hs.x hx
  simp only [evO] at he
  split at he
  case h_2 => cases he
  rename_i cs hb
  rw [Option.map_eq_some_iff] at he
  obtain ⟨m, hm, he⟩ := he
  simp only [Prod.mk.injEq] at he
  obtain ⟨rfl, rfl⟩ := he
  rw [hb] at h1
  generalize hxv : a.eval x = xv at h1
  cases h1 with
  | agg _ vs hl hv =>
    refine ⟨rfl, ?_⟩
    cases ag with
    | none =>
      obtain ⟨d, d1, d2⟩ := tagg_none hn
      simp only [rdCells] at hm
      have hlt := (List.getElem?_eq_some_iff.1 hm).1
      rw [hl] at hlt
      have hx : vs[fd.offset]? = some vs[fd.offset] := by simp
      refine ⟨vs[fd.offset], ?_, hv _ m _ hm hx⟩
      simp [execOp, ho, hxv, Instr.field, run_underlying ht, hf, asAgg, part, run_isAgg d1 d2, hlt]
    | some n =>
      obtain ⟨⟨d, d1, d2⟩, i, hi, hsz⟩ := tagg_some hn
      simp only [rdCells] at hm
      split at hm
      case isFalse => cases hm
      rename_i hle
      cases hm
      refine ⟨.agg ((vs.drop fd.offset).take n).toArray, ?_, .agg _ _ (by simp; omega) fun j c u hj hu => ?_⟩
      · simp [execOp, ho, hxv, Instr.field, run_underlying ht, hf, asAgg, part, run_isAgg d1 d2, sizeOf, typeInfo, hi, hsz]
      · rw [List.getElem?_take] at hj hu
        split at hj
        · rename_i hlt
          rw [if_pos hlt] at hu
          rw [List.getElem?_drop] at hj hu
          exact hv _ c u hj hu
        · cases hj

theorem pure_ix {t e : TypeId} {len sz : Nat} {ag : Option Nat} {x i : Operand} {x' i' : MX} {v : MV} {h' : MHeap} {lk : Nat → Bool} {O : Oracle} (ho : o.op = .index t x i) (ht : P.underlying t = some (.array len e)) (hn : tagg P e = some ag) (hsz : tsz P e = some sz) (hx : cX x = some x') (hi : cX i = some i')
    (hs : Slots E w s a) (he : evO lk O s h (.ix ag sz len x' i') = some (v, h')) : h' = h ∧ Pure P o a w E v := by
  have h1 := hs.x hx
  have h2 := hs.x hi
  obtain ⟨inf, hinf, hsz⟩ : ∃ inf, P.info? e = some inf ∧ inf.size = sz := by unfold tsz at hsz; rwa [Option.map_eq_some_iff] at hsz
  simp only [evO] at he
  split at he
  case h_2 => cases he
  rename_i cs k hb hk
  obtain ⟨kk, hyv⟩ : ∃ kk, a.eval i = .int kk k := by
    unfold intOf? at hk
    split at hk
    · rename_i kk n hb
      cases hk
      rw [hb] at h2
      exact ⟨kk, h2.lit_eq⟩
    · cases hk
  split at he
  case isFalse => cases he
  rename_i hin
  rw [Option.map_eq_some_iff] at he
  obtain ⟨m, hm, he⟩ := he
  simp only [Prod.mk.injEq] at he
  obtain ⟨rfl, rfl⟩ := he
  rw [hb] at h1
  generalize hxv : a.eval x = xv at h1
  cases h1 with
  | agg _ vs hl hv =>
    refine ⟨rfl, ?_⟩
    cases ag with
    | none =>
      obtain ⟨d, d1, d2⟩ := tagg_none hn
      simp only [rdCells] at hm
      have hlt := (List.getElem?_eq_some_iff.1 hm).1
      rw [hl] at hlt
      have hx : vs[k.toNat * sz]? = some vs[k.toNat * sz] := by simp
      refine ⟨vs[k.toNat * sz], ?_, hv _ m _ hm hx⟩
      simp [execOp, ho, hxv, hyv, Instr.index, asIntOf, run_underlying ht, hin, part, run_isAgg d1 d2, sizeOf, typeInfo, hinf, hsz, hlt]
    | some n =>
      obtain ⟨⟨d, d1, d2⟩, i, hi, hsz'⟩ := tagg_some hn
      rw [hinf] at hi
      cases hi
      simp only [rdCells] at hm
      split at hm
      case isFalse => cases hm
      rename_i hle
      cases hm
      refine ⟨.agg ((vs.drop (k.toNat * sz)).take n).toArray, ?_, .agg _ _ (by simp; omega) fun j c u hj hu => ?_⟩
      · obtain rfl : sz = n := by omega
        simp [execOp, ho, hxv, hyv, Instr.index, asIntOf, run_underlying ht, hin, part, run_isAgg d1 d2, sizeOf, typeInfo, hinf, hsz]
      · rw [List.getElem?_take] at hj hu
        split at hj
        · rename_i hlt
          rw [if_pos hlt] at hu
          rw [List.getElem?_drop] at hj hu
          exact hv _ c u hj hu
        · cases hj
end

end Go.Proofs.Ytgjpdjihjphbdaa

/- What the small language computes is what the program computes: cuts, append. -/
namespace Go.Proofs.Ytgjpdjihjphbdaa
open Go.RowKit

section
variable {P : Program} {w : World} {E : Env} {o : Oper} {a : Act} {s : List MV} {h : MHeap}

theorem run_sliceAt {t e : TypeId} {inf : TypeInfo} (ht : P.underlying t = some (.slice e)) (hi : P.info? e = some inf) {A : Option Addr} {n cap : Nat} {lo hi' : Option Value} {l u : Nat} (hl : (lo = none ∧ l = 0) ∨ ∃ k, lo = some (.int k (l : Int)))
    (hu : (hi' = none ∧ u = n) ∨ ∃ k, hi' = some (.int k (u : Int))) (hlu : l ≤ u) (huc : u ≤ cap) :
    (Instr.sliceAt t (.slice A n cap) lo hi' none).run P w = .ok (.slice (if cap = l then A else A.map (·.add (l * inf.size))) (u - l) (cap - l)) w := by
  have hu' : (0 : Int) ≤ u ∧ (u : Int) ≤ cap := by omega
  have hl' : (0 : Int) ≤ l ∧ (l : Int) ≤ u := by omega
  rcases hl with ⟨rfl, rfl⟩ | ⟨k, rfl⟩ <;> rcases hu with ⟨rfl, rfl⟩ | ⟨k', rfl⟩ <;>
    simp [Instr.sliceAt, run_underlying ht, Instr.slice, Instr.sliceBounds, Instr.sliceBound, asIntOf, sizeOf, typeInfo, hi, hu', hl', huc, hlu]

theorem optInt {x : Option Operand} {x' : Option MX} (hx : oX x = some x') (hs : Slots E w s a) :
    (x = none ∧ (x'.map (MX.get s)).map intOf? = none) ∨ ∃ y, x = some y ∧ ∃ m, (x'.map (MX.get s)).map intOf? = some (intOf? m) ∧ V E w m (a.eval y) := by
  cases x with
  | none => simp [oX] at hx; subst hx; exact .inl ⟨rfl, rfl⟩
  | some y =>
    simp only [oX, Option.map_eq_some_iff] at hx
    obtain ⟨y', hy, rfl⟩ := hx
    exact .inr ⟨y, rfl, _, rfl, hs.x hy⟩
theorem intOf_int {m : MV} {v : Value} {n : Int} (hv : V E w m v) (hm : intOf? m = some n) : ∃ k, v = .int k n := by
  unfold intOf? at hm
  split at hm
  · rename_i k n'
    cases hm
    exact ⟨k, hv.lit_eq⟩
  · cases hm

theorem V.slcS {es : List MV} {A : Option Addr} {n cap sz : Nat} (hv : V E w (.sl es) (.slice A n cap)) {l u : Nat} (hlu : l ≤ u) (hu : u ≤ es.length) (hsz : ∀ e ∈ es, e.cells.length = sz) :
    V E w (.sl ((es.drop l).take (u - l))) (.slice (if cap = l then A else A.map (·.add (l * sz))) (u - l) (cap - l)) := by
  cases hv with
  | sl _ vs _ _ sz' hc hsz' hl hvv hA =>
    have hlen : ((es.drop l).take (u - l)).length = u - l := by simp; omega
    have hmem : ∀ e ∈ (es.drop l).take (u - l), e.cells.length = sz := fun e he => hsz e (List.mem_of_mem_drop (List.mem_of_mem_take he))
    have hvl : vs.length = es.length * sz := by rw [← hl, flat_len hsz]
    have hmul : l * sz + (u - l) * sz ≤ es.length * sz := by rw [← Nat.add_mul]; exact Nat.mul_le_mul_right _ (by omega)
    have key := V.sl (E := E) (w := w) ((es.drop l).take (u - l)) ((vs.drop (l * sz)).take ((u - l) * sz)) (if cap = l then A else A.map (·.add (l * sz))) (cap - l) sz (by rw [hlen]; omega) hmem
      (by rw [flat_len hmem, hlen]; simp; omega)
      (fun k c v hk hkv => by
        obtain ⟨i, j, e, rfl, hj, he, hcj⟩ := (flat_iff hmem).1 hk
        rw [List.getElem?_take] at he hkv
        split at he
        case isFalse => cases he
        split at hkv
        case isFalse => cases hkv
        rw [List.getElem?_drop] at he hkv
        refine hvv (l * sz + (i * sz + j)) c v ?_ hkv
        rw [flat_iff hsz]
        exact ⟨l + i, j, e, by rw [Nat.add_mul]; omega, hj, he, hcj⟩)
      (fun h0 => by
        rw [hlen] at h0
        obtain ⟨b, off, rfl, hS, hcell⟩ := hA (by omega)
        refine ⟨b, off + l * sz, ?_, hS, fun i v hi => ?_⟩
        · rw [if_neg (by omega)]; simp [Addr.add_none]
        · rw [List.getElem?_take] at hi
          split at hi
          · rw [List.getElem?_drop] at hi
            rw [Nat.add_assoc]
            exact hcell _ v hi
          · cases hi)
    rw [hlen] at key
    exact key

theorem V.slcA (hr : HRel E h w) {id i n g : Nat} {A : Option Addr} {n' cap sz : Nat} (hv : V E w (.arr id i n g) (.slice A n' cap)) {l u : Nat} (hlu : l ≤ u) (hu : u ≤ n) (hok : MHeap.ok h id g sz = true) :
    V E w (.arr id (i + l) (u - l) g) (.slice (if cap = l then A else A.map (·.add (l * sz))) (u - l) (cap - l)) := by
  cases hv with
  | arr _ _ _ _ _ _ hk hg hd =>
    obtain ⟨c1, c2⟩ := mheap_ok hr hk hok
    obtain ⟨d1, d2, d3, d4, d5⟩ := hd c1
    refine .arr _ _ _ _ _ _ hk hg fun _ => ⟨by omega, by omega, fun hn => ?_, fun hn => ?_, fun h0 => ?_⟩
    · obtain ⟨rfl, rfl⟩ := d3 hn
      simp
    · have := d4 hn
      split
      · exact this
      · simpa using this
    · obtain ⟨rfl, d6⟩ := d5 (by omega)
      rw [if_neg (by omega)]
      refine ⟨?_, by omega⟩
      simp only [Option.map_some, Addr.add_none, Option.some.injEq, Addr.mk.injEq, and_true, true_and]
      rw [c2, ← Nat.add_assoc, Nat.add_mul (E.bo id + i)]

theorem pure_slc {t e : TypeId} {sz : Nat} {x : Operand} {lo hi : Option Operand} {x' : MX} {lo' hi' : Option MX} {v : MV} {h' : MHeap} {lk : Nat → Bool} {O : Oracle} (ho : o.op = .slice t x lo hi none) (ht : telem P t = some e) (hn : tsz P e = some sz) (hx : cX x = some x')
    (hlo : oX lo = some lo') (hhi : oX hi = some hi')
    (hs : Slots E w s a) (hr : HRel E h w) (he : evO lk O s h (.slc sz x' lo' hi') = some (v, h')) : h' = h ∧ Pure P o a w E v := by
  have h1 := hs.x hx
  have h2 := optInt hlo hs
  have h3 := optInt hhi hs
  unfold telem at ht
  split at ht
  case h_2 => cases ht
  rename_i e' hu
  cases ht
  obtain ⟨inf, hinf, rfl⟩ : ∃ inf, P.info? e = some inf ∧ inf.size = sz := by unfold tsz at hn; rwa [Option.map_eq_some_iff] at hn
  have key : ∀ {A : Option Addr} {n cap : Nat} {l u : Nat}, a.eval x = .slice A n cap → ((lo.map a.eval = none ∧ l = 0) ∨ ∃ k, lo.map a.eval = some (.int k (l : Int))) → ((hi.map a.eval = none ∧ u = n) ∨ ∃ k, hi.map a.eval = some (.int k (u : Int))) → l ≤ u → u ≤ cap →
      (execOp a.eval o).run P w = .ok (.value (.slice (if cap = l then A else A.map (·.add (l * inf.size))) (u - l) (cap - l))) w := by
    intro A n cap l u hxv hl hu' hlu huc
    have := run_sliceAt (P := P) (w := w) hu hinf (A := A) (n := n) hl hu' hlu huc
    simp [execOp, ho, hxv, this]
  have loI : ∀ {l : Int}, ((lo'.map (MX.get s)).map intOf?).getD (some 0) = some l → (lo.map a.eval = none ∧ l = 0) ∨ ∃ k, lo.map a.eval = some (.int k l) := by
    intro l hl
    rcases h2 with ⟨rfl, e2⟩ | ⟨y, rfl, m, e2, e3⟩
    · rw [e2] at hl; simp at hl; exact .inl ⟨rfl, hl.symm⟩
    · rw [e2] at hl
      obtain ⟨k, hk⟩ := intOf_int e3 (by simpa using hl)
      exact .inr ⟨k, by simp [hk]⟩
  have hiI : ∀ {u : Int}, (hi'.map (MX.get s)).map intOf? = some (some u) → ∃ k, hi.map a.eval = some (.int k u) := by
    intro u hu
    rcases h3 with ⟨rfl, e2⟩ | ⟨y, rfl, m, e2, e3⟩
    · rw [e2] at hu; cases hu
    · rw [e2] at hu
      obtain ⟨k, hk⟩ := intOf_int e3 (by simpa using hu)
      exact ⟨k, by simp [hk]⟩
  have hiN : (hi'.map (MX.get s)).map intOf? = none → hi.map a.eval = none := by
    intro hu
    rcases h3 with ⟨rfl, e2⟩ | ⟨y, rfl, m, e2, e3⟩
    · rfl
    · rw [e2] at hu; cases hu
  have toN : ∀ {l : Int}, 0 ≤ l → (lo.map a.eval = none ∧ l = 0) ∨ (∃ k, lo.map a.eval = some (.int k l)) → (lo.map a.eval = none ∧ l.toNat = 0) ∨ ∃ k, lo.map a.eval = some (.int k (l.toNat : Int)) := by
    intro l h0 h
    rcases h with ⟨e, rfl⟩ | ⟨k, e⟩
    · exact .inl ⟨e, rfl⟩
    · exact .inr ⟨k, by rw [e, Int.toNat_of_nonneg h0]⟩
  simp only [evO] at he
  split at he
  · rename_i es l u hb el eu
    split at he
    case isFalse => cases he
    rename_i hc
    obtain ⟨c1, c2, c3, c4⟩ := hc
    simp only [Option.some.injEq, Prod.mk.injEq] at he
    obtain ⟨rfl, rfl⟩ := he
    rw [hb] at h1
    have hx2 := h1
    generalize hxv : a.eval x = xv at h1
    cases h1 with
    | sl _ vs A cap sz' hcap =>
      rw [hxv] at hx2
      have := hx2.slcS (l := l.toNat) (u := u.toNat) (sz := inf.size) (by omega) (by omega) (fun e he => by simpa using List.all_eq_true.1 c4 e he)
      refine ⟨rfl, _, key (u := u.toNat) hxv (toN c1 (loI el)) (.inr ?_) (by omega) (by omega), ?_⟩
      · obtain ⟨k, hk⟩ := hiI eu
        exact ⟨k, by rw [hk, Int.toNat_of_nonneg (by omega)]⟩
      · have e2 : u.toNat - l.toNat = (u - l).toNat := by omega
        rw [e2] at this
        simpa [e2] using this
  · rename_i es l hb el eu
    split at he
    case isFalse => cases he
    rename_i hc
    obtain ⟨c1, c2, c4⟩ := hc
    simp only [Option.some.injEq, Prod.mk.injEq] at he
    obtain ⟨rfl, rfl⟩ := he
    rw [hb] at h1
    have hx2 := h1
    generalize hxv : a.eval x = xv at h1
    cases h1 with
    | sl _ vs A cap sz' hcap =>
      rw [hxv] at hx2
      have := hx2.slcS (l := l.toNat) (u := es.length) (sz := inf.size) (by omega) (by omega) (fun e he => by simpa using List.all_eq_true.1 c4 e he)
      rw [List.take_of_length_le (by simp)] at this
      exact ⟨rfl, _, key hxv (toN c1 (loI el)) (.inl ⟨hiN eu, rfl⟩) (by omega) (by omega), this⟩
  · rename_i id i n g l u hb el eu
    split at he
    case isFalse => cases he
    rename_i hc
    obtain ⟨c1, c2, c3, c4⟩ := hc
    simp only [Option.some.injEq, Prod.mk.injEq] at he
    obtain ⟨rfl, rfl⟩ := he
    rw [hb] at h1
    have hx2 := h1
    generalize hxv : a.eval x = xv at h1
    cases h1 with
    | arr _ _ _ _ A cap hk hg hd =>
      rw [hxv] at hx2
      have hcap := (hd (mheap_ok hr hk c4).1).2.1
      have := hx2.slcA hr (l := l.toNat) (u := u.toNat) (sz := inf.size) (by omega) (by omega) c4
      refine ⟨rfl, _, key (u := u.toNat) hxv (toN c1 (loI el)) (.inr ?_) (by omega) (by omega), ?_⟩
      · obtain ⟨k, hk⟩ := hiI eu
        exact ⟨k, by rw [hk, Int.toNat_of_nonneg (by omega)]⟩
      · have e2 : (u - l).toNat = u.toNat - l.toNat := by omega
        rw [e2]
        exact this
  · rename_i id i n g l hb el eu
    split at he
    case isFalse => cases he
    rename_i hc
    obtain ⟨c1, c2, c4⟩ := hc
    simp only [Option.some.injEq, Prod.mk.injEq] at he
    obtain ⟨rfl, rfl⟩ := he
    rw [hb] at h1
    have hx2 := h1
    generalize hxv : a.eval x = xv at h1
    cases h1 with
    | arr _ _ _ _ A cap hk hg hd =>
      rw [hxv] at hx2
      have hcap := (hd (mheap_ok hr hk c4).1).2.1
      have := hx2.slcA hr (l := l.toNat) (u := n) (sz := inf.size) (by omega) (by omega) c4
      exact ⟨rfl, _, key hxv (toN c1 (loI el)) (.inl ⟨hiN eu, rfl⟩) (by omega) (by omega), this⟩
  · cases he
end

end Go.Proofs.Ytgjpdjihjphbdaa

/- What the small language computes is what the program computes: append. -/
namespace Go.Proofs.Ytgjpdjihjphbdaa
open Go.RowKit

theorem growBy_le (m : Nat) : ∀ (r c : Nat), Builtin.growBy m r c ≤ 2 ^ r * (c + 192)
  | 0, c => by simp [Builtin.growBy]
  | r + 1, c => by
    have ih := growBy_le m r (c + (c + 768) / 4)
    simp only [Builtin.growBy]
    split
    · have : 1 ≤ 2 ^ (r + 1) := Nat.one_le_two_pow
      have := Nat.mul_le_mul_right (c + 192) this
      omega
    · refine Nat.le_trans ih ?_
      rw [Nat.pow_succ, Nat.mul_assoc]
      exact Nat.mul_le_mul_left _ (by omega)
theorem nextcap_le {need old : Nat} (h : old < need) (hn : need ≤ 1000000) : Builtin.nextslicecap need old ≤ 20000000 := by
  unfold Builtin.nextslicecap
  split
  · omega
  · split
    · omega
    · have := growBy_le need 4 old
      omega

section
variable {P : Program} {w : World} {E : Env} {o : Oper} {a : Act} {s : List MV} {h : MHeap}

/-- What a slice's elements are in memory. -/
theorem V.elems (hr : HRel E h w) {m : MV} {v : Value} (hv : V E w m v) {es : List MV} {sz : Nat} (he : m.elems h = some es) (hsz : ∀ e ∈ es, e.cells.length = sz) :
    ∃ A cap vs, v = .slice A es.length cap ∧ Vs E w (flat es) vs ∧ (0 < es.length → ∃ b off, A = some ⟨b, off, none⟩ ∧ ∀ (i : Nat) u, vs[i]? = some u → w.cell? ⟨b, off + i, none⟩ = some u) := by
  unfold MV.elems at he
  split at he
  · cases he
    cases hv with
    | sl _ vs A cap sz' hc hsz' hl hvv hA =>
      refine ⟨A, cap, vs, rfl, ⟨hl, hvv⟩, fun h0 => ?_⟩
      obtain ⟨b, off, e, -, hc⟩ := hA h0
      exact ⟨b, off, e, hc⟩
  · cases he
    have := hv.lit_eq
    subst this
    exact ⟨none, 0, [], rfl, ⟨rfl, fun i c v hc => by simp [flat] at hc⟩, fun h0 => absurd h0 (by simp)⟩
  · rename_i id i n g
    split at he
    case h_2 => cases he
    rename_i ob hob
    split at he
    case isFalse => cases he
    rename_i hog
    cases he
    cases hv with
    | arr _ _ _ _ A cap hk hg hd =>
      obtain ⟨es', a1, a2, a3, a4, a5⟩ := hr.obj id hk
      rw [hob] at a1
      simp only [Option.some.injEq] at a1
      subst a1
      dsimp only at hog hsz ⊢
      obtain ⟨d1, d2, d3, d4, d5⟩ := hd hog.1
      have hlen : ((es'.drop i).take n).length = n := by simp; omega
      by_cases h0 : n = 0
      · subst h0
        refine ⟨A, cap, [], by simp, ⟨by simp [flat], fun i c v hc => by simp [flat] at hc⟩, fun h => absurd h (by simp)⟩
      · have hcp : 0 < E.cp id := by omega
        obtain ⟨arr, t, b1, b2, b3⟩ := a5 hcp
        obtain ⟨rfl, d6⟩ := d5 (by omega)
        have hmem : ∀ e ∈ (es'.drop i).take n, e.cells.length = E.sz id := fun e he => a3 e (List.mem_of_mem_drop (List.mem_of_mem_take he))
        have hfit : (E.bo id + i) * E.sz id + n * E.sz id ≤ arr.size := by rw [b2, ← Nat.add_mul]; exact Nat.mul_le_mul_right _ (by omega)
        refine ⟨_, cap, (arr.toList.drop ((E.bo id + i) * E.sz id)).take (n * E.sz id), by rw [hlen], ⟨by rw [flat_len hmem, hlen]; simp; omega, fun k c v hk hkv => ?_⟩, fun _ => ⟨_, _, rfl, fun j u hj => ?_⟩⟩
        · obtain ⟨i2, j, e, rfl, hj, he, hcj⟩ := (flat_iff hmem).1 hk
          rw [List.getElem?_take] at he hkv
          split at he
          case isFalse => cases he
          split at hkv
          case isFalse => cases hkv
          rw [List.getElem?_drop] at he hkv
          obtain ⟨v', c1, c2⟩ := b3 _ c ((flat_iff a3).2 ⟨i + i2, j, e, rfl, hj, he, hcj⟩)
          have e1 : (E.bo id + i) * E.sz id + (i2 * E.sz id + j) = E.bo id * E.sz id + ((i + i2) * E.sz id + j) := by rw [Nat.add_mul, Nat.add_mul]; omega
          rw [e1, Array.getElem?_toList, c1] at hkv
          cases hkv
          exact c2
        · rw [List.getElem?_take] at hj
          split at hj
          case isFalse => cases hj
          rw [List.getElem?_drop, Array.getElem?_toList] at hj
          simp [World.cell?, b1, hj]
  · cases he

theorem Src.of_elems {t e' : TypeId} {A : Option Addr} {cap sz : Nat} {es : List MV} {vs : List Value} (ht : P.underlying t = some (.slice e')) (hvs : Vs E w (flat es) vs) (hsz : ∀ e ∈ es, e.cells.length = sz) (hone : ∀ e ∈ es, ∀ c ∈ e.cells, c.one = true)
    (hA : 0 < es.length → ∃ b off, A = some ⟨b, off, none⟩ ∧ ∀ (i : Nat) u, vs[i]? = some u → w.cell? ⟨b, off + i, none⟩ = some u) : Src P sz t (.slice A es.length cap) es.length vs w := by
  have hl : vs.length = es.length * sz := by rw [← hvs.1, flat_len hsz]
  have h1 : ∀ u ∈ vs, u.oneCell' = true := fun u hu => by
    obtain ⟨i, hi⟩ := List.getElem?_of_mem hu
    have hil := (List.getElem?_eq_some_iff.1 hi).1
    have hc : (flat es)[i]? = some ((flat es)[i]'(hvs.1 ▸ hil)) := by simp
    refine (hvs.2 i _ u hc hi).one ?_
    obtain ⟨i2, j, e, -, -, he, hcj⟩ := (flat_iff hsz).1 hc
    exact hone e (List.mem_of_getElem? he) _ (List.mem_of_getElem? hcj)
  by_cases h0 : 0 < es.length
  · obtain ⟨b, off, rfl, hc⟩ := hA h0
    exact Src.ofSlice w ht ⟨b, off, none⟩ es.length cap vs hl (fun j u hj => by rw [Addr.add_none]; exact hc j u hj) h1
  · have he : es = [] := by cases es <;> simp_all
    subst he
    have hv : vs = [] := by simpa using hl
    subst hv
    exact ⟨.inl ⟨e', ht⟩, fun _ => rfl, by cases A <;> simp [Builtin.firstCells, loadCells, loadCellsFrom], by cases A <;> simp [Builtin.firstCells, loadCells, loadCellsFrom], by simp, fun _ h => by cases h⟩

theorem sOk_spec {e : MV} {sz : Nat} (h : e.sOk sz = true) : e.cells.length = sz ∧ ∀ c ∈ e.cells, c.one = true := by
  unfold MV.sOk at h
  simp only [Bool.and_eq_true, beq_iff_eq] at h
  exact ⟨h.1, fun c hc => List.all_eq_true.1 h.2 c hc⟩

/-- Appended where there is no room. -/
theorem append_grow {t tx e e' : TypeId} {ty : TypeId} {inf : TypeInfo} {zv : Value} (ht : P.underlying t = some (.slice e)) (htx : P.underlying tx = some (.slice e')) (hi : P.info? e = some inf) (hz : inf.zero = some zv) (hzs : zv.cells.size = inf.size) (hby : inf.bytes ≤ 100000)
    {A B : Option Addr} {cap xcap : Nat} {olds xs : List MV} {ovs xvs : List Value} (hov : Vs E w (flat olds) ovs) (hosz : ∀ e ∈ olds, e.cells.length = inf.size)
    (hoA : 0 < olds.length → ∃ b off, A = some ⟨b, off, none⟩ ∧ ∀ (i : Nat) u, ovs[i]? = some u → w.cell? ⟨b, off + i, none⟩ = some u)
    (hxv : Vs E w (flat xs) xvs) (hxs : ∀ e ∈ xs, e.sOk inf.size = true) (hxA : 0 < xs.length → ∃ b off, B = some ⟨b, off, none⟩ ∧ ∀ (i : Nat) u, xvs[i]? = some u → w.cell? ⟨b, off + i, none⟩ = some u)
    (hg : cap < olds.length + xs.length) (hm : olds.length + xs.length ≤ 1000000) :
    ∃ (c : Array Value) (cap' : Nat), (Builtin.append_ #[t, tx] ty #[.slice A olds.length cap, .slice B xs.length xcap]).run P w = .ok (.slice (some ⟨w.heap.size, 0, none⟩) (olds.length + xs.length) cap') (w.drew.alloc (.cells c e)) ∧
      olds.length + xs.length ≤ cap' ∧ c.size = cap' * inf.size ∧ ∀ (k : Nat) m, (flat (olds ++ xs))[k]? = some m → ∃ v, c[k]? = some v ∧ V E w m v := by
  have hxsz : ∀ e ∈ xs, e.cells.length = inf.size := fun e he => (sOk_spec (hxs e he)).1
  have hsrc := Src.of_elems (P := P) (cap := xcap) htx hxv hxsz (fun e he => (sOk_spec (hxs e he)).2) hxA
  have hol : ovs.length = olds.length * inf.size := by rw [← hov.1, flat_len hosz]
  have hxl : xvs.length = xs.length * inf.size := by rw [← hxv.1, flat_len hxsz]
  have hold : (Builtin.firstCells inf.size olds.length (.slice A olds.length cap)).run P w.drew = .ok ovs.toArray w.drew := by
    by_cases h0 : 0 < olds.length
    · obtain ⟨b, off, rfl, hc⟩ := hoA h0
      exact run_firstCells_some w.drew inf.size olds.length ⟨b, off, none⟩ olds.length cap ovs hol (fun j u hj => by rw [Addr.add_none]; exact hc j u hj)
    · have he : olds = [] := by cases olds <;> simp_all
      subst he
      have hv : ovs = [] := by simpa using hol
      subst hv
      cases A <;> simp [Builtin.firstCells, loadCells, loadCellsFrom]
  have hcap : cap < olds.length + xs.length := hg
  have hfit : Builtin.nextslicecap (olds.length + xs.length) cap * inf.bytes ≤ 281474976710656 := by
    have := nextcap_le hcap hm
    have := Nat.mul_le_mul this hby
    omega
  have hrun := run_append_grow_src (P := P) w t tx ty e inf zv ht hi hz A olds.length cap ovs hold (.slice B xs.length xcap) xs.length xvs hsrc hg (by omega) hfit
  have hge := grownCap_ge w (olds.length + xs.length) cap e
  refine ⟨_, _, hrun, hge, ?_, fun k m hk => ?_⟩
  · simp only [Array.size_append, List.size_toArray, List.length_append, size_zeroCells, hzs, hol, hxl]
    rw [← Nat.add_mul, ← Nat.add_mul]
    congr 1
    omega
  · have hk2 : (flat olds ++ flat xs)[k]? = some m := by simpa [flat] using hk
    have hkl := (List.getElem?_eq_some_iff.1 hk2).1
    rw [List.length_append] at hkl
    by_cases hlt : k < (flat olds).length
    · rw [List.getElem?_append_left hlt] at hk2
      have hlt' : k < ovs.length := hov.1 ▸ hlt
      refine ⟨ovs[k], ?_, hov.2 k m _ hk2 (by simp)⟩
      rw [Array.getElem?_append_left (by simp; omega)]
      simp [List.getElem?_append_left hlt', hlt']
    · rw [List.getElem?_append_right (by omega)] at hk2
      have h1 := hov.1
      have h2 := hxv.1
      have hlt' : k - ovs.length < xvs.length := by omega
      rw [h1] at hk2
      refine ⟨xvs[k - ovs.length], ?_, hxv.2 _ m _ hk2 (by simp)⟩
      rw [Array.getElem?_append_left (by simp; omega)]
      simp [List.getElem?_append_right (show ovs.length ≤ k by omega), hlt']
end

end Go.Proofs.Ytgjpdjihjphbdaa

/- What the small language computes is what the program computes: append, calls, all operations. -/
namespace Go.Proofs.Ytgjpdjihjphbdaa
open Go.RowKit

section
variable {lk : Nat → Bool} {P : Program} {w : World} {E : Env} {o : Oper} {a : Act} {s : List MV} {h : MHeap}

theorem flat_app (xs ys : List MV) : flat (xs ++ ys) = flat xs ++ flat ys := by simp [flat]

theorem eff_app {t tx e e' : TypeId} {inf : TypeInfo} {z : MV} {c : Call} {x y : Operand} {x' y' : MX} {v : MV} {h' : MHeap} {O : Oracle} (ho : o.op = .call c) (hc : c.callee = .builtin .append) (ha : c.args = #[x, y]) (hat : c.argTypes = #[t, tx])
    (ht : P.underlying t = some (.slice e)) (htx : P.underlying tx = some (.slice e')) (hi : P.info? e = some inf) (hz : tzero P e = some z) (hby : inf.bytes ≤ 100000) (hzl : z.cells.length = inf.size) (hok : z.cOk = true)
    (hx : cX x = some x') (hy : cX y = some y') (hs : Slots E w s a) (hr : HRel E h w) (he : evO lk O s h (.app inf.size x' y') = some (v, h')) : Eff lk P o a w E v h' := by
  have h1 := hs.x hx
  have h2 := hs.x hy
  unfold tzero at hz
  rw [Option.map_eq_some_iff] at hz
  obtain ⟨zv, hzv, rfl⟩ := hz
  obtain ⟨inf', hinf', hzero⟩ := Option.bind_eq_some_iff.1 hzv
  rw [hi] at hinf'
  cases hinf'
  have hzs : zv.cells.size = inf.size := by have := (ofV_ok (E := E) (w := w) hok).1; rw [hzl] at this; simpa using this.symm
  have hrunS : ∀ {u v : Value} {w' : World} {r : Value}, a.eval x = u → a.eval y = v → (Builtin.append_ #[t, tx] o.type #[u, v]).run P w = .ok r w' → (execOp a.eval o).run P w = .ok (.value r) w' := by
    intro u v w' r e1 e2 hrun
    simp [execOp, ho, resolve, hc, ha, hat, invoke, builtin, e1, e2, hrun]
  simp only [evO] at he
  split at he
  · rename_i id i n g xs hb hel
    split at he
    case h_2 => cases he
    rename_i ob hob
    split at he
    case isFalse => cases he
    rename_i hog
    obtain ⟨og1, og2, og3⟩ := hog
    rw [hb] at h1
    have h1' := h1
    generalize hxv : a.eval x = xv at h1
    cases h1 with
    | arr _ _ _ _ A cap hk hg hd =>
      obtain ⟨es, a1, a2, a3, a4, a5⟩ := hr.obj id hk
      rw [hob] at a1
      simp only [Option.some.injEq] at a1
      subst a1
      dsimp only at og1 og2 og3 he ⊢
      obtain ⟨d1, d2, d3, d4, d5⟩ := hd og1
      split at he
      · rename_i hx0
        subst hx0
        simp only [Option.some.injEq, Prod.mk.injEq] at he
        obtain ⟨rfl, rfl⟩ := he
        obtain ⟨B, xcap, xvs, e2, hvs, hA⟩ := h2.elems hr (sz := inf.size) hel (by simp)
        have hxv0 : xvs = [] := by have := hvs.1; simpa [flat] using this.symm
        subst hxv0
        have hsrc := Src.of_elems (P := P) (cap := xcap) (sz := inf.size) htx hvs (by simp) (by simp) hA
        have hrun := run_append_nothing (P := P) w t tx o.type e inf ht hi A n cap d2 (.slice B 0 xcap) hsrc
        refine ⟨.slice A n cap, w, E, .inl (hrunS hxv e2 hrun), ?_, hr, Ext.refl _ _ _⟩
        rw [hxv] at h1'
        exact h1'
      · rename_i hx0
        split at he
        case isFalse => cases he
        rename_i hcond
        obtain ⟨hm, hall⟩ := hcond
        simp only [Option.some.injEq, Prod.mk.injEq] at he
        obtain ⟨rfl, rfl⟩ := he
        have hxs : ∀ e ∈ xs, e.sOk inf.size = true := fun e he => List.all_eq_true.1 hall.1 e he
        have hxsz : ∀ e ∈ xs, e.cells.length = inf.size := fun e he => (sOk_spec (hxs e he)).1
        have hpos : 0 < xs.length := List.length_pos_iff.2 hx0
        obtain ⟨B, xcap, xvs, e2, hvs, hB⟩ := h2.elems hr hel hxsz
        have hidl := hr.klt id hk
        have hdl : (es.drop i).length = n := by simp; omega
        have hgk : E.K id → E.gn id < g + 1 ∧ lk id = false := fun _ => ⟨by omega, hall.2⟩
        have hdsz : ∀ e ∈ es.drop i ++ xs, e.cells.length = inf.size := fun e he => by
          rcases List.mem_append.1 he with h | h
          · rw [a3 e (List.mem_of_mem_drop h), og3]
          · exact hxsz e h
        have hlen2 : (es.drop i ++ xs).length = n + xs.length := by rw [List.length_append, hdl]
        have helems : MV.elems h (.arr id i n g) = some (es.drop i) := by
          unfold MV.elems
          simp only [hob, og1, true_and]
          rw [if_pos (by omega), List.take_of_length_le (by omega)]
        obtain ⟨A2, cap2, ovs, e3, hov, hoA⟩ := h1'.elems hr (sz := inf.size) helems (fun e he => by rw [a3 e (List.mem_of_mem_drop he), og3])
        rw [hxv] at e3
        simp only [Value.slice.injEq] at e3
        obtain ⟨rfl, e4, rfl⟩ := e3
        by_cases hroom : n + xs.length ≤ cap
        · obtain ⟨rfl, d6⟩ := d5 (by omega)
          have hcp : 0 < E.cp id := by omega
          obtain ⟨arr, te, b1, b2, b3⟩ := a5 hcp
          have hxl : xvs.length = xs.length * inf.size := by rw [← hvs.1, flat_len hxsz]
          have hsrc := Src.of_elems (P := P) (cap := xcap) htx hvs hxsz (fun e he => (sOk_spec (hxs e he)).2) hB
          have hfit : (E.bo id + i) * inf.size + n * inf.size + xvs.length ≤ arr.size := by
            rw [b2, og3, hxl, ← Nat.add_mul, ← Nat.add_mul]
            exact Nat.mul_le_mul_right _ (by omega)
          have hst := run_storeCells_at (P := P) (E.ρ id) ((E.bo id + i) * inf.size + n * inf.size) te xvs 0 arr w b1 (by simpa using hfit) hsrc.one
          simp only [Nat.add_zero] at hst
          generalize harr : (arr.toList.take ((E.bo id + i) * inf.size + n * inf.size) ++ xvs ++ arr.toList.drop ((E.bo id + i) * inf.size + n * inf.size + xvs.length)).toArray = arr' at hst
          have hsz' : arr'.size = arr.size := by
            rw [← harr]
            simp only [List.size_toArray, List.length_append, List.length_take, List.length_drop, Array.length_toList]
            omega
          have hrun : (Builtin.append_ #[t, tx] o.type #[.slice (some ⟨E.ρ id, (E.bo id + i) * E.sz id, none⟩) n cap, .slice B xs.length xcap]).run P w = .ok (.slice (some ⟨E.ρ id, (E.bo id + i) * E.sz id, none⟩) (n + xs.length) cap) (w.setRow (E.ρ id) arr') := by
            simp [Builtin.append_, run_underlying ht, run_underlying htx, sizeOf, typeInfo, hi, hsrc.len, hroom, hsrc.cells, Addr.add_none, og3, hst]
          have honly : OnlyObj lk E w (w.setRow (E.ρ id) arr') id := ⟨rfl, rfl, rfl, by simp [World.setRow], fun k _ hne => setRow_other w _ k _ (fun e => hne hk hall.2 hcp e.symm)⟩
          have hx2 : Ext lk E w (E.put id (E.ρ id) (E.bo id + i) (E.cp id) inf.size (g + 1) (es.drop i ++ xs).length false) (w.setRow (E.ρ id) arr') := Ext.put honly hgk (fun _ => .inr ⟨hk, hcp, rfl⟩) (.inl hk)
          obtain ⟨r1, r2⟩ := hr.put (h' := h.set id ⟨g + 1, false, inf.size, es.drop i ++ xs⟩) (b := E.ρ id) (bo := E.bo id + i) (cp := E.cp id) (sz := inf.size) (g := g + 1) (nl := false) (es := es.drop i ++ xs) honly hgk (fun _ => .inr ⟨hk, hcp, rfl⟩)
            (fun j hj _ => List.getElem?_set_ne (fun e => hj e.symm)) (by simp [hidl]) hdsz (by omega)
            (fun _ => ⟨arr', te, setRow_heap w _ arr arr' te _ b1, by rw [hsz', b2, og3], fun k m hkm => by
              rw [flat_app] at hkm
              have hdl2 : (flat (es.drop i)).length = n * inf.size := by rw [flat_len (sz := inf.size) (fun e he => by rw [a3 e (List.mem_of_mem_drop he), og3]), hdl]
              by_cases hlt : k < n * inf.size
              · rw [List.getElem?_append_left (by omega)] at hkm
                obtain ⟨i2, j, e5, rfl, hj, he5, hcj⟩ := (flat_iff (sz := inf.size) (fun e he => by rw [a3 e (List.mem_of_mem_drop he), og3])).1 hkm
                rw [List.getElem?_drop] at he5
                obtain ⟨u, c1, c2⟩ := b3 _ m ((flat_iff a3).2 ⟨i + i2, j, e5, rfl, by rw [og3]; exact hj, he5, hcj⟩)
                refine ⟨u, ?_, c2.ext hr hx2⟩
                rw [← harr, List.getElem?_toArray, List.append_assoc, List.getElem?_append_left (by simp; omega), List.getElem?_take, if_pos (by omega), Array.getElem?_toList]
                rw [og3] at c1
                rw [← c1]
                congr 1
                rw [Nat.add_mul, Nat.add_mul]
                omega
              · rw [List.getElem?_append_right (by omega), hdl2] at hkm
                have hkl := (List.getElem?_eq_some_iff.1 hkm).1
                have hv1 := hvs.1
                have hlt2 : k - n * inf.size < xvs.length := by omega
                refine ⟨xvs[k - n * inf.size], ?_, (hvs.2 _ m _ hkm (by simp)).ext hr hx2⟩
                rw [← harr, List.getElem?_toArray, List.append_assoc, List.getElem?_append_right (by simp; omega), List.getElem?_append_left (by simp; omega)]
                have e6 : (E.bo id + i) * inf.size + k - (List.take ((E.bo id + i) * inf.size + n * inf.size) arr.toList).length = k - n * inf.size := by simp; omega
                rw [e6]; simp⟩) (by simp) (.inl hk)
          refine ⟨_, _, _, .inl (hrunS hxv e2 hrun), ?_, r1, r2⟩
          rw [hlen2]
          refine .arr _ _ _ _ _ _ (.inr rfl) (by simp [Env.put]) fun _ => ?_
          simp only [Env.put, if_true]
          exact ⟨by omega, hroom, fun h => (by cases h), fun _ => rfl, fun _ => ⟨by rw [og3]; simp, by omega⟩⟩
        · have hgr := append_grow (P := P) (ty := o.type) (A := A) (B := B) (cap := cap) (xcap := xcap) ht htx hi hzero hzs hby hov (fun e he => by rw [a3 e (List.mem_of_mem_drop he), og3]) hoA hvs hxs hB (by omega) (by omega)
          obtain ⟨cc, cap', g1, g2, g3, g4⟩ := hgr
          rw [hdl] at g1 g2
          have hbel : Below w.heap.size w (w.drew.alloc (.cells cc e)) := ((Below.refl _ w).drew).alloc (Nat.le_refl _) _
          have honly : OnlyObj lk E w (w.drew.alloc (.cells cc e)) id := OnlyObj.of_below hbel
          have hx2 : Ext lk E w (E.put id w.heap.size 0 cap' inf.size (g + 1) (es.drop i ++ xs).length false) (w.drew.alloc (.cells cc e)) := Ext.put honly hgk (fun _ => .inl (Nat.le_refl _)) (.inl hk)
          obtain ⟨r1, r2⟩ := hr.put (h' := h.set id ⟨g + 1, false, inf.size, es.drop i ++ xs⟩) (b := w.heap.size) (bo := 0) (cp := cap') (sz := inf.size) (g := g + 1) (nl := false) (es := es.drop i ++ xs) honly hgk (fun _ => .inl (Nat.le_refl _))
            (fun j hj _ => List.getElem?_set_ne (fun e => hj e.symm)) (by simp [hidl]) hdsz (by omega)
            (fun _ => ⟨cc, e, World.alloc_heap_new w.drew _, g3, fun k m hkm => by
              obtain ⟨u, c1, c2⟩ := g4 k m hkm
              exact ⟨u, by simpa using c1, c2.ext hr hx2⟩⟩) (by simp) (.inl hk)
          refine ⟨_, _, _, .inl (hrunS hxv e2 g1), ?_, r1, r2⟩
          rw [hlen2]
          refine .arr _ _ _ _ _ _ (.inr rfl) (by simp [Env.put]) fun _ => ?_
          simp only [Env.put, if_true]
          exact ⟨by omega, g2, fun h => (by cases h), fun _ => rfl, fun _ => ⟨by simp, by omega⟩⟩
  · rename_i xs hb hel
    rw [hb] at h1
    have hxv := h1.lit_eq
    split at he
    · rename_i hx0
      subst hx0
      simp only [Option.some.injEq, Prod.mk.injEq] at he
      obtain ⟨rfl, rfl⟩ := he
      obtain ⟨B, xcap, xvs, e2, hvs, hA⟩ := h2.elems hr (sz := inf.size) hel (by simp)
      have hxv0 : xvs = [] := by have := hvs.1; simpa [flat] using this.symm
      subst hxv0
      have hsrc := Src.of_elems (P := P) (cap := xcap) (sz := inf.size) htx hvs (by simp) (by simp) hA
      have hrun := run_append_nothing (P := P) w t tx o.type e inf ht hi none 0 0 (Nat.le_refl _) (.slice B 0 xcap) hsrc
      exact ⟨_, w, E, .inl (hrunS hxv e2 hrun), .lit _, hr, Ext.refl _ _ _⟩
    · rename_i hx0
      split at he
      case isFalse => cases he
      rename_i hcond
      obtain ⟨hm, hall⟩ := hcond
      simp only [Option.some.injEq, Prod.mk.injEq] at he
      obtain ⟨rfl, rfl⟩ := he
      have hxs : ∀ e ∈ xs, e.sOk inf.size = true := fun e he => List.all_eq_true.1 hall e he
      have hxsz : ∀ e ∈ xs, e.cells.length = inf.size := fun e he => (sOk_spec (hxs e he)).1
      have hpos : 0 < xs.length := List.length_pos_iff.2 hx0
      obtain ⟨B, xcap, xvs, e2, hvs, hB⟩ := h2.elems hr hel hxsz
      have hgr := append_grow (P := P) (w := w) (E := E) (ty := o.type) (A := none) (B := B) (cap := 0) (xcap := xcap) (olds := []) (ovs := []) ht htx hi hzero hzs hby ⟨rfl, fun i c v hc => by simp [flat] at hc⟩ (by simp) (by simp) hvs hxs hB (by simp; omega) (by simpa using hm)
      obtain ⟨cc, cap', g1, g2, g3, g4⟩ := hgr
      simp only [List.length_nil, Nat.zero_add, List.nil_append] at g1 g2 g4
      have hbel : Below w.heap.size w (w.drew.alloc (.cells cc e)) := ((Below.refl _ w).drew).alloc (Nat.le_refl _) _
      obtain ⟨r1, r2⟩ := hr.add (b := w.heap.size) (cp := cap') (sz := inf.size) (nl := false) hbel hxsz g2 (fun _ => ⟨Nat.le_refl _, cc, e, World.alloc_heap_new w.drew _, g3, g4⟩)
      refine ⟨_, _, _, .inl (hrunS hxv e2 g1), ?_, r1, r2⟩
      exact arr_put g2
  · cases he
end

/-- What calls answer is so. -/
def SoundO (P : Program) (O : Oracle) : Prop := ∀ f args h m h', O f args h = some (m, h') → hasBody P f = true ∧ ∀ E w vs, HRel E h w → Vs E w args vs →
  Calls P f vs.toArray w fun e w' => ∃ v E', e = .returned v ∧ V E' w' m v ∧ HRel E' h' w' ∧ Ext (fun _ => true) E w E' w'

theorem hasBody_run {P : Program} {f : Nat} (hb : hasBody P f = true) (args : Array Value) (w : World) : (callFunc f args).run P w = .ok (.enter f args) w := by
  unfold hasBody at hb
  split at hb
  · rename_i fn hf
    simp only [Bool.and_eq_true, bne_iff_ne] at hb
    obtain ⟨h1, h2⟩ := hb
    cases hbd : fn.body with
    | none => rw [hbd] at h1; cases h1
    | some c => simp [callFunc, hf, h2, hbd]
  · cases hb

/-- What an operation comes to, calls among them. -/
def OpOK (lk : Nat → Bool) (P : Program) (o : Oper) (a : Act) (w : World) (E : Env) (m : MV) (h' : MHeap) : Prop :=
  ∀ (r : Option Nat) (n : Nat) (K : Act → World → Prop) (Q : Exit → Act → World → Prop), (∀ v w' E', V E' w' m v → HRel E' h' w' → Ext lk E w E' w' → K (a.put o.dst v) w') → o.wpIn (Fw r) n P a w K Q

theorem Eff.ok {lk : Nat → Bool} {P : Program} {o : Oper} {a : Act} {w : World} {E : Env} {m : MV} {h' : MHeap} (hnd : ∀ c, o.op ≠ .defer c) (h : Eff lk P o a w E m h') : OpOK lk P o a w E m h' := by
  intro r n K Q hK
  obtain ⟨v, w', E', hrun, h1, h2, h3⟩ := h
  rcases hrun with hrun | ⟨hrun, rfl⟩
  · exact wpIn_val hnd hrun (hK v w' E' h1 h2 h3)
  · exact wpIn_skp hnd hrun (hK undef w' E' h1 h2 h3)

theorem ok_call {lk : Nat → Bool} {P : Program} {O : Oracle} (hO : SoundO P O) {o : Oper} {a : Act} {w : World} {E : Env} {m : MV} {h h' : MHeap} {f : Nat} {args : List MV} {vs : List Value} (hnd : ∀ c, o.op ≠ .defer c) (hr : HRel E h w) (hv : Vs E w args vs)
    (hrun : ∀ w', (execOp a.eval o).run P w' = (callFunc f vs.toArray).run P w') (he : O f args h = some (m, h')) : OpOK lk P o a w E m h' := by
  intro r n K Q hK
  obtain ⟨hb, hcall⟩ := hO f args h m h' he
  exact wpIn_ent hnd ((hrun w).trans (hasBody_run hb _ w)) ((hcall E w vs hr hv).mono fun e w'' ⟨v, E', e1, e2, e3, e4⟩ => ⟨v, e1, hK v w'' E' e2 e3 (e4.mono fun _ _ _ => rfl)⟩)

/-- Operations that leave memory alone; those that read objects; those that write them. -/
def MO.isP : MO → Bool
  | .nil0 _ | .new _ | .box _ _ | .bsl _ _ _ _ | .mks _ _ | .call _ _ | .callv _ _ | .st _ _ _ | .app _ _ _ | .bad => false
  | _ => true
def MO.isR : MO → Bool
  | .ld _ _ | .eqn _ _ | .slc _ _ _ _ | .ia _ _ _ => true
  | _ => false
def MO.isM : MO → Bool
  | .st _ _ _ | .app _ _ _ | .bad => true
  | _ => false

theorem evO_ok {P : Program} {lk : Nat → Bool} {O : Oracle} (hO : SoundO P O) {o : Oper} {mo : MO} {a : Act} {w : World} {E : Env} {s : List MV} {h h' : MHeap} {m : MV} (hc : compO P o = some mo) (hs : Slots E w s a) (hr : HRel E h w) (he : evO lk O s h mo = some (m, h')) : OpOK lk P o a w E m h' ∧ (mo.isP = true → h' = h ∧ Pure P o a w E m) := by
  have hnd : ∀ c, o.op ≠ .defer c := fun c e => by simp [compO, e] at hc
  have pe : ∀ {x : MV}, h' = h ∧ Pure P o a w E x → OpOK lk P o a w E x h' ∧ (mo.isP = true → h' = h ∧ Pure P o a w E x) := fun hp => ⟨by rw [hp.1]; exact (hp.2.eff hr).ok hnd, fun _ => hp⟩
  obtain ⟨dst, op, type, pos, after, guard⟩ := o
  cases op <;> simp only [compO] at hc <;> try (cases hc; done)
  case move x =>
    rw [Option.map_eq_some_iff] at hc
    obtain ⟨x', hx, rfl⟩ := hc
    simp only [evO, Option.some.injEq, Prod.mk.injEq] at he
    obtain ⟨rfl, rfl⟩ := he
    exact pe ⟨rfl, pure_mv (.inl rfl) hx hs⟩
  case assign x =>
    split at hc
    · rename_i hn
      obtain ⟨e, he1, hc⟩ := Option.bind_eq_some_iff.1 hc
      rw [Option.map_eq_some_iff] at hc
      obtain ⟨sz, hsz, rfl⟩ := hc
      simp only [evO, Option.some.injEq, Prod.mk.injEq] at he
      obtain ⟨rfl, rfl⟩ := he
      exact ⟨(eff_nil0 rfl hn hr).ok hnd, fun hp => by simp [MO.isP] at hp⟩
    · rw [Option.map_eq_some_iff] at hc
      obtain ⟨x', hx, rfl⟩ := hc
      simp only [evO, Option.some.injEq, Prod.mk.injEq] at he
      obtain ⟨rfl, rfl⟩ := he
      exact pe ⟨rfl, pure_mv (.inr rfl) hx hs⟩
  case pick c x y =>
    simp only [Option.bind_eq_bind, Option.bind_eq_some_iff, Option.some.injEq] at hc
    obtain ⟨c', hc', x', hx', y', hy', rfl⟩ := hc
    simp only [evO] at he
    split at he
    case h_2 => cases he
    rename_i t ht
    simp only [Option.some.injEq, Prod.mk.injEq] at he
    obtain ⟨rfl, rfl⟩ := he
    exact pe ⟨rfl, pure_pick rfl hc' hx' hy' hs ht⟩
  case alloc t =>
    simp only [Option.bind_eq_bind, Option.bind_eq_some_iff] at hc
    obtain ⟨z, hz, hc⟩ := hc
    split at hc
    case isFalse => cases hc
    rename_i hok
    cases hc
    simp only [evO, Option.some.injEq, Prod.mk.injEq] at he
    obtain ⟨rfl, rfl⟩ := he
    exact ⟨(eff_new rfl hz hok hr).ok hnd, fun hp => by simp [MO.isP] at hp⟩
  case box t x =>
    simp only [Option.bind_eq_bind, Option.bind_eq_some_iff, Option.some.injEq] at hc
    obtain ⟨sz, hsz, x', hx', rfl⟩ := hc
    exact ⟨(eff_box rfl hx' hs hr he).ok hnd, fun hp => by simp [MO.isP] at hp⟩
  case build t parts =>
    simp only [Option.bind_eq_bind, Option.bind_eq_some_iff] at hc
    obtain ⟨pl, hpl, z, hz, hc⟩ := hc
    split at hc
    case h_2 => cases hc
    rename_i zs
    simp only [Option.bind_eq_some_iff, Option.some.injEq] at hc
    obtain ⟨parts', hp, rfl⟩ := hc
    refine pe (eff_build rfl hpl hz ?_ hs he)
    exact hp
  case buildSlice t len parts =>
    simp only [Option.bind_eq_bind, Option.bind_eq_some_iff] at hc
    obtain ⟨e, he1, sz, hsz, z, hz, hc⟩ := hc
    split at hc
    case isFalse => cases hc
    rename_i hcond
    simp only [Option.bind_eq_some_iff, Option.some.injEq] at hc
    obtain ⟨parts', hp, rfl⟩ := hc
    exact ⟨(eff_bsl rfl he1 hsz hz hcond.1 hcond.2.1 hcond.2.2.1 hcond.2.2.2 hp hs hr he).ok hnd, fun hp => by simp [MO.isP] at hp⟩
  case load t x =>
    simp only [Option.bind_eq_bind, Option.bind_eq_some_iff, Option.some.injEq] at hc
    obtain ⟨ag, hag, x', hx', rfl⟩ := hc
    exact pe (pure_ld rfl hag hx' hs hr he)
  case store t x y =>
    simp only [Option.bind_eq_bind, Option.bind_eq_some_iff, Option.some.injEq] at hc
    obtain ⟨sz, hsz, x', hx', y', hy', rfl⟩ := hc
    exact ⟨(eff_st rfl hsz hx' hy' hs hr he).ok hnd, fun hp => by simp [MO.isP] at hp⟩
  case nilCheck x =>
    rw [Option.map_eq_some_iff] at hc
    obtain ⟨x', hx, rfl⟩ := hc
    simp only [evO] at he
    split at he <;> simp only [Option.some.injEq, Prod.mk.injEq, reduceCtorEq] at he
    · rename_i id i off g hb
      obtain ⟨rfl, rfl⟩ := he
      exact pe ⟨rfl, pure_nilck rfl hx hs hb (.inl ⟨_, _, _, _, rfl⟩)⟩
    · rename_i e off hb
      obtain ⟨rfl, rfl⟩ := he
      exact pe ⟨rfl, pure_nilck rfl hx hs hb (.inr (.inl ⟨_, _, rfl⟩))⟩
    · rename_i f cs hb
      obtain ⟨rfl, rfl⟩ := he
      exact pe ⟨rfl, pure_nilck rfl hx hs hb (.inr (.inr ⟨_, _, _, rfl⟩))⟩
  case binOp op t x y yt =>
    split at hc <;> try (cases hc; done)
    case h_12 ht =>
      simp only [Option.bind_eq_bind, Option.bind_eq_some_iff, Option.some.injEq] at hc
      obtain ⟨x', hx', y', hy', rfl⟩ := hc
      exact pe (pure_beq (neg := false) rfl ht hx' hy' hs he)
    case h_13 ht =>
      simp only [Option.bind_eq_bind, Option.bind_eq_some_iff, Option.some.injEq] at hc
      obtain ⟨x', hx', y', hy', rfl⟩ := hc
      exact pe (pure_beq (neg := true) rfl ht hx' hy' hs he)
    case h_14 =>
      simp only [Option.bind_eq_bind, Option.bind_eq_some_iff, Option.some.injEq] at hc
      obtain ⟨x', hx', y', hy', rfl⟩ := hc
      exact pe (pure_seq (neg := false) rfl hx' hy' hs he)
    case h_15 =>
      simp only [Option.bind_eq_bind, Option.bind_eq_some_iff, Option.some.injEq] at hc
      obtain ⟨x', hx', y', hy', rfl⟩ := hc
      exact pe (pure_seq (neg := true) rfl hx' hy' hs he)
    case h_16 ht =>
      split at hc
      case isFalse => cases hc
      rename_i hcond
      simp only [Option.bind_eq_bind, Option.bind_eq_some_iff, Option.some.injEq] at hc
      obtain ⟨x', hx', y', hy', rfl⟩ := hc
      exact pe (pure_eqa (neg := false) rfl ht hcond.1 hcond.2.1 hcond.2.2 hx' hy' hs he)
    case h_17 ht =>
      split at hc
      case isFalse => cases hc
      rename_i hcond
      simp only [Option.bind_eq_bind, Option.bind_eq_some_iff, Option.some.injEq] at hc
      obtain ⟨x', hx', y', hy', rfl⟩ := hc
      exact pe (pure_eqa (neg := true) rfl ht hcond.1 hcond.2.1 hcond.2.2 hx' hy' hs he)
    case h_18 ht =>
      split at hc
      case isFalse => cases hc
      rename_i hn
      rw [Option.map_eq_some_iff] at hc
      obtain ⟨x', hx, rfl⟩ := hc
      exact pe (pure_eqn (neg := false) rfl ht hx hn hs hr he)
    case h_19 ht =>
      split at hc
      case isFalse => cases hc
      rename_i hn
      rw [Option.map_eq_some_iff] at hc
      obtain ⟨x', hx, rfl⟩ := hc
      exact pe (pure_eqn (neg := true) rfl ht hx hn hs hr he)
    all_goals
      simp only [Option.bind_eq_bind, Option.bind_eq_some_iff, Option.some.injEq] at hc
      obtain ⟨x', hx', y', hy', rfl⟩ := hc
      exact pe (pure_bin rfl hx' hy' hs he)
  case unOp op t x =>
    simp only [Option.bind_eq_bind, Option.bind_eq_some_iff, Option.some.injEq] at hc
    obtain ⟨x', hx', rfl⟩ := hc
    exact pe (pure_un rfl hx' hs he)
  case convert src t x =>
    split at hc
    case h_2 => cases hc
    rename_i d k hsrc ht
    rw [Option.map_eq_some_iff] at hc
    obtain ⟨x', hx, rfl⟩ := hc
    exact pe (pure_cv rfl (by rw [hsrc]; simp) ht hx hs he)
  case makeFunc fn first caps =>
    cases fn <;> simp only at hc <;> try (cases hc; done)
    simp only [Option.bind_eq_bind, Option.bind_eq_some_iff, Option.some.injEq] at hc
    obtain ⟨caps', hcc, rfl⟩ := hc
    simp only [evO, Option.some.injEq, Prod.mk.injEq] at he
    obtain ⟨rfl, rfl⟩ := he
    exact pe ⟨rfl, pure_mf rfl hcc hs⟩
  case makeSlice t l c =>
    simp only [Option.bind_eq_bind, Option.bind_eq_some_iff] at hc
    obtain ⟨e, he1, i, hi, z, hz, hc⟩ := hc
    split at hc
    case isFalse => cases hc
    rename_i hcond
    simp only [Option.bind_eq_some_iff, Option.some.injEq] at hc
    obtain ⟨l', hl, rfl⟩ := hc
    exact ⟨(eff_mks rfl he1 hi hcond.1 hz hcond.2.1 hcond.2.2.1 hcond.2.2.2.1 hcond.2.2.2.2 hl hs hr he).ok hnd, fun hp => by simp [MO.isP] at hp⟩
  case slice t x lo hi mx =>
    cases mx <;> simp only at hc <;> try (cases hc; done)
    simp only [Option.bind_eq_bind, Option.bind_eq_some_iff, Option.some.injEq] at hc
    obtain ⟨e, he1, sz, hsz, x', hx', lo', hlo, hi', hhi, rfl⟩ := hc
    exact pe (pure_slc rfl he1 hsz hx' hlo hhi hs hr he)
  case fieldAddr t x f =>
    split at hc
    case h_2 => cases hc
    rename_i fs ht
    simp only [Option.bind_eq_bind, Option.bind_eq_some_iff] at hc
    obtain ⟨fd, hfd, n, hn, hc⟩ := hc
    split at hc
    case isFalse => cases hc
    rename_i hpos
    simp only [Option.bind_eq_some_iff, Option.some.injEq] at hc
    obtain ⟨x', hx', rfl⟩ := hc
    exact pe (pure_fa rfl ht hfd hn hpos hx' hs he)
  case field t x f =>
    split at hc
    case h_2 => cases hc
    rename_i fs ht
    simp only [Option.bind_eq_bind, Option.bind_eq_some_iff, Option.some.injEq] at hc
    obtain ⟨fd, hfd, ag, hag, x', hx', rfl⟩ := hc
    exact pe (pure_fd rfl ht hfd hag hx' hs he)
  case index t x i =>
    split at hc
    · rename_i n e ht
      simp only [Option.bind_eq_bind, Option.bind_eq_some_iff, Option.some.injEq] at hc
      obtain ⟨ag, hag, sz, hsz, x', hx', y', hy', rfl⟩ := hc
      exact pe (pure_ix rfl ht hag hsz hx' hy' hs he)
    · cases hc
  case indexAddr t x i =>
    split at hc
    · rename_i e ht
      simp only [Option.bind_eq_bind, Option.bind_eq_some_iff, Option.some.injEq] at hc
      obtain ⟨sz, hsz, x', hx', y', hy', rfl⟩ := hc
      exact pe (pure_ia rfl ht hsz hx' hy' hs hr he)
    · rename_i n e ht
      simp only [Option.bind_eq_bind, Option.bind_eq_some_iff, Option.some.injEq] at hc
      obtain ⟨sz, hsz, x', hx', y', hy', rfl⟩ := hc
      exact pe (pure_iaa rfl ht hsz hx' hy' hs he)
    · cases hc
  case extract x i =>
    rw [Option.map_eq_some_iff] at hc
    obtain ⟨x', hx, rfl⟩ := hc
    exact pe (pure_ext rfl hx hs he)
  case call c =>
    obtain ⟨callee, args, argTypes⟩ := c
    cases callee with
    | invoke r m => simp only at hc; cases hc
    | value x =>
      have gen : ∀ {x' : MX} {args' : List MX}, cX x = some x' → cXs args.toList = some args' → evO lk O s h (.callv x' args') = some (m, h') → OpOK lk P ⟨dst, .call ⟨.value x, args, argTypes⟩, type, pos, after, guard⟩ a w E m h' := by
        intro x' args' hx ha he
        simp only [evO] at he
        split at he
        case h_2 => cases he
        rename_i f q caps hb
        have h1 := hs.x hx
        rw [hb] at h1
        have h2 := hs.xs ha
        generalize hxv : a.eval x = xv at h1
        cases h1 with
        | fn _ _ _ vs hl hv =>
          have hcv : Vs E w caps vs := ⟨hl, hv⟩
          refine ok_call hO hnd hr (vs := vs.take q ++ args.toList.map a.eval ++ vs.drop q) (((hcv.take q).append h2).append (hcv.drop q)) (fun w' => ?_) he
          have e1 : (vs.take q).toArray ++ args.map a.eval ++ (vs.drop q).toArray = (vs.take q ++ args.toList.map a.eval ++ vs.drop q).toArray := by
            apply Array.ext'; simp
          simp [execOp, resolve, hxv, Deferred.ofValue, invoke, e1]
      have gen2 : ∀ {f : Nat} {args' : List MX}, x = .func f → cXs args.toList = some args' → O f (args'.map (MX.get s)) h = some (m, h') → OpOK lk P ⟨dst, .call ⟨.value x, args, argTypes⟩, type, pos, after, guard⟩ a w E m h' := by
        intro f args' hx ha he
        subst hx
        have h2 := hs.xs ha
        refine ok_call hO hnd hr h2 (fun w' => ?_) he
        have e1 : args.map a.eval = (args.toList.map a.eval).toArray := by apply Array.ext'; simp
        simp [execOp, resolve, Act.eval, Deferred.ofValue, invoke, e1]
      cases x with
      | func f =>
        simp only at hc
        split at hc
        case isFalse => cases hc
        simp only [Option.bind_eq_bind, Option.bind_eq_some_iff, Option.some.injEq] at hc
        obtain ⟨args', ha, rfl⟩ := hc
        exact ⟨gen2 rfl ha he, fun hp => by simp [MO.isP] at hp⟩
      | tmp t =>
        simp only [Option.bind_eq_bind, Option.bind_eq_some_iff, Option.some.injEq] at hc
        obtain ⟨x', hx, args', ha, rfl⟩ := hc
        exact ⟨gen hx ha he, fun hp => by simp [MO.isP] at hp⟩
      | const t =>
        simp only [Option.bind_eq_bind, Option.bind_eq_some_iff, Option.some.injEq] at hc
        obtain ⟨x', hx, args', ha, rfl⟩ := hc
        exact ⟨gen hx ha he, fun hp => by simp [MO.isP] at hp⟩
      | global t =>
        simp only [Option.bind_eq_bind, Option.bind_eq_some_iff, Option.some.injEq] at hc
        obtain ⟨x', hx, args', ha, rfl⟩ := hc
        exact ⟨gen hx ha he, fun hp => by simp [MO.isP] at hp⟩
    | builtin b =>
      simp only at hc
      split at hc
      · rename_i x t ha hat
        split at hc
        case h_2 => cases hc
        rename_i e ht
        rw [Option.map_eq_some_iff] at hc
        obtain ⟨x', hx, rfl⟩ := hc
        exact pe (pure_len rfl rfl (by apply Array.ext'; exact ha) (by apply Array.ext'; exact hat) ht hx hs he)
      · rename_i x y t u ha hat
        split at hc
        case h_2 => cases hc
        rename_i e e' ht htx
        simp only [Option.bind_eq_bind, Option.bind_eq_some_iff] at hc
        obtain ⟨i, hi, z, hz, hc⟩ := hc
        split at hc
        case isFalse => cases hc
        rename_i hcond
        simp only [Option.bind_eq_some_iff, Option.some.injEq] at hc
        obtain ⟨x', hx, y', hy, rfl⟩ := hc
        exact ⟨(eff_app rfl rfl (by apply Array.ext'; exact ha) (by apply Array.ext'; exact hat) ht htx hi hz hcond.1 hcond.2.2.1 hcond.2.2.2 hx hy hs hr he).ok hnd, fun hp => by simp [MO.isP] at hp⟩
      · rename_i x y ha
        simp only [Option.bind_eq_bind, Option.bind_eq_some_iff, Option.some.injEq] at hc
        obtain ⟨x', hx, y', hy, rfl⟩ := hc
        exact pe (pure_mx rfl rfl (by apply Array.ext'; exact ha) hx hy hs he)
      · rename_i x y ha
        simp only [Option.bind_eq_bind, Option.bind_eq_some_iff, Option.some.injEq] at hc
        obtain ⟨x', hx, y', hy, rfl⟩ := hc
        exact pe (pure_mn rfl rfl (by apply Array.ext'; exact ha) hx hy hs he)
      · cases hc

end Go.Proofs.Ytgjpdjihjphbdaa
