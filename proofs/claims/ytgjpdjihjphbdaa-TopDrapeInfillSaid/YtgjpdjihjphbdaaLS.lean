/- What the small language computes is what the program computes: operations that leave memory alone. -/
import Derived.Test.YtgjpdjihjphbdaaLV
import Derived.Great.BuildSlice
import Derived.Deep.AppendSrc
import Derived.Laws.MakeOwn
/- What the small language computes is what the program computes: operations that leave memory alone. -/
namespace Go.Proofs.Ytgjpdjihjphbdaa
open Go.RowKit

theorem Vs.append {E : Env} {w : World} {a b : List MV} {c d : List Value} (h : Vs E w a c) (k : Vs E w b d) : Vs E w (a ++ b) (c ++ d) :=
  ⟨by simp [h.1, k.1], fun i m v hm hv => by
    by_cases hi : i < a.length
    · rw [List.getElem?_append_left hi] at hm
      rw [List.getElem?_append_left (h.1 ▸ hi)] at hv
      exact h.2 i m v hm hv
    · rw [List.getElem?_append_right (by omega)] at hm
      rw [List.getElem?_append_right (by rw [← h.1]; omega), ← h.1] at hv
      exact k.2 _ m v hm hv⟩
theorem Vs.take {E : Env} {w : World} {a : List MV} {c : List Value} (h : Vs E w a c) (n : Nat) : Vs E w (a.take n) (c.take n) :=
  ⟨by simp [h.1], fun i m v hm hv => by
    rw [List.getElem?_take] at hm hv
    split at hm
    · rename_i hlt; rw [if_pos hlt] at hv; exact h.2 i m v hm hv
    · cases hm⟩
theorem Vs.drop {E : Env} {w : World} {a : List MV} {c : List Value} (h : Vs E w a c) (n : Nat) : Vs E w (a.drop n) (c.drop n) :=
  ⟨by simp [h.1], fun i m v hm hv => by
    rw [List.getElem?_drop] at hm hv
    exact h.2 _ m v hm hv⟩

/-- The slots. -/
def Slots (E : Env) (w : World) (s : List MV) (a : Act) : Prop := s.length = a.tmps.size ∧ ∀ (i : Nat) m v, s[i]? = some m → a.tmps[i]? = some v → V E w m v

theorem Slots.ext {lk : Nat → Bool} {E : Env} {h : MHeap} {w : World} (hr : HRel E h w) {E' : Env} {w' : World} (hx : Ext lk E w E' w') {s : List MV} {a : Act} (hs : Slots E w s a) : Slots E' w' s a :=
  ⟨hs.1, fun i m v hm hv => (hs.2 i m v hm hv).ext hr hx⟩
theorem Slots.put {E : Env} {w : World} {s : List MV} {a : Act} (hs : Slots E w s a) {m : MV} {v : Value} (hv : V E w m v) (d : Option Nat) : Slots E w (putM s d m) (a.put d v) := by
  cases d with
  | none => exact hs
  | some d =>
    refine ⟨by simp [putM, Act.put, hs.1], fun i m' v' hm hv' => ?_⟩
    simp only [putM, Act.put] at hm hv'
    by_cases e : d = i
    · subst e
      rw [List.getElem?_set] at hm
      rw [Array.getElem?_setIfInBounds] at hv'
      split at hm
      · split at hm
        · split at hv'
          · split at hv'
            · cases hm; cases hv'; exact hv
            · cases hv'
          · rename_i hne; exact absurd rfl hne
        · cases hm
      · rename_i hne; exact absurd rfl hne
    · rw [List.getElem?_set_ne e] at hm
      rw [Array.getElem?_setIfInBounds_ne e] at hv'
      exact hs.2 i m' v' hm hv'
theorem Slots.defers {E : Env} {w : World} {s : List MV} {t : Array Value} {ds es : List Deferred} (hs : Slots E w s ⟨t, ds⟩) : Slots E w s ⟨t, es⟩ := hs

theorem V.ofV {E : Env} {w : World} (v : Value) : V E w (ofV v) v := by
  unfold Ytgjpdjihjphbdaa.ofV
  split
  · rename_i vs
    have := V.agg (E := E) (w := w) (vs.toList.map .lit) vs.toList (by simp) (fun i c v hc hv => by
      rw [List.getElem?_map] at hc
      rw [hv] at hc
      cases hc
      exact .lit v)
    simpa using this
  · exact .lit _

theorem Slots.tmp {E : Env} {w : World} {s : List MV} {a : Act} (hs : Slots E w s a) (t : Nat) : V E w (s.getD t (.lit undef)) (a.tmps.getD t undef) := by
  by_cases h : t < s.length
  · have h' : t < a.tmps.size := hs.1 ▸ h
    have := hs.2 t s[t] a.tmps[t] (by simp [h]) (by simp [h'])
    simpa [List.getD, h, h'] using this
  · have h' : ¬ t < a.tmps.size := hs.1 ▸ h
    simp [List.getD, h, h']
    exact .lit _
theorem Slots.x {E : Env} {w : World} {s : List MV} {a : Act} (hs : Slots E w s a) {x : Operand} {x' : MX} (hx : cX x = some x') : V E w (x'.get s) (a.eval x) := by
  cases x with
  | tmp t => simp [cX] at hx; subst hx; exact hs.tmp t
  | const v => simp [cX] at hx; subst hx; exact V.ofV v
  | func f =>
    simp [cX] at hx; subst hx
    exact V.fn f 0 [] [] rfl (fun i c v hc => by simp at hc)
  | global g => simp [cX] at hx

theorem mapM_some {α β : Type} {f : α → Option β} : ∀ {l : List α} {l' : List β}, l.mapM f = some l' → l.length = l'.length ∧ ∀ (i : Nat) x y, l[i]? = some x → l'[i]? = some y → f x = some y
  | [], l', h => by simp at h; subst h; simp
  | x :: l, l', h => by
    simp only [List.mapM_cons, Option.pure_def, Option.bind_eq_bind, Option.bind_eq_some_iff] at h
    obtain ⟨y, hy, l'', hl, e⟩ := h
    cases e
    obtain ⟨h1, h2⟩ := mapM_some hl
    refine ⟨by simp [h1], fun i x' y' hx hy' => ?_⟩
    cases i with
    | zero => simp at hx hy'; subst hx hy'; exact hy
    | succ i => simp at hx hy'; exact h2 i x' y' hx hy'

theorem Slots.xs {E : Env} {w : World} {s : List MV} {a : Act} (hs : Slots E w s a) {xs : List Operand} {xs' : List MX} (hx : cXs xs = some xs') : Vs E w (xs'.map (MX.get s)) (xs.map a.eval) := by
  obtain ⟨h1, h2⟩ := mapM_some hx
  refine ⟨by simp [h1], fun i c v hc hv => ?_⟩
  rw [List.getElem?_map, Option.map_eq_some_iff] at hc hv
  obtain ⟨x', h3, rfl⟩ := hc
  obtain ⟨x, h4, rfl⟩ := hv
  exact hs.x (h2 i x x' h4 h3)

section
variable {P : Program} {o : Oper} {a : Act} {w w' : World} {r : Option Nat} {n : Nat} {K : Act → World → Prop} {Q : Exit → Act → World → Prop}
theorem wpIn_val {v : Value} (hnd : ∀ c, o.op ≠ .defer c) (h : (execOp a.eval o).run P w = .ok (.value v) w') (hk : K (a.put o.dst v) w') : o.wpIn (Fw r) n P a w K Q :=
  ⟨about_wide o a w, by rw [Oper.semAt_eq _ _ _ hnd, h]; exact hk⟩
theorem wpIn_skp (hnd : ∀ c, o.op ≠ .defer c) (h : (execOp a.eval o).run P w = .ok .skip w') (hk : K (a.put o.dst undef) w') : o.wpIn (Fw r) n P a w K Q :=
  ⟨about_wide o a w, by rw [Oper.semAt_eq _ _ _ hnd, h]; exact hk⟩
theorem wpIn_ent {f : FuncId} {args : Array Value} (hnd : ∀ c, o.op ≠ .defer c) (h : (execOp a.eval o).run P w = .ok (.enter f args) w')
    (hk : Calls P f args w' fun e w'' => ∃ v, e = .returned v ∧ K (a.put o.dst v) w'') : o.wpIn (Fw r) n P a w K Q :=
  ⟨about_wide o a w, by
    rw [Oper.semAt_eq _ _ _ hnd, h]
    exact ⟨fun h => by simp [Fence.wide] at h, (calls_in r _ hk).mono fun e w'' ⟨v, he, hk⟩ => by subst he; exact hk⟩⟩
end

theorem calm_run {α : Type} {P : Program} : ∀ {s : Sem α} {x : α}, calm P s = some x → ∀ w, s.run P w = .ok x w
  | .pure a, x, h, w => by simp [calm] at h; subst h; rfl
  | .program k, x, h, w => by simp only [calm] at h; simp only [Sem.run]; exact calm_run h w
  | .mark m k, x, h, w => by simp only [calm] at h; simp only [Sem.run]; exact calm_run h w

theorem V.bool {E : Env} {w : World} {t : Bool} {v : Value} (h : V E w (.lit (.bool t)) v) : v = .bool t := by cases h; rfl
theorem V.lit_eq {E : Env} {w : World} {u v : Value} (h : V E w (.lit u) v) : v = u := by cases h; rfl

/-- Operations whose value is known, memory being as it was. -/
def Pure (P : Program) (o : Oper) (a : Act) (w : World) (E : Env) (m : MV) : Prop := ∃ v, (execOp a.eval o).run P w = .ok (.value v) w ∧ V E w m v

section
variable {P : Program} {o : Oper} {a : Act} {w : World} {E : Env} {s : List MV} {h : MHeap}

theorem pure_mv {x : Operand} {x' : MX} (ho : o.op = .move x ∨ o.op = .assign x) (hx : cX x = some x') (hs : Slots E w s a) : Pure P o a w E (x'.get s) := by
  refine ⟨a.eval x, ?_, hs.x hx⟩
  rcases ho with ho | ho <;> simp [execOp, ho]

theorem pure_pick {c x y : Operand} {c' x' y' : MX} {t : Bool} (ho : o.op = .pick c x y) (hc : cX c = some c') (hx : cX x = some x') (hy : cX y = some y') (hs : Slots E w s a) (ht : c'.get s = .lit (.bool t)) :
    Pure P o a w E (if t then x'.get s else y'.get s) := by
  have h1 := hs.x hc
  rw [ht] at h1
  have h2 := h1.bool
  refine ⟨if t then a.eval x else a.eval y, ?_, ?_⟩
  · simp [execOp, ho, h2, asBool]
  · cases t
    · exact hs.x hy
    · exact hs.x hx

theorem pure_nilck {x : Operand} {x' : MX} {m : MV} (ho : o.op = .nilCheck x) (hx : cX x = some x') (hs : Slots E w s a) (he : x'.get s = m) (hm : (∃ id i off g, m = .ptr id i off g) ∨ (∃ e off, m = .rp e off) ∨ ∃ f k cs, m = .fn f k cs) :
    Pure P o a w E m := by
  have h1 := hs.x hx
  rw [he] at h1
  refine ⟨a.eval x, ?_, h1⟩
  rcases hm with ⟨id, i, off, g, rfl⟩ | ⟨e, off, rfl⟩ | ⟨f, k, cs, rfl⟩ <;>
    (generalize hv : a.eval x = v at h1; cases h1; simp [execOp, ho, hv])

theorem pure_un {op : UnOp} {t : TypeId} {x : Operand} {x' : MX} {v : MV} {h' : MHeap} {lk : Nat → Bool} {O : Oracle} (ho : o.op = .unOp op t x) (hx : cX x = some x') (hs : Slots E w s a) (he : evO lk O s h (.un op x') = some (v, h')) :
    h' = h ∧ Pure P o a w E v := by
  have h1 := hs.x hx
  simp only [evO] at he
  split at he
  · rename_i b hb
    simp only [Option.some.injEq, Prod.mk.injEq] at he
    obtain ⟨rfl, rfl⟩ := he
    rw [hb] at h1
    have h2 := h1.lit_eq
    exact ⟨rfl, _, by simp [execOp, ho, h2, Op.unary], .lit _⟩
  · rename_i k n hb
    simp only [Option.some.injEq, Prod.mk.injEq] at he
    obtain ⟨rfl, rfl⟩ := he
    rw [hb] at h1
    have h2 := h1.lit_eq
    exact ⟨rfl, _, by simp [execOp, ho, h2, Op.unary, Op.intArith], .lit _⟩
  · cases he

theorem pure_cv {src t : TypeId} {k : IntKind} {x : Operand} {x' : MX} {v : MV} {h' : MHeap} {lk : Nat → Bool} {O : Oracle} (ho : o.op = .convert src t x) (hsrc : P.underlying src ≠ none) (ht : P.underlying t = some (.int k)) (hx : cX x = some x') (hs : Slots E w s a)
    (he : evO lk O s h (.cv k x') = some (v, h')) : h' = h ∧ Pure P o a w E v := by
  have h1 := hs.x hx
  simp only [evO] at he
  split at he
  · rename_i k' n hb
    simp only [Option.some.injEq, Prod.mk.injEq] at he
    obtain ⟨rfl, rfl⟩ := he
    rw [hb] at h1
    have h2 := h1.lit_eq
    obtain ⟨d, hd⟩ := Option.ne_none_iff_exists'.1 hsrc
    refine ⟨rfl, _, ?_, .lit (.int k (k.wrap n))⟩
    simp [execOp, ho, h2, convert, run_underlying ht, run_underlying hd, Conv.intToInt]
  · cases he

theorem pure_mf {f : Nat} {first caps : Array Operand} {caps' : List MX} (ho : o.op = .makeFunc (.func f) first caps) (hc : cXs (first.toList ++ caps.toList) = some caps') (hs : Slots E w s a) : Pure P o a w E (.fn f first.size (caps'.map (MX.get s))) := by
  have h1 := hs.xs hc
  refine ⟨.func (.func f) (first.map a.eval) (caps.map a.eval), by simp [execOp, ho, Instr.makeFunc], ?_⟩
  have := V.fn f first.size _ _ h1.1 h1.2
  have e1 : (List.take first.size (List.map a.eval (first.toList ++ caps.toList))).toArray = first.map a.eval := by
    apply Array.ext'
    rw [List.map_append, List.take_left' (by simp)]
    simp
  have e2 : (List.drop first.size (List.map a.eval (first.toList ++ caps.toList))).toArray = caps.map a.eval := by
    apply Array.ext'
    rw [List.map_append, List.drop_left' (by simp)]
    simp
  rwa [e1, e2] at this

theorem pure_ext {x : Operand} {x' : MX} {i : Nat} {v : MV} {h' : MHeap} {lk : Nat → Bool} {O : Oracle} (ho : o.op = .extract x i) (hx : cX x = some x') (hs : Slots E w s a) (he : evO lk O s h (.ext x' i) = some (v, h')) : h' = h ∧ Pure P o a w E v := by
  have h1 := hs.x hx
  simp only [evO] at he
  split at he
  · rename_i vs hb
    rw [Option.map_eq_some_iff] at he
    obtain ⟨u, hu, he⟩ := he
    simp only [Prod.mk.injEq] at he
    obtain ⟨rfl, rfl⟩ := he
    rw [hb] at h1
    generalize hv : a.eval x = y at h1
    cases h1 with
    | tup _ us hl hc =>
      have hi := (List.getElem?_eq_some_iff.1 hu).1
      have hus : us[i]? = some (us[i]'(hl ▸ hi)) := by simp
      exact ⟨rfl, _, by simp [execOp, ho, hv, Instr.extract, hus], hc i _ _ hu hus⟩
  · cases he

theorem pure_mx {x y : Operand} {x' y' : MX} {c : Call} {v : MV} {h' : MHeap} {lk : Nat → Bool} {O : Oracle} (ho : o.op = .call c) (hc : c.callee = .builtin .max) (ha : c.args = #[x, y]) (hx : cX x = some x') (hy : cX y = some y') (hs : Slots E w s a) (he : evO lk O s h (.mx x' y') = some (v, h')) : h' = h ∧ Pure P o a w E v := by
  have h1 := hs.x hx
  have h2 := hs.x hy
  simp only [evO] at he
  split at he
  · rename_i k n k' n' hb hb'
    simp only [Option.some.injEq, Prod.mk.injEq] at he
    obtain ⟨rfl, rfl⟩ := he
    rw [hb] at h1; rw [hb'] at h2
    have h3 := h1.lit_eq
    have h4 := h2.lit_eq
    refine ⟨rfl, _, ?_, .lit _⟩
    simp [execOp, ho, resolve, hc, ha, invoke, builtin, h3, h4, Builtin.max_, Builtin.max2]
  · cases he

theorem pure_mn {x y : Operand} {x' y' : MX} {c : Call} {v : MV} {h' : MHeap} {lk : Nat → Bool} {O : Oracle} (ho : o.op = .call c) (hc : c.callee = .builtin .min) (ha : c.args = #[x, y]) (hx : cX x = some x') (hy : cX y = some y') (hs : Slots E w s a) (he : evO lk O s h (.mn x' y') = some (v, h')) : h' = h ∧ Pure P o a w E v := by
  have h1 := hs.x hx
  have h2 := hs.x hy
  simp only [evO] at he
  split at he
  · rename_i k n k' n' hb hb'
    simp only [Option.some.injEq, Prod.mk.injEq] at he
    obtain ⟨rfl, rfl⟩ := he
    rw [hb] at h1; rw [hb'] at h2
    have h3 := h1.lit_eq
    have h4 := h2.lit_eq
    refine ⟨rfl, _, ?_, .lit _⟩
    simp [execOp, ho, resolve, hc, ha, invoke, builtin, h3, h4, Builtin.min_, Builtin.min2]
  · cases he

theorem pure_len {x : Operand} {x' : MX} {c : Call} {t e : TypeId} {v : MV} {h' : MHeap} {lk : Nat → Bool} {O : Oracle} (ho : o.op = .call c) (hc : c.callee = .builtin .len) (ha : c.args = #[x]) (hat : c.argTypes = #[t]) (ht : P.underlying t = some (.slice e)) (hx : cX x = some x') (hs : Slots E w s a)
    (he : evO lk O s h (.len x') = some (v, h')) : h' = h ∧ Pure P o a w E v := by
  have h1 := hs.x hx
  simp only [evO] at he
  split at he
  · rename_i n hb
    simp only [Option.some.injEq, Prod.mk.injEq] at he
    obtain ⟨rfl, rfl⟩ := he
    refine ⟨rfl, goInt n, ?_, .lit _⟩
    have : ∃ A c, a.eval x = .slice A n c := by
      generalize a.eval x = y at h1
      generalize x'.get s = m at h1 hb
      cases h1 with
      | lit =>
        cases y <;> simp [MV.slen] at hb
        subst hb; exact ⟨_, _, rfl⟩
      | sl es vs A cap sz => simp [MV.slen] at hb; subst hb; exact ⟨_, _, rfl⟩
      | arr id i n g A cap => simp [MV.slen] at hb; subst hb; exact ⟨_, _, rfl⟩
      | _ => simp [MV.slen] at hb
    obtain ⟨A, cc, hy⟩ := this
    simp [execOp, ho, resolve, hc, ha, hat, invoke, builtin, hy, Builtin.len_, run_underlying ht]
  · cases he
end

end Go.Proofs.Ytgjpdjihjphbdaa

/- What the small language computes is what the program computes: loads, stores. -/
namespace Go.Proofs.Ytgjpdjihjphbdaa
open Go.RowKit

theorem flat_cons (e : MV) (es : List MV) : flat (e :: es) = e.cells ++ flat es := rfl
theorem flat_len {sz : Nat} : ∀ {es : List MV}, (∀ e ∈ es, e.cells.length = sz) → (flat es).length = es.length * sz
  | [], _ => by simp [flat]
  | e :: es, h => by
    rw [flat_cons, List.length_append, h e (by simp), flat_len (fun x hx => h x (by simp [hx])), List.length_cons, Nat.add_mul]
    omega
theorem flat_at {sz : Nat} : ∀ {es : List MV}, (∀ e ∈ es, e.cells.length = sz) → ∀ {i : Nat} {e : MV} {j : Nat}, es[i]? = some e → j < sz → (flat es)[i * sz + j]? = e.cells[j]?
  | e :: es, h, 0, e', j, hi, hj => by
    simp at hi; subst hi
    rw [flat_cons, Nat.zero_mul, Nat.zero_add, List.getElem?_append_left (by rw [h e (by simp)]; exact hj)]
  | e :: es, h, i + 1, e', j, hi, hj => by
    simp at hi
    have := flat_at (fun x hx => h x (by simp [hx])) hi hj
    rw [flat_cons, List.getElem?_append_right (by rw [h e (by simp)]; rw [Nat.add_mul]; omega), h e (by simp), ← this]
    congr 1
    rw [Nat.add_mul]; omega
theorem flat_iff {sz : Nat} {es : List MV} (h : ∀ e ∈ es, e.cells.length = sz) {k : Nat} {c : MV} : (flat es)[k]? = some c ↔ ∃ i j e, k = i * sz + j ∧ j < sz ∧ es[i]? = some e ∧ e.cells[j]? = some c := by
  constructor
  · intro hk
    have hlt := (List.getElem?_eq_some_iff.1 hk).1
    rw [flat_len h] at hlt
    have hsz : 0 < sz := by
      rcases Nat.eq_zero_or_pos sz with h0 | h0
      · rw [h0, Nat.mul_zero] at hlt; omega
      · exact h0
    have hi : k / sz < es.length := Nat.div_lt_of_lt_mul (by rw [Nat.mul_comm]; exact hlt)
    have hkk : k = k / sz * sz + k % sz := by rw [Nat.mul_comm]; exact (Nat.div_add_mod k sz).symm
    refine ⟨k / sz, k % sz, es[k / sz], hkk, Nat.mod_lt _ hsz, by simp [hi], ?_⟩
    rw [← flat_at h (List.getElem?_eq_getElem hi) (Nat.mod_lt _ hsz), ← hkk]
    exact hk
  · rintro ⟨i, j, e, rfl, hj, he, hc⟩
    rw [flat_at h he hj]; exact hc

section
variable {P : Program} {w : World} {E : Env}

def isAggD : TypeDesc → Bool
  | .struct _ | .array _ _ => true
  | _ => false
theorem tagg_none {t : TypeId} (h : tagg P t = some none) : ∃ d, P.underlying t = some d ∧ isAggD d = false := by
  unfold tagg at h
  cases hd : P.underlying t with
  | none => rw [hd] at h; cases h
  | some d =>
    rw [hd] at h
    refine ⟨d, rfl, ?_⟩
    cases d <;> first | rfl | (simp at h)
theorem tagg_some {t : TypeId} {n : Nat} (h : tagg P t = some (some n)) : (∃ d, P.underlying t = some d ∧ isAggD d = true) ∧ ∃ i, P.info? t = some i ∧ i.size = n := by
  unfold tagg at h
  cases hd : P.underlying t with
  | none => rw [hd] at h; cases h
  | some d =>
    rw [hd] at h
    cases d <;> simp [tsz] at h <;> (obtain ⟨i, h1, h2⟩ := h; exact ⟨⟨_, rfl, rfl⟩, i, h1, h2⟩)

theorem run_isAgg {t : TypeId} {d : TypeDesc} {b : Bool} (h : P.underlying t = some d) (hd : isAggD d = b) (w : World) : (isAgg t).run P w = .ok b w := by
  unfold isAgg
  simp only [Sem.run_bind, run_underlying h, Result.andThen_ok]
  subst hd
  cases d <;> rfl
theorem Addr.add_none (b o i : Nat) : (⟨b, o, none⟩ : Addr).add i = ⟨b, o + i, none⟩ := by unfold Addr.add; split <;> simp_all

theorem run_loadVar_m {t : TypeId} {ag : Option Nat} (ht : tagg P t = some ag) {ms : List MV} {vs : List Value} (hv : Vs E w ms vs) {b o : Nat} (hc : ∀ (i : Nat) v, vs[i]? = some v → w.cell? ⟨b, o + i, none⟩ = some v)
    {off : Nat} {m : MV} (hm : rdCells ms off ag = some m) : ∃ v, (loadVar t ⟨b, o + off, none⟩).run P w = .ok v w ∧ V E w m v := by
  cases ag with
  | none =>
    obtain ⟨d, h1, h2⟩ := tagg_none ht
    simp only [rdCells] at hm
    have hlt := (List.getElem?_eq_some_iff.1 hm).1
    rw [hv.1] at hlt
    have hx : vs[off]? = some vs[off] := by simp
    refine ⟨vs[off], ?_, hv.2 off m _ hm hx⟩
    simp [loadVar, run_isAgg h1 h2, hc off _ hx]
  | some n =>
    obtain ⟨⟨d, h1, h2⟩, i, hi, hn⟩ := tagg_some ht
    simp only [rdCells] at hm
    split at hm
    · rename_i hle
      cases hm
      have hle' : off + n ≤ vs.length := hv.1 ▸ hle
      have hcs : ((vs.drop off).take n).length = n := by simp; omega
      have hrun := run_loadCells_list (P := P) w ⟨b, o + off, none⟩ ((vs.drop off).take n) (fun j v hj => by
        rw [Addr.add_none, Nat.add_assoc]
        refine hc (off + j) v ?_
        rw [List.getElem?_take] at hj
        split at hj
        · rwa [List.getElem?_drop] at hj
        · cases hj)
      rw [hcs] at hrun
      refine ⟨.agg ((vs.drop off).take n).toArray, ?_, .agg _ _ (by simp; omega) fun j c v hj hv' => ?_⟩
      · simp [loadVar, run_isAgg h1 h2, sizeOf, typeInfo, hi, hn, hrun]
      · rw [List.getElem?_take] at hj hv'
        split at hj
        · rename_i hlt
          rw [if_pos hlt] at hv'
          rw [List.getElem?_drop] at hj hv'
          exact hv.2 _ c v hj hv'
        · cases hj
    · cases hm

/-- The cells of an object's element. -/
theorem HRel.elem {h : MHeap} (hr : HRel E h w) {id i g : Nat} {ob : MObj} {e : MV} (hk : E.K id) (hob : h[id]? = some ob) (hg : ob.g = g) (he : ob.es[i]? = some e) :
    E.gn id = g ∧ E.sz id = ob.sz ∧ e.cells.length = ob.sz ∧ E.ln id = ob.es.length ∧ 0 < E.cp id ∧ ∃ vs, Vs E w e.cells vs ∧ ∀ (j : Nat) v, vs[j]? = some v → w.cell? ⟨E.ρ id, (E.bo id + i) * E.sz id + j, none⟩ = some v := by
  obtain ⟨es, h1, h2, h3, h4, h5⟩ := hr.obj id hk
  rw [hob] at h1
  simp only [Option.some.injEq] at h1
  subst h1
  dsimp only at hg he ⊢
  have hi := (List.getElem?_eq_some_iff.1 he).1
  have hcp : 0 < E.cp id := by omega
  have hel := h3 e (List.mem_of_getElem? he)
  obtain ⟨arr, t, a1, a2, a3⟩ := h5 hcp
  refine ⟨hg, rfl, hel, h2, hcp, ?_⟩
  have hbase : (E.bo id + i) * E.sz id + E.sz id ≤ arr.size := by
    rw [a2, ← Nat.succ_mul]
    exact Nat.mul_le_mul_right _ (by omega)
  refine ⟨(arr.toList.drop ((E.bo id + i) * E.sz id)).take (E.sz id), ⟨by simp [hel]; omega, fun j c v hj hv => ?_⟩, fun j v hj => ?_⟩
  · have hjl : j < E.sz id := by have := (List.getElem?_eq_some_iff.1 hj).1; omega
    have := (flat_iff h3).2 ⟨i, j, e, rfl, hjl, he, hj⟩
    obtain ⟨v', b1, b2⟩ := a3 _ c this
    rw [List.getElem?_take, if_pos hjl, List.getElem?_drop] at hv
    have e1 : (E.bo id + i) * E.sz id + j = E.bo id * E.sz id + (i * E.sz id + j) := by rw [Nat.add_mul]; omega
    rw [e1, Array.getElem?_toList, b1] at hv
    cases hv
    exact b2
  · rw [List.getElem?_take] at hj
    split at hj
    · rw [List.getElem?_drop, Array.getElem?_toList] at hj
      simp [World.cell?, a1, hj]
    · cases hj

variable {o : Oper} {a : Act} {s : List MV} {h : MHeap}

theorem pure_ld {t : TypeId} {ag : Option Nat} {x : Operand} {x' : MX} {v : MV} {h' : MHeap} {lk : Nat → Bool} {O : Oracle} (ho : o.op = .load t x) (ht : tagg P t = some ag) (hx : cX x = some x') (hs : Slots E w s a) (hr : HRel E h w)
    (he : evO lk O s h (.ld ag x') = some (v, h')) : h' = h ∧ Pure P o a w E v := by
  have h1 := hs.x hx
  simp only [evO] at he
  have key : ∀ {b o' : Nat} {ms : List MV} {vs : List Value} {off : Nat}, a.eval x = .pointer (some ⟨b, o' + off, none⟩) → Vs E w ms vs → (∀ (i : Nat) v, vs[i]? = some v → w.cell? ⟨b, o' + i, none⟩ = some v) → (rdCells ms off ag).map (fun v => (v, h)) = some (v, h') → h' = h ∧ Pure P o a w E v := by
    intro b o' ms vs off hp hv hc hm
    rw [Option.map_eq_some_iff] at hm
    obtain ⟨m, hm, e⟩ := hm
    simp only [Prod.mk.injEq] at e
    obtain ⟨rfl, rfl⟩ := e
    obtain ⟨u, hu, hV⟩ := run_loadVar_m ht hv hc hm
    exact ⟨rfl, u, by simp [execOp, ho, hp, Instr.loadAt, Instr.sureAddr, hu], hV⟩
  split at he
  · rename_i e off hb
    rw [hb] at h1
    generalize hy : a.eval x = y at h1
    cases h1 with
    | rp _ _ vs b o' hl hc hS hcell => exact key hy ⟨hl, hc⟩ hcell he
  · rename_i id i off g hb
    rw [hb] at h1
    generalize hy : a.eval x = y at h1
    cases h1 with
    | ptr _ _ _ _ b o' hk hg hd =>
      split at he
      · rename_i ob hob
        split at he
        · rename_i hog
          split at he
          · rename_i e hel
            obtain ⟨c1, c2, c3, c4, c5, vs, c6, c7⟩ := hr.elem hk hob hog hel
            obtain ⟨rfl, rfl, _⟩ := hd c1
            exact key hy c6 c7 he
          · cases he
        · cases he
      · cases he
  · cases he

/-- Cells put over others. -/
theorem splice_at {cs vs : List MV} {off : Nat} (hl : off + vs.length ≤ cs.length) (k : Nat) : (splice cs off vs)[k]? = if off ≤ k ∧ k < off + vs.length then vs[k - off]? else cs[k]? := by
  unfold splice
  by_cases h1 : k < off
  · rw [List.append_assoc, List.getElem?_append_left (by simp; omega), List.getElem?_take, if_pos h1, if_neg (by omega)]
  · by_cases h2 : k < off + vs.length
    · rw [if_pos (by omega), List.append_assoc, List.getElem?_append_right (by simp; omega), List.getElem?_append_left (by simp; omega)]
      congr 1; simp; omega
    · rw [if_neg (by omega), List.getElem?_append_right (by simp; omega), List.getElem?_drop]
      congr 1; simp; omega
theorem splice_len {cs vs : List MV} {off : Nat} (hl : off + vs.length ≤ cs.length) : (splice cs off vs).length = cs.length := by unfold splice; simp; omega

theorem wrElem_cells {e e' v : MV} {off : Nat} (h : wrElem e off v = some e') : off + v.cells.length ≤ e.cells.length ∧ e'.cells.length = e.cells.length ∧ ∀ k : Nat, e'.cells[k]? = if off ≤ k ∧ k < off + v.cells.length then v.cells[k - off]? else e.cells[k]? := by
  unfold wrElem at h
  split at h
  · rename_i hl
    refine ⟨hl, ?_⟩
    split at h
    · cases h
      exact ⟨splice_len hl, splice_at hl⟩
    · rename_i hne
      split at h
      · rename_i h1
        cases h
        have hc : e.cells = [e] := by cases e <;> first | rfl | exact absurd rfl (hne _)
        rw [hc] at hl ⊢
        simp only [List.length_cons, List.length_nil, Nat.zero_add] at hl ⊢
        have : off = 0 := by omega
        subst this
        refine ⟨h1, fun k => ?_⟩
        by_cases hk : k < 1
        · rw [if_pos (by omega)]; rfl
        · rw [if_neg (by omega), List.getElem?_eq_none (by omega), List.getElem?_eq_none (by simp; omega)]
      · cases h
  · cases h

end

end Go.Proofs.Ytgjpdjihjphbdaa

/- What the small language computes is what the program computes: stores, new memory. -/
namespace Go.Proofs.Ytgjpdjihjphbdaa
open Go.RowKit

/-- What an operation comes to. -/
def Eff (lk : Nat → Bool) (P : Program) (o : Oper) (a : Act) (w : World) (E : Env) (m : MV) (h' : MHeap) : Prop :=
  ∃ v w' E', ((execOp a.eval o).run P w = .ok (.value v) w' ∨ ((execOp a.eval o).run P w = .ok .skip w' ∧ v = undef)) ∧ V E' w' m v ∧ HRel E' h' w' ∧ Ext lk E w E' w'

section
variable {lk : Nat → Bool} {P : Program} {w : World} {E : Env} {o : Oper} {a : Act} {s : List MV} {h : MHeap}

theorem Pure.eff {m : MV} (hp : Pure P o a w E m) (hr : HRel E h w) : Eff lk P o a w E m h := by
  obtain ⟨v, h1, h2⟩ := hp
  exact ⟨v, w, E, .inl h1, h2, hr, Ext.refl _ _ _⟩

theorem HRel.write (hr : HRel E h w) {id : Nat} (hlk : lk id = false) {ob : MObj} {es' : List MV} {w' : World} {arr' : Array Value} {t : TypeId} (hk : E.K id) (hc : 0 < E.cp id) (hob : h[id]? = some ob) (hlen : es'.length = ob.es.length)
    (hsz : ∀ e ∈ es', e.cells.length = E.sz id) (h1 : w'.os = w.os ∧ w'.tape = w.tape ∧ w'.output = w.output ∧ w'.heap.size = w.heap.size) (hkeep : ∀ k, k ≠ E.ρ id → w'.heap[k]? = w.heap[k]?)
    (hh : w'.heap[E.ρ id]? = some (.cells arr' t (0, 0))) (hs : arr'.size = E.cp id * E.sz id) (hcells : ∀ (k : Nat) c, (flat es')[k]? = some c → ∃ v, arr'[E.bo id * E.sz id + k]? = some v ∧ V E w c v) :
    HRel E (h.set id { ob with es := es' }) w' ∧ Ext lk E w E w' := by
  have hx : Ext lk E w E w' := ⟨h1.1, h1.2.1, h1.2.2.1, Nat.le_of_eq h1.2.2.2.symm, fun k hk' hn => hkeep k (fun e => hn id hk hlk hc e.symm), fun _ h => h, fun _ h => h, fun _ _ => ⟨Nat.le_refl _, fun _ => ⟨rfl, rfl, rfl, rfl, rfl, rfl⟩⟩, fun _ _ _ => rfl, fun _ hj hcj => .inl ⟨hj, hcj, rfl⟩, rfl, fun _ h => .inl h, rfl, fun _ h => .inl h⟩
  have hidl := hr.klt id hk
  refine ⟨⟨fun j hj => by simpa using hr.klt j hj, by simpa using hr.top, fun j hj => ?_, hr.inj, hr.sep, fun b hb => by rw [h1.2.2.2]; exact hr.slt b hb⟩, hx⟩
  by_cases e : j = id
  · subst e
    obtain ⟨es, a1, a2, a3, a4, a5⟩ := hr.obj j hj
    rw [hob] at a1
    simp only [Option.some.injEq] at a1
    subst a1
    dsimp only at hlen ⊢
    refine ⟨es', by simp [hidl], by rw [a2, hlen], hsz, by rw [hlen]; exact a4, fun _ => ⟨arr', t, hh, hs, fun k c hkc => ?_⟩⟩
    obtain ⟨v, b1, b2⟩ := hcells k c hkc
    exact ⟨v, b1, b2.ext hr hx⟩
  · obtain ⟨es, a1, a2, a3, a4, a5⟩ := hr.obj j hj
    refine ⟨es, by rw [List.getElem?_set_ne (fun e' => e e'.symm)]; exact a1, a2, a3, a4, fun hcj => ?_⟩
    obtain ⟨arr, t', b1, b2, b3⟩ := a5 hcj
    refine ⟨arr, t', ?_, b2, fun k c hkc => ?_⟩
    · rw [hkeep _ (fun e' => e (hr.inj j id hj hk hcj hc e'))]; exact b1
    · obtain ⟨v, c1, c2⟩ := b3 k c hkc
      exact ⟨v, c1, c2.ext hr hx⟩

theorem sOk_cells {m : MV} {v : Value} {sz : Nat} (hv : V E w m v) (hm : m.sOk sz = true) : Vs E w m.cells v.cells.toList ∧ m.cells.length = sz ∧ ∀ u ∈ v.cells.toList, u.oneCell' = true := by
  unfold MV.sOk at hm
  simp only [Bool.and_eq_true, beq_iff_eq] at hm
  obtain ⟨h1, h2⟩ := hm
  have hvs : Vs E w m.cells v.cells.toList := hv.cells (fun x e => by subst e; simp [MV.cells, MV.one, Value.oneCell'] at h2) (fun e => by subst e; simp [MV.cells, MV.one] at h2)
  refine ⟨hvs, h1, fun u hu => ?_⟩
  obtain ⟨i, hi⟩ := List.getElem?_of_mem hu
  have hil := (List.getElem?_eq_some_iff.1 hi).1
  have hc : m.cells[i]? = some (m.cells[i]'(hvs.1 ▸ hil)) := by simp
  exact (hvs.2 i _ u hc hi).one (List.all_eq_true.1 h2 _ (List.getElem_mem _))

theorem eff_st {t : TypeId} {x y : Operand} {x' y' : MX} {sz : Nat} {v : MV} {h' : MHeap} {O : Oracle} (ho : o.op = .store t x y) (ht : tsz P t = some sz) (hx : cX x = some x') (hy : cX y = some y') (hs : Slots E w s a) (hr : HRel E h w)
    (he : evO lk O s h (.st sz x' y') = some (v, h')) : Eff lk P o a w E v h' := by
  have h1 := hs.x hx
  have h2 := hs.x hy
  simp only [evO] at he
  split at he
  case isFalse => cases he
  rename_i hok
  split at he
  case h_2 => cases he
  rename_i id i off g hb
  rw [hb] at h1
  generalize hyv : a.eval x = yv at h1
  cases h1 with
  | ptr _ _ _ _ b o' hk hg hd =>
    split at he
    case h_2 => cases he
    rename_i ob hob
    split at he
    case isFalse => cases he
    rename_i hogl
    obtain ⟨hog, hlk⟩ := hogl
    split at he
    case h_2 => cases he
    rename_i e hel
    split at he
    case h_2 => cases he
    rename_i e' hwr
    simp only [Option.some.injEq, Prod.mk.injEq] at he
    obtain ⟨rfl, rfl⟩ := he
    obtain ⟨c1, c2, c3, c4, c5, -⟩ := hr.elem hk hob hog hel
    obtain ⟨rfl, rfl, _⟩ := hd c1
    obtain ⟨es, a1, a2, a3, a4, a5⟩ := hr.obj id hk
    rw [hob] at a1
    simp only [Option.some.injEq] at a1
    subst a1
    dsimp only at hog hel c2 c3 c4 ⊢
    obtain ⟨arr, te, b1, b2, b3⟩ := a5 c5
    obtain ⟨hvs, hlen, hone⟩ := sOk_cells h2 hok
    obtain ⟨w1, w2, w3⟩ := wrElem_cells hwr
    have hi := (List.getElem?_eq_some_iff.1 hel).1
    have hvl : (a.eval y).cells.toList.length = sz := by rw [← hvs.1]; exact hlen
    have hbase : (E.bo id + i) * E.sz id + E.sz id ≤ arr.size := by
      rw [b2, ← Nat.succ_mul]; exact Nat.mul_le_mul_right _ (by omega)
    have hfit : (E.bo id + i) * E.sz id + off + (a.eval y).cells.toList.length ≤ arr.size := by rw [← hvs.1]; omega
    have hrun := run_storeCells_at (P := P) (E.ρ id) ((E.bo id + i) * E.sz id + off) te (a.eval y).cells.toList 0 arr w b1 (by simpa using hfit) hone
    simp only [Nat.add_zero] at hrun
    obtain ⟨inf, hinf, hsize⟩ : ∃ inf, P.info? t = some inf ∧ inf.size = sz := by unfold tsz at ht; rwa [Option.map_eq_some_iff] at ht
    generalize harr : (arr.toList.take ((E.bo id + i) * E.sz id + off) ++ (a.eval y).cells.toList ++ arr.toList.drop ((E.bo id + i) * E.sz id + off + (a.eval y).cells.toList.length)).toArray = arr' at hrun
    have hsz' : arr'.size = arr.size := by
      rw [← harr]
      simp only [List.size_toArray, List.length_append, List.length_take, List.length_drop, Array.length_toList] at hfit ⊢
      omega
    have hat : ∀ k : Nat, arr'[k]? = if (E.bo id + i) * E.sz id + off ≤ k ∧ k < (E.bo id + i) * E.sz id + off + (a.eval y).cells.toList.length then (a.eval y).cells.toList[k - ((E.bo id + i) * E.sz id + off)]? else arr[k]? := by
      intro k
      rw [← harr, List.getElem?_toArray]
      by_cases k1 : k < (E.bo id + i) * E.sz id + off
      · rw [List.append_assoc, List.getElem?_append_left (by simp; omega), List.getElem?_take, if_pos k1, if_neg (by omega), Array.getElem?_toList]
      · by_cases k2 : k < (E.bo id + i) * E.sz id + off + (a.eval y).cells.toList.length
        · rw [if_pos (by omega), List.append_assoc, List.getElem?_append_right (by simp; omega), List.getElem?_append_left (by simp at k2 hfit ⊢; omega)]
          congr 1; simp at hfit ⊢; omega
        · rw [if_neg (by omega), List.getElem?_append_right (by simp at k2 hfit ⊢; omega), List.getElem?_drop, Array.getElem?_toList]
          congr 1; simp at k2 hfit ⊢; omega
    have hes : ∀ x ∈ es.set i e', x.cells.length = E.sz id := fun x hx => by
      rcases List.mem_or_eq_of_mem_set hx with h | h
      · exact a3 x h
      · rw [h, w2, c3]
    have hw := hr.write hlk (w' := w.setRow (E.ρ id) arr') hk c5 hob (es' := es.set i e') (by simp) hes ⟨rfl, rfl, rfl, by simp [World.setRow]⟩ (fun k hne => setRow_other w _ k _ hne) (setRow_heap w _ arr arr' te _ b1) (by rw [hsz', b2]) (fun k c hkc => by
      obtain ⟨i2, j, e2, rfl, hj, he2, hc⟩ := (flat_iff hes).1 hkc
      rw [hat]
      by_cases hi2 : i2 = i
      · subst hi2
        rw [List.getElem?_set, if_pos rfl, if_pos hi] at he2
        cases he2
        rw [w3 j] at hc
        have eadd : (E.bo id + i2) * E.sz id + j = E.bo id * E.sz id + (i2 * E.sz id + j) := by rw [Nat.add_mul]; omega
        by_cases hin : off ≤ j ∧ j < off + (y'.get s).cells.length
        · rw [if_pos hin] at hc
          rw [if_pos (by rw [← hvs.1]; omega)]
          have hil : j - off < (a.eval y).cells.toList.length := by rw [← hvs.1]; omega
          refine ⟨(a.eval y).cells.toList[j - off], ?_, hvs.2 _ _ _ hc (by simp)⟩
          have : E.bo id * E.sz id + (i2 * E.sz id + j) - ((E.bo id + i2) * E.sz id + off) = j - off := by omega
          rw [this]; simp
        · rw [if_neg hin] at hc
          rw [if_neg (by rw [← hvs.1]; omega)]
          exact b3 _ _ ((flat_iff a3).2 ⟨i2, j, e, rfl, hj, hel, hc⟩)
      · rw [List.getElem?_set_ne (fun e => hi2 e.symm)] at he2
        rw [if_neg (by
          rintro ⟨k1, k2⟩
          rw [← hvs.1] at k2
          have m1 : (E.bo id + i) * E.sz id = E.bo id * E.sz id + i * E.sz id := Nat.add_mul _ _ _
          rcases Nat.lt_or_gt_of_ne hi2 with hlt | hgt
          · have : (i2 + 1) * E.sz id ≤ i * E.sz id := Nat.mul_le_mul_right _ hlt
            rw [Nat.succ_mul] at this
            omega
          · have : (i + 1) * E.sz id ≤ i2 * E.sz id := Nat.mul_le_mul_right _ hgt
            rw [Nat.succ_mul] at this
            omega)]
        exact b3 _ _ ((flat_iff a3).2 ⟨i2, j, e2, rfl, hj, he2, hc⟩))
    refine ⟨undef, w.setRow (E.ρ id) arr', E, .inr ⟨?_, rfl⟩, .lit _, hw.1, hw.2⟩
    have hcs : (a.eval y).cells.size = inf.size := by rw [hsize, ← hvl]; simp
    simp [execOp, ho, hyv, Instr.storeAt, Instr.sureAddr, storeVar, sizeOf, typeInfo, hinf, hcs, hrun]
end

end Go.Proofs.Ytgjpdjihjphbdaa

/- What the small language computes is what the program computes: new objects. -/
namespace Go.Proofs.Ytgjpdjihjphbdaa
open Go.RowKit

section
variable {lk : Nat → Bool} {P : Program} {w : World} {E : Env} {o : Oper} {a : Act} {s : List MV} {h : MHeap}

theorem flat_one (m : MV) : flat [m] = m.cells := by simp [flat]

/-- A new block that holds an object. -/
theorem HRel.addBlock (hr : HRel E h w) {w0 : World} (hb : Below w.heap.size w w0) {es : List MV} {sz : Nat} (nl : Bool) (c : Array Value) (t : TypeId) (hes : ∀ e ∈ es, e.cells.length = sz) (hc : Vs E w (flat es) c.toList) :
    HRel (E.put h.length w0.heap.size 0 es.length sz 0 es.length nl) (h ++ [⟨0, nl, sz, es⟩]) (w0.alloc (.cells c t)) ∧ Ext lk E w (E.put h.length w0.heap.size 0 es.length sz 0 es.length nl) (w0.alloc (.cells c t)) := by
  refine hr.add (hb.alloc hb.size _) hes (Nat.le_refl _) fun _ => ⟨hb.size, c, t, World.alloc_heap_new w0 _, ?_, fun k m hk => ?_⟩
  · have := hc.1
    rw [flat_len hes] at this
    simpa using this.symm
  · have hl := (List.getElem?_eq_some_iff.1 hk).1
    have hl' : k < c.toList.length := hc.1 ▸ hl
    refine ⟨c.toList[k], by simp at hl' ⊢, hc.2 k m _ hk (by simp)⟩

theorem ptr_put {b cp sz ln : Nat} {nl : Bool} {w' : World} {id : Nat} (hl : 0 < ln) : V (E.put id b 0 cp sz 0 ln nl) w' (.ptr id 0 0 0) (.pointer (some ⟨b, 0, none⟩)) :=
  .ptr _ _ _ _ _ _ (.inr rfl) (by simp [Env.put]) fun _ => by simp [Env.put, hl]
theorem arr_put {b cp sz n : Nat} {w' : World} {id : Nat} (hn : n ≤ cp) : V (E.put id b 0 cp sz 0 n false) w' (.arr id 0 n 0) (.slice (some ⟨b, 0, none⟩) n cp) :=
  .arr _ _ _ _ _ _ (.inr rfl) (by simp [Env.put]) fun _ => by simp [Env.put, hn]

theorem eff_nil0 {x : Operand} {sz : Nat} (ho : o.op = .assign x) (hx : isNilSlice x = true) (hr : HRel E h w) : Eff lk P o a w E (.arr h.length 0 0 0) (h ++ [⟨0, true, sz, []⟩]) := by
  have hx' : x = .const (.slice none 0 0) := by
    unfold isNilSlice at hx
    split at hx
    · rfl
    · cases hx
  obtain ⟨h1, h2⟩ := hr.add (Below.refl _ w) (b := 0) (cp := 0) (sz := sz) (nl := true) (es := []) (by simp) (by simp) (by simp)
  refine ⟨.slice none 0 0, w, _, .inl (by simp [execOp, ho, hx', Act.eval]), ?_, h1, h2⟩
  exact .arr _ _ _ _ _ _ (.inr rfl) (by simp [Env.put]) fun _ => by simp [Env.put]

theorem ofV_ok {v : Value} : (ofV v).cOk = true → Vs E w (ofV v).cells v.cells.toList := fun hok => by
  refine (V.ofV v).cells (fun x e => ?_) (fun e => ?_)
  · rw [e] at hok; simp [MV.cOk] at hok
  · rw [e] at hok; simp [MV.cOk] at hok

theorem eff_new {t : TypeId} {z : MV} (ho : o.op = .alloc t) (hz : tzero P t = some z) (hok : z.cOk = true) (hr : HRel E h w) : Eff lk P o a w E (.ptr h.length 0 0 0) (h ++ [⟨0, false, z.cells.length, [z]⟩]) := by
  unfold tzero at hz
  rw [Option.map_eq_some_iff] at hz
  obtain ⟨v, hv, rfl⟩ := hz
  obtain ⟨i, hi, hzero⟩ := Option.bind_eq_some_iff.1 hv
  obtain ⟨h1, h2⟩ := hr.addBlock (Below.refl _ w) (es := [ofV v]) (sz := (ofV v).cells.length) false v.cells t (by simp) (by rw [flat_one]; exact ofV_ok hok)
  refine ⟨.pointer (some ⟨w.heap.size, 0, none⟩), _, _, .inl ?_, ptr_put (by simp), h1, h2⟩
  simp [execOp, ho, Instr.alloc, zeroValue, typeInfo, hi, hzero, newVar, newRow]

theorem eff_box {t : TypeId} {x : Operand} {x' : MX} {sz : Nat} {v : MV} {h' : MHeap} {O : Oracle} (ho : o.op = .box t x) (hx : cX x = some x') (hs : Slots E w s a) (hr : HRel E h w) (he : evO lk O s h (.box sz x') = some (v, h')) :
    Eff lk P o a w E v h' := by
  simp only [evO] at he
  split at he
  · rename_i hok
    simp only [Option.some.injEq, Prod.mk.injEq] at he
    obtain ⟨rfl, rfl⟩ := he
    have h1 := hs.x hx
    have h2 := h1.cells (fun u e => by rw [e] at hok; simp [MV.cOk] at hok) (fun e => by rw [e] at hok; simp [MV.cOk] at hok)
    obtain ⟨r1, r2⟩ := hr.addBlock (Below.refl _ w) (es := [x'.get s]) (sz := sz) false (a.eval x).cells t (by simpa using hok.1) (by rw [flat_one]; exact h2)
    exact ⟨.pointer (some ⟨w.heap.size, 0, none⟩), _, _, .inl (by simp [execOp, ho, Instr.box, newVar, newRow]), ptr_put (by simp), r1, r2⟩
  · cases he

/-- One part put into cells. -/
theorem fold_part {off : Nat} {ms : List MV} {cs : Array Value} {v : Value} {vm : List MV} (hms : Vs E w ms cs.toList) (hv : Vs E w vm v.cells.toList) (hl : off + vm.length ≤ ms.length) :
    Vs E w (splice ms off vm) (v.cells.zipIdx.foldl (fun cs (x : Value × Nat) => cs.setIfInBounds (off + x.2) x.1) cs).toList := by
  obtain ⟨g1, g2⟩ := Go.Great.foldl_set off v.cells.toList 0 cs
  have e : v.cells.zipIdx.foldl (fun cs (x : Value × Nat) => cs.setIfInBounds (off + x.2) x.1) cs = (v.cells.toList.zipIdx 0).foldl (fun cs (x : Value × Nat) => cs.setIfInBounds (off + x.2) x.1) cs := by
    rw [← Array.foldl_toList, Array.toList_zipIdx]
  rw [e]
  refine ⟨by rw [splice_len hl, hms.1]; simp [g1], fun k c u hk hu => ?_⟩
  rw [splice_at hl] at hk
  rw [Array.getElem?_toList, g2] at hu
  have hml := hms.1
  have hvl := hv.1
  simp only [Nat.add_zero] at hu
  by_cases hin : off ≤ k ∧ k < off + vm.length
  · rw [if_pos hin] at hk
    rw [if_pos (by simp at hml hvl ⊢; omega)] at hu
    exact hv.2 _ c u hk hu
  · rw [if_neg hin] at hk
    rw [if_neg (by simp at hml hvl ⊢; omega)] at hu
    exact hms.2 k c u hk (by rw [Array.getElem?_toList]; exact hu)

/-- 'fill' over parts that lie where 'place' says. -/
theorem fill_m {place : Nat → Option (Nat × Nat)} : ∀ {parts : List (Nat × Value)} {mparts : List (Nat × List MV)} {ms ms' : List MV} {cs : Array Value}, Vs E w ms cs.toList → parts.length = mparts.length →
    (∀ (i : Nat) p m, parts[i]? = some p → mparts[i]? = some m → place p.1 = some (m.1, m.2.length) ∧ Vs E w m.2 p.2.cells.toList) → fillM ms mparts = some ms' → ∃ cs', Instr.fill place cs parts = some cs' ∧ Vs E w ms' cs'.toList
  | [], [], ms, ms', cs, hms, _, _, hf => by simp [fillM] at hf; subst hf; exact ⟨cs, rfl, hms⟩
  | p :: parts, m :: mparts, ms, ms', cs, hms, hl, hp, hf => by
    obtain ⟨i, v⟩ := p
    obtain ⟨off, vm⟩ := m
    obtain ⟨h1, h2⟩ := hp 0 _ _ rfl rfl
    dsimp only at h1 h2
    simp only [fillM] at hf
    split at hf
    · rename_i hle
      have hsz : v.cells.size = vm.length := by have := h2.1; simpa using this.symm
      have hcs : cs.size = ms.length := by have := hms.1; simpa using this.symm
      obtain ⟨cs', f1, f2⟩ := fill_m (fold_part hms h2 hle) (by simpa using hl) (fun i p m hp' hm' => hp (i + 1) p m (by simpa using hp') (by simpa using hm')) hf
      refine ⟨cs', ?_, f2⟩
      unfold Instr.fill
      simp only [h1]
      rw [if_neg (by simp [hsz, hcs]; omega)]
      exact f1
    · cases hf

theorem mapM_all {α β : Type} {f : α → Option β} {l : List α} {l' : List β} (h : l.mapM f = some l') {i : Nat} {x : α} (hx : l[i]? = some x) : ∃ y, l'[i]? = some y ∧ f x = some y := by
  obtain ⟨h1, h2⟩ := mapM_some h
  have hi : i < l'.length := h1 ▸ (List.getElem?_eq_some_iff.1 hx).1
  exact ⟨l'[i], by simp, h2 i x _ hx (by simp)⟩

theorem cOk_cells {m : MV} {v : Value} (hv : V E w m v) (hm : m.cOk = true) : Vs E w m.cells v.cells.toList :=
  hv.cells (fun u e => by rw [e] at hm; simp [MV.cOk] at hm) (fun e => by rw [e] at hm; simp [MV.cOk] at hm)

theorem eff_build {t : TypeId} {parts : Array (Nat × Operand)} {parts' : List (Nat × Nat × MX)} {z : List MV} {pl : Nat → Option (Nat × Nat)} {v : MV} {h' : MHeap} {O : Oracle} (ho : o.op = .build t parts) (hpl : placesOf P t = some pl)
    (hz : tzero P t = some (.agg z)) (hp : parts.toList.mapM (fun p => (pl p.1).bind fun x => (cX p.2).bind fun y => some (x.1, x.2, y)) = some parts') (hs : Slots E w s a)
    (he : evO lk O s h (.build z parts') = some (v, h')) : h' = h ∧ Pure P o a w E v := by
  simp only [evO] at he
  split at he
  case h_2 => cases he
  rename_i cs hf
  split at he
  case isFalse => cases he
  rename_i hall
  simp only [Option.some.injEq, Prod.mk.injEq] at he
  obtain ⟨rfl, rfl⟩ := he
  refine ⟨rfl, ?_⟩
  unfold tzero at hz
  rw [Option.map_eq_some_iff] at hz
  obtain ⟨zv, hzv, hz⟩ := hz
  obtain ⟨inf, hinf, hzero⟩ := Option.bind_eq_some_iff.1 hzv
  have hzz : ∃ zs, zv = .agg zs ∧ z = zs.toList.map .lit := by
    cases zv <;> simp [ofV] at hz
    exact ⟨_, rfl, hz.symm⟩
  obtain ⟨zs, rfl, rfl⟩ := hzz
  have hms : Vs E w (zs.toList.map .lit) zs.toList := ⟨by simp, fun i c v hc hv => by rw [List.getElem?_map, hv] at hc; cases hc; exact .lit v⟩
  obtain ⟨hl, -⟩ := mapM_some hp
  obtain ⟨cs', k1, k2⟩ := fill_m (place := pl) (parts := (parts.map fun p => (p.1, a.eval p.2)).toList) hms (by simpa using hl) (fun i p m hp' hm => by
    rw [Array.toList_map, List.getElem?_map, Option.map_eq_some_iff] at hp'
    obtain ⟨q, hq, rfl⟩ := hp'
    rw [List.getElem?_map, Option.map_eq_some_iff] at hm
    obtain ⟨q', hq', rfl⟩ := hm
    obtain ⟨y, hy, hfy⟩ := mapM_all hp hq
    rw [hq'] at hy
    cases hy
    simp only [Option.bind_eq_some_iff, Option.some.injEq] at hfy
    obtain ⟨⟨off, n⟩, h1, x', h2, rfl⟩ := hfy
    have h3 := List.all_eq_true.1 hall _ (List.mem_of_getElem? hq')
    simp only [Bool.and_eq_true, beq_iff_eq] at h3
    dsimp only
    rw [h3.1]
    exact ⟨h1, cOk_cells (hs.x h2) h3.2⟩) hf
  have hb : P.built t (parts.map fun p => (p.1, a.eval p.2)).toList = some cs' := by
    unfold placesOf at hpl
    unfold Program.built
    rw [hinf]
    split at hpl
    · rename_i fs hu
      rw [Option.map_eq_some_iff] at hpl
      obtain ⟨places, hpls, rfl⟩ := hpl
      simp only [hu, hzero, hpls, Value.cells]
      exact k1
    · rename_i n e hu
      rw [Option.map_eq_some_iff] at hpl
      obtain ⟨ie, hie, rfl⟩ := hpl
      simp only [hu, hzero, hie, Value.cells]
      exact k1
    · cases hpl
  refine ⟨.agg cs', ?_, ?_⟩
  · have := run_build (P := P) w t (parts.map fun p => (p.1, a.eval p.2)) cs' hb
    simp [execOp, ho, this]
  · have := V.agg (E := E) (w := w) cs cs'.toList k2.1 k2.2
    simpa using this

/-- Elements put into a slice. -/
theorem fill_e {sz : Nat} : ∀ {parts : List (Nat × Value)} {mparts : List (Nat × MV)} {es es' : List MV} {cs : Array Value}, (∀ e ∈ es, e.cells.length = sz) → Vs E w (flat es) cs.toList → parts.length = mparts.length →
    (∀ (i : Nat) p m, parts[i]? = some p → mparts[i]? = some m → p.1 = m.1 ∧ V E w m.2 p.2) → setAtM es sz mparts = some es' →
    ∃ cs', Instr.fill (fun i => some (i * sz, sz)) cs parts = some cs' ∧ Vs E w (flat es') cs'.toList ∧ (∀ e ∈ es', e.cells.length = sz) ∧ es'.length = es.length
  | [], [], es, es', cs, hes, hms, _, _, hf => by simp [setAtM] at hf; subst hf; exact ⟨cs, rfl, hms, hes, rfl⟩
  | p :: parts, m :: mparts, es, es', cs, hes, hms, hl, hp, hf => by
    obtain ⟨i, v⟩ := p
    obtain ⟨j, vm⟩ := m
    obtain ⟨h1, h2⟩ := hp 0 _ _ rfl rfl
    dsimp only at h1 h2
    subst h1
    simp only [setAtM] at hf
    split at hf
    · rename_i hle
      obtain ⟨hi, hvl, hok⟩ := hle
      have hv := cOk_cells h2 hok
      have hsz : v.cells.size = sz := by have := hv.1; rw [hvl] at this; simpa using this.symm
      have hcs : cs.size = es.length * sz := by have := hms.1; rw [flat_len hes] at this; simpa using this.symm
      have hle : i * sz + sz ≤ es.length * sz := by rw [← Nat.succ_mul]; exact Nat.mul_le_mul_right _ hi
      have hset : ∀ e ∈ es.set i vm, e.cells.length = sz := fun e he => by
        rcases List.mem_or_eq_of_mem_set he with h | h
        · exact hes e h
        · rw [h]; exact hvl
      have hsp : splice (flat es) (i * sz) vm.cells = flat (es.set i vm) := by
        apply List.ext_getElem?
        intro k
        rw [splice_at (by rw [flat_len hes, hvl]; exact hle)]
        rcases hkc : (flat (es.set i vm))[k]? with _ | c
        · have : (flat (es.set i vm)).length ≤ k := List.getElem?_eq_none_iff.1 hkc
          rw [flat_len hset, List.length_set] at this
          rw [if_neg (by rw [hvl]; omega), List.getElem?_eq_none (by rw [flat_len hes]; exact this)]
        · obtain ⟨i2, j2, e2, rfl, hj2, he2, hc2⟩ := (flat_iff hset).1 hkc
          by_cases e : i2 = i
          · subst e
            rw [List.getElem?_set, if_pos rfl, if_pos hi] at he2
            cases he2
            rw [if_pos (by rw [hvl]; omega), show i2 * sz + j2 - i2 * sz = j2 by omega]
            exact hc2
          · rw [List.getElem?_set_ne (fun e' => e e'.symm)] at he2
            rw [if_neg (by
              rw [hvl]
              rcases Nat.lt_or_gt_of_ne e with hlt | hgt
              · have : (i2 + 1) * sz ≤ i * sz := Nat.mul_le_mul_right _ hlt
                rw [Nat.succ_mul] at this
                omega
              · have : (i + 1) * sz ≤ i2 * sz := Nat.mul_le_mul_right _ hgt
                rw [Nat.succ_mul] at this
                omega)]
            exact (flat_iff hes).2 ⟨i2, j2, e2, rfl, hj2, he2, hc2⟩
      have hms' := fold_part (off := i * sz) hms hv (by rw [flat_len hes, hvl]; exact hle)
      rw [hsp] at hms'
      obtain ⟨cs', f1, f2, f3, f4⟩ := fill_e hset hms' (by simpa using hl) (fun i p m hp' hm' => hp (i + 1) p m (by simpa using hp') (by simpa using hm')) hf
      refine ⟨cs', ?_, f2, f3, by rw [f4, List.length_set]⟩
      unfold Instr.fill
      simp only
      rw [if_neg (by simp [hsz, hcs]; omega)]
      exact f1
    · cases hf

theorem made_rep {z : MV} {zv : Value} {sz n : Nat} (hz : Vs E w z.cells zv.cells.toList) (hl : z.cells.length = sz) : Vs E w (flat (List.replicate n z)) (madeCells zv.cells (n * sz)).toList := by
  have hes : ∀ e ∈ List.replicate n z, e.cells.length = sz := fun e he => by rw [(List.mem_replicate.1 he).2]; exact hl
  have hzs : zv.cells.size = sz := by have := hz.1; rw [hl] at this; simpa using this.symm
  refine ⟨by rw [flat_len hes]; simp [madeCells], fun k c v hc hv => ?_⟩
  obtain ⟨i, j, e, rfl, hj, he, hcj⟩ := (flat_iff hes).1 hc
  obtain rfl : e = z := by
    have := List.mem_of_getElem? he
    exact (List.mem_replicate.1 this).2
  have hi : i < n := by have := (List.getElem?_eq_some_iff.1 he).1; simpa using this
  have hlt : i * sz + j < n * sz := by
    have : (i + 1) * sz ≤ n * sz := Nat.mul_le_mul_right _ hi
    rw [Nat.succ_mul] at this; omega
  have hmod : (i * sz + j) % sz = j := by rw [Nat.mul_comm, Nat.mul_add_mod, Nat.mod_eq_of_lt hj]
  simp only [madeCells, Array.toList_map, Array.toList_range, List.getElem?_map, List.getElem?_range hlt, Option.map_some, Option.some.injEq] at hv
  rw [hzs, hmod] at hv
  have hjl : j < zv.cells.size := hzs ▸ hj
  refine hz.2 j c v hcj ?_
  rw [← hv, Array.getElem?_toList]
  simp [hjl]

theorem eff_bsl {t e : TypeId} {len sz : Nat} {parts : Array (Nat × Operand)} {parts' : List (Nat × MX)} {z v : MV} {h' : MHeap} {O : Oracle} (ho : o.op = .buildSlice t len parts) (ht : telem P t = some e) (hsz : tsz P e = some sz) (hz : tzero P e = some z)
    (hsmall : len * sz ≤ 1000000) (hpos : 0 < sz) (hzl : z.cells.length = sz) (hok : z.cOk = true) (hp : parts.toList.mapM (fun p => (cX p.2).bind fun y => some (p.1, y)) = some parts') (hs : Slots E w s a) (hr : HRel E h w)
    (he : evO lk O s h (.bsl z sz len parts') = some (v, h')) : Eff lk P o a w E v h' := by
  simp only [evO] at he
  split at he
  case h_2 => cases he
  rename_i es hf
  simp only [Option.some.injEq, Prod.mk.injEq] at he
  obtain ⟨rfl, rfl⟩ := he
  unfold telem at ht
  split at ht
  case h_2 => cases ht
  rename_i e' hu
  cases ht
  unfold tsz at hsz
  rw [Option.map_eq_some_iff] at hsz
  obtain ⟨ie, hie, rfl⟩ := hsz
  unfold tzero at hz
  rw [Option.map_eq_some_iff] at hz
  obtain ⟨zv, hzv, rfl⟩ := hz
  obtain ⟨ie', hie', hzero⟩ := Option.bind_eq_some_iff.1 hzv
  rw [hie] at hie'
  cases hie'
  obtain ⟨hl, -⟩ := mapM_some hp
  have hrep : ∀ x ∈ List.replicate len (ofV zv), x.cells.length = ie.size := fun x hx => by rw [(List.mem_replicate.1 hx).2]; exact hzl
  obtain ⟨cs', k1, k2, k3, k4⟩ := fill_e (E := E) (w := w) (parts := (parts.map fun p => (p.1, a.eval p.2)).toList) hrep (made_rep (n := len) (ofV_ok hok) hzl) (by simpa using hl) (fun i p m hp' hm => by
    rw [Array.toList_map, List.getElem?_map, Option.map_eq_some_iff] at hp'
    obtain ⟨q, hq, rfl⟩ := hp'
    rw [List.getElem?_map, Option.map_eq_some_iff] at hm
    obtain ⟨q', hq', rfl⟩ := hm
    obtain ⟨y, hy, hfy⟩ := mapM_all hp hq
    rw [hq'] at hy
    cases hy
    simp only [Option.bind_eq_some_iff, Option.some.injEq] at hfy
    obtain ⟨x', h2, rfl⟩ := hfy
    exact ⟨rfl, hs.x h2⟩) hf
  rw [List.length_replicate] at k4
  obtain ⟨r1, r2⟩ := hr.addBlock (Below.refl _ w) (es := es) (sz := ie.size) false cs' e k3 k2
  rw [k4] at r1 r2
  refine ⟨.slice (some ⟨w.heap.size, 0, none⟩) len len, _, _, .inl ?_, arr_put (Nat.le_refl _), r1, r2⟩
  by_cases h0 : len * ie.size = 0
  · obtain rfl : len = 0 := by
      rcases Nat.mul_eq_zero.1 h0 with h | h
      · exact h
      · omega
    have hr0 : Array.range 0 = #[] := rfl
    simp [madeCells, hr0] at k1
    simp [execOp, ho, Instr.buildSlice, run_underlying hu, sizeOf, typeInfo, hie, newRow, hr0, k1]
  · have := run_buildSlice (P := P) w t e len (parts.map fun (p : Nat × Operand) => (p.1, a.eval p.2)) cs' ie zv hu hie hzero (by omega) h0 (by unfold madeCells at k1; exact k1)
    simp [execOp, ho, this]

theorem eff_mks {t e : TypeId} {ie : TypeInfo} {l c : Operand} {l' : MX} {z v : MV} {h' : MHeap} {O : Oracle} (ho : o.op = .makeSlice t l c) (ht : telem P t = some e) (hie : P.info? e = some ie) (hlc : sameX l c = true) (hz : tzero P e = some z)
    (hby : ie.bytes ≤ 100000) (_hpos : 0 < ie.size) (hzl : z.cells.length = ie.size) (hok : z.cOk = true) (hl : cX l = some l') (hs : Slots E w s a) (hr : HRel E h w)
    (he : evO lk O s h (.mks z l') = some (v, h')) : Eff lk P o a w E v h' := by
  have h1 := hs.x hl
  simp only [evO] at he
  split at he
  case h_2 => cases he
  rename_i n hn
  split at he
  case isFalse => cases he
  rename_i hb
  simp only [Option.some.injEq, Prod.mk.injEq] at he
  obtain ⟨rfl, rfl⟩ := he
  rw [hn] at h1
  have hv := h1.lit_eq
  have hc : a.eval c = a.eval l := by
    unfold sameX at hlc
    split at hlc
    · simp at hlc; subst hlc; rfl
    · simp at hlc; subst hlc; rfl
    · cases hlc
  unfold telem at ht
  split at ht
  case h_2 => cases ht
  rename_i e' hu
  cases ht
  unfold tzero at hz
  rw [Option.map_eq_some_iff] at hz
  obtain ⟨zv, hzv, rfl⟩ := hz
  obtain ⟨ie', hie', hzero⟩ := Option.bind_eq_some_iff.1 hzv
  rw [hie] at hie'
  cases hie'
  have hbytes : (ie.bytes : Int) * n ≤ 281474976710656 := by
    have : (ie.bytes : Int) * n ≤ 100000 * 1000000 := Int.mul_le_mul (by omega) hb.2 hb.1 (by omega)
    omega
  have hrun := run_make (P := P) w t e ie zv hu hie hzero .i64 .i64 n n hb.1 (Int.le_refl _) hbytes (by omega)
  have hrep : ∀ x ∈ List.replicate n.toNat (ofV zv), x.cells.length = ie.size := fun x hx => by rw [(List.mem_replicate.1 hx).2]; exact hzl
  obtain ⟨r1, r2⟩ := hr.addBlock (Below.refl _ w) (es := List.replicate n.toNat (ofV zv)) (sz := ie.size) false (madeCells zv.cells (n.toNat * ie.size)) e hrep (made_rep (ofV_ok hok) hzl)
  rw [List.length_replicate] at r1 r2
  rw [hzl]
  refine ⟨.slice (some ⟨w.heap.size, 0, none⟩) n.toNat n.toNat, _, _, .inl ?_, arr_put (Nat.le_refl _), r1, r2⟩
  simp [execOp, ho, hv, hc, hrun]
end

end Go.Proofs.Ytgjpdjihjphbdaa
