/- What the small language computes is what the program computes: comparisons, places. -/
import Derived.Deep.Upon
import Derived.WideKeyRuns
import Derived.MapKept
import Derived.ChangeKeysEq
import Derived.Laws.IdiomRangeMap
import Derived.Laws.CopyRow
import Derived.Test.YtnmgpbihknjdjaaDoorMirrorProofsPa
set_option linter.unusedVariables false
set_option linter.unusedSimpArgs false
/- What the small language computes is what the program computes: comparisons, places. -/
namespace Go.Proofs.YtnmgpbihknjdjaaDoor
open Go.RowKit
section
variable {P : Program} {w : World} {E : Env} {o : Oper} {a : Act} {s : List MV} {h : MHeap}
theorem run_binI {op : BinOp} {k : IntKind} {x y : Int} {v : Value} (t : TypeId) (he : binI op k x y = some v) : (binOp op t (.int k x) (.int k y)).run P w = .ok v w := by
 cases op <;> simp [binI] at he <;> first
  | (subst he; simp [binOp, Op.intArith, Op.intCmp]; done)
  | (subst he; simp [binOp, Op.intBits]; done)
  | (obtain ⟨h0, rfl⟩ := he; simp [binOp, Op.intDiv, h0])
theorem run_eqGuard_int {op : BinOp} {t : TypeId} {x y : Operand} {k k' : IntKind} {u v : Int} : (eqGuard op t x y (.int k u) (.int k' v)).run P w = .ok () w := by
 cases op <;> simp [eqGuard]
theorem pure_bin {op : BinOp} {t yt : TypeId} {x y : Operand} {x' y' : MX} {v : MV} {h' : MHeap} {lk : Nat → Bool} {O : Oracle} (ho : o.op = .binOp op t x y yt) (hx : cX x = some x') (hy : cX y = some y') (hs : Slots E w s a)
  (he : evO lk O s h (.bin op x' y') = some (v, h')) : h' = h ∧ Pure P o a w E v := by
 have h1 := hs.x hx
 have h2 := hs.x hy
 simp only [evO] at he
 split at he
 case h_2 => cases he
 rename_i k u k' u' e1 e2
 split at he
 case isFalse => cases he
 rename_i hk
 subst hk
 rw [Option.map_eq_some_iff] at he
 obtain ⟨c, hc, he⟩ := he
 simp only [Prod.mk.injEq] at he
 obtain ⟨rfl, rfl⟩ := he
 rw [e1] at h1
 rw [e2] at h2
 exact ⟨rfl, c, by simp [execOp, ho, h1.lit_eq, h2.lit_eq, run_eqGuard_int, run_binI t hc], .lit _⟩
theorem run_beq {t : TypeId} {x y : Operand} {neg : Bool} {u v : Bool} (ht : P.underlying t = some .bool) : ((do eqGuard (if neg then .neq else .eql) t x y (.bool u) (.bool v); binOp (if neg then .neq else .eql) t (.bool u) (.bool v)) : Sem Value).run P w = .ok (.bool (negIf neg (u == v))) w := by
 cases neg <;> simp [eqGuard, binOp, Op.equal, Op.maxDepth, run_equalIn_bool' w 9999 t u v ht, negIf]
theorem pure_beq {neg : Bool} {t yt : TypeId} {x y : Operand} {x' y' : MX} {v : MV} {h' : MHeap} {lk : Nat → Bool} {O : Oracle} (ho : o.op = .binOp (if neg then .neq else .eql) t x y yt) (ht : P.underlying t = some .bool) (hx : cX x = some x') (hy : cX y = some y') (hs : Slots E w s a)
  (he : evO lk O s h (.beq neg x' y') = some (v, h')) : h' = h ∧ Pure P o a w E v := by
 have h1 := hs.x hx
 have h2 := hs.x hy
 simp only [evO] at he
 split at he
 case h_2 => cases he
 rename_i u u' e1 e2
 simp only [Option.some.injEq, Prod.mk.injEq] at he
 obtain ⟨rfl, rfl⟩ := he
 rw [e1] at h1
 rw [e2] at h2
 refine ⟨rfl, _, ?_, .lit _⟩
 have := run_beq (P := P) (w := w) (x := x) (y := y) (neg := neg) (u := u) (v := u') ht
 simp only [execOp, ho, h1.lit_eq, h2.lit_eq]
 rw [Sem.run_bind, this]
 rfl
theorem run_seq {t : TypeId} {x y : Operand} {neg : Bool} {u v : ByteArray} : ((do eqGuard (if neg then .neq else .eql) t x y (.string u) (.string v); binOp (if neg then .neq else .eql) t (.string u) (.string v)) : Sem Value).run P w = .ok (.bool (negIf neg (u == v))) w := by
 cases neg
 ·simp [eqGuard, binOp, Op.stringOp, negIf, (beq_toListBytes u v).symm]
 ·simp [eqGuard, binOp, Op.stringOp, negIf, (beq_toListBytes u v).symm]
theorem pure_seq {neg : Bool} {t yt : TypeId} {x y : Operand} {x' y' : MX} {v : MV} {h' : MHeap} {lk : Nat → Bool} {O : Oracle} (ho : o.op = .binOp (if neg then .neq else .eql) t x y yt) (hx : cX x = some x') (hy : cX y = some y') (hs : Slots E w s a)
  (he : evO lk O s h (.seq neg x' y') = some (v, h')) : h' = h ∧ Pure P o a w E v := by
 have h1 := hs.x hx
 have h2 := hs.x hy
 simp only [evO] at he
 split at he
 case h_2 => cases he
 rename_i u u' e1 e2
 simp only [Option.some.injEq, Prod.mk.injEq] at he
 obtain ⟨rfl, rfl⟩ := he
 rw [e1] at h1
 rw [e2] at h2
 refine ⟨rfl, _, ?_, .lit _⟩
 have := run_seq (P := P) (w := w) (t := t) (x := x) (y := y) (neg := neg) (u := u) (v := u')
 simp only [execOp, ho, h1.lit_eq, h2.lit_eq]
 rw [Sem.run_bind, this]
 rfl
theorem run_eqFields {d : Nat} {xs ys : Array Value} : ∀ {fs : List Field} {i : Nat} {ps qs : List MV} {b : Bool}, intFields P i fs = true → ps.length = fs.length → litEq ps qs = some b → Vs E w ps (xs.toList.drop i) → Vs E w qs (ys.toList.drop i) →
  (Op.eqFields (d + 1) xs ys fs).run P w = .ok b w
 | [], i, ps, qs, b, _, hl, he, _, _ => by
  have : ps = [] := by simpa using hl
  subst this
  cases qs with
  | nil => simp [litEq] at he; subst he; simp [Op.eqFields]
  | cons q qs => simp [litEq] at he
 | f :: fs, i, ps, qs, b, hf, hl, he, hp, hq => by
  cases ps with
  | nil => simp at hl
  | cons p ps =>
   simp only [intFields, Bool.and_eq_true, beq_iff_eq, bne_iff_ne] at hf
   obtain ⟨⟨⟨f1, f2⟩, f3⟩, f4⟩ := hf
   cases qs with
   | nil => cases p <;> simp [litEq] at he
   | cons q qs =>
    unfold litEq at he
    split at he <;> try (cases he; done)
    ·rename_i e _; cases e
    rename_i k u ps' k' v qs' e1 e2
    simp only [List.cons.injEq] at e1 e2
    obtain ⟨rfl, rfl⟩ := e1
    obtain ⟨rfl, rfl⟩ := e2
    split at he
    case isFalse => cases he
    rename_i hk
    subst hk
    rw [Option.map_eq_some_iff] at he
    obtain ⟨r, hr, rfl⟩ := he
    have hxl : 0 < (xs.toList.drop i).length := by rw [← hp.1]; simp
    have hyl : 0 < (ys.toList.drop i).length := by rw [← hq.1]; simp
    have hx0 := (hp.2 0 _ _ rfl (List.getElem?_eq_getElem hxl)).lit_eq
    have hy0 := (hq.2 0 _ _ rfl (List.getElem?_eq_getElem hyl)).lit_eq
    rw [List.getElem_drop] at hx0 hy0
    simp only [Nat.add_zero, Array.getElem_toList] at hx0 hy0
    have hxi : i < xs.size := by simp at hxl; omega
    have hyi : i < ys.size := by simp at hyl; omega
    have gx : xs[i]? = some (.int k u) := by rw [Array.getElem?_eq_getElem hxi, hx0]
    have gy : ys[i]? = some (.int k v) := by rw [Array.getElem?_eq_getElem hyi, hy0]
    have hu : ∃ kk, P.underlying f.type = some (.int kk) := by
     split at f3
     ·rename_i kk hh; exact ⟨kk, hh⟩
     ·cases f3
    obtain ⟨kk, hu⟩ := hu
    have hag : (isAgg f.type).run P w = .ok false w := run_isAgg hu rfl w
    have tl : ∀ {l : List Value} {ms : List MV} {m : MV}, Vs E w (m :: ms) (l.drop i) → Vs E w ms (l.drop (i + 1)) := fun {l ms m} hv =>
     ⟨by have := hv.1; simp at this ⊢; omega, fun j c x hc hx => hv.2 (j + 1) c x (by simpa using hc) (by rw [List.getElem?_drop] at hx ⊢; rw [← hx]; congr 1; omega)⟩
    have ih := run_eqFields (d := d) f4 (by simpa using hl) hr (tl hp) (tl hq)
    have hne : ¬ f.name = "_" := f2
    simp only [Op.eqFields, hne, not_false_eq_true, if_true, ne_eq]
    simp [part, f1, hag, gx, gy, run_equalIn_int w d f.type k kk u v hu]
    by_cases huv : u = v
    ·subst huv; simp [ih]
    ·simp [huv]
theorem litEqK_len : ∀ {ks : List Nat} {ps qs : List MV} {b : Bool}, litEqK ks ps qs = some b → ps.length = ks.length ∧ qs.length = ks.length := by
 intro ks
 induction ks with
 | nil =>
  intro ps qs b h
  unfold litEqK at h
  split at h <;> simp_all
 | cons k ks ih =>
  intro ps qs b h
  unfold litEqK at h
  split at h <;> try (cases h; done)
  ·exact absurd (by assumption : k :: ks = []) (by simp)
  ·rename_i e; cases e
   split at h
   case isFalse => cases h
   rw [Option.map_eq_some_iff] at h
   obtain ⟨r, hr, -⟩ := h
   have := ih hr
   simp [this.1, this.2]
  ·rename_i e; cases e
   rw [Option.map_eq_some_iff] at h
   obtain ⟨r, hr, -⟩ := h
   have := ih hr
   simp [this.1, this.2]
  ·rename_i e; cases e
   rw [Option.map_eq_some_iff] at h
   obtain ⟨r, hr, -⟩ := h
   have := ih hr
   simp [this.1, this.2]
theorem litEqK_split : ∀ {a c : List Nat} {ps qs : List MV} {b : Bool}, litEqK (a ++ c) ps qs = some b → ∃ r1 r2, litEqK a (ps.take a.length) (qs.take a.length) = some r1 ∧ litEqK c (ps.drop a.length) (qs.drop a.length) = some r2 ∧ b = (r1 && r2) := by
 intro a
 induction a with
 | nil => intro c ps qs b h; exact ⟨true, b, by simp [litEqK], by simpa using h, by simp⟩
 | cons k a ih =>
  intro c ps qs b h
  rw [List.cons_append] at h
  unfold litEqK at h
  split at h <;> try (cases h; done)
  ·exact absurd (by assumption : k :: (a ++ c) = []) (by simp)
  ·rename_i e; cases e
   split at h
   case isFalse => cases h
   rename_i hk
   rw [Option.map_eq_some_iff] at h
   obtain ⟨r, hr, rfl⟩ := h
   obtain ⟨r1, r2, h1, h2, rfl⟩ := ih hr
   refine ⟨_, r2, ?_, by simpa using h2, (Bool.and_assoc _ _ _).symm⟩
   simp [litEqK, hk, h1]
  ·rename_i e; cases e
   rw [Option.map_eq_some_iff] at h
   obtain ⟨r, hr, rfl⟩ := h
   obtain ⟨r1, r2, h1, h2, rfl⟩ := ih hr
   refine ⟨_, r2, ?_, by simpa using h2, (Bool.and_assoc _ _ _).symm⟩
   simp [litEqK, h1]
  ·rename_i e; cases e
   rw [Option.map_eq_some_iff] at h
   obtain ⟨r, hr, rfl⟩ := h
   obtain ⟨r1, r2, h1, h2, rfl⟩ := ih hr
   refine ⟨_, r2, ?_, by simpa using h2, (Bool.and_assoc _ _ _).symm⟩
   simp [litEqK, h1]
theorem litEqK_one {k : Nat} {ps qs : List MV} {b : Bool} (h : litEqK [k] ps qs = some b) : (k = 0 ∧ ∃ q u v, ps = [.lit (.int q u)] ∧ qs = [.lit (.int q v)] ∧ b = (u == v)) ∨ (k = 1 ∧ ∃ u v, ps = [.lit (.string u)] ∧ qs = [.lit (.string v)] ∧ b = (u == v)) ∨ (k = 2 ∧ ∃ u v, ps = [.lit (.bool u)] ∧ qs = [.lit (.bool v)] ∧ b = (u == v)) := by
 have nil : ∀ {ps qs : List MV} {r : Bool}, litEqK [] ps qs = some r → ps = [] ∧ qs = [] ∧ r = true := fun {ps qs r} h => by
  unfold litEqK at h
  split at h <;> simp_all
 unfold litEqK at h
 split at h <;> try (cases h; done)
 ·exact absurd (by assumption : [k] = []) (by simp)
 ·rename_i e; cases e
  split at h
  case isFalse => cases h
  rename_i hk
  subst hk
  rw [Option.map_eq_some_iff] at h
  obtain ⟨r, hr, rfl⟩ := h
  obtain ⟨rfl, rfl, rfl⟩ := nil hr
  exact .inl ⟨rfl, _, _, _, rfl, rfl, by simp⟩
 ·rename_i e; cases e
  rw [Option.map_eq_some_iff] at h
  obtain ⟨r, hr, rfl⟩ := h
  obtain ⟨rfl, rfl, rfl⟩ := nil hr
  exact .inr (.inl ⟨rfl, _, _, rfl, rfl, by simp⟩)
 ·rename_i e; cases e
  rw [Option.map_eq_some_iff] at h
  obtain ⟨r, hr, rfl⟩ := h
  obtain ⟨rfl, rfl, rfl⟩ := nil hr
  exact .inr (.inr ⟨rfl, _, _, rfl, rfl, by simp⟩)
def valT (P : Program) (t : TypeId) (us : List Value) : Value :=
 match P.underlying t with
 | some (.struct _) => .agg us.toArray
 | _ => us.headD undef
theorem Vs.single {m : MV} {us : List Value} (h : Vs E w [m] us) : ∃ u, us = [u] ∧ V E w m u := by
 obtain ⟨u, us', rfl, h1, h2⟩ := h.uncons
 obtain rfl : us' = [] := List.length_eq_zero_iff.1 h2.1.symm
 exact ⟨u, rfl, h1⟩
theorem Vs.takeN {ms : List MV} {us : List Value} (h : Vs E w ms us) (n : Nat) : Vs E w (ms.take n) (us.take n) :=
 ⟨by rw [List.length_take, List.length_take, h.1], fun i c v hc hv => by
  rw [List.getElem?_take] at hc hv
  split at hc
  ·rename_i hi
   rw [if_pos hi] at hv
   exact h.2 i c v hc hv
  ·cases hc⟩
theorem Vs.dropN {ms : List MV} {us : List Value} (h : Vs E w ms us) (n : Nat) : Vs E w (ms.drop n) (us.drop n) :=
 ⟨by rw [List.length_drop, List.length_drop, h.1], fun i c v hc hv => by
  rw [List.getElem?_drop] at hc hv
  exact h.2 (n + i) c v hc hv⟩
theorem run_partK {t : TypeId} {ks : List Nat} {xs : Array Value} {i : Nat} (hz : szOk P t ks.length = true) (hk : ∃ m, kindsT P m t = some ks) (hl : i + ks.length ≤ xs.size) : (part t xs i).run P w = .ok (valT P t ((xs.toList.drop i).take ks.length)) w := by
 obtain ⟨m, hm⟩ := hk
 cases m with
 | zero => cases hm
 | succ m =>
  unfold kindsT at hm
  unfold szOk at hz
  rw [Bool.and_eq_true] at hz
  replace hz := hz.2
  cases hu : P.underlying t with
  | none => rw [hu] at hm; cases hm
  | some d =>
   rw [hu] at hm hz
   have scal : isAggD d = false → ks.length = 1 → (∀ fs, d ≠ .struct fs) → (part t xs i).run P w = .ok (valT P t ((xs.toList.drop i).take ks.length)) w := fun h1 h2 h3 => by
    rw [h2] at hl
    have hlt : i < xs.size := by omega
    have hd : valT P t ((xs.toList.drop i).take ks.length) = xs[i] := by
     unfold valT
     rw [hu, h2]
     have e : (xs.toList.drop i).take 1 = [xs[i]] := by
      rw [List.drop_eq_getElem_cons (by simpa using hlt)]; simp
     rw [e]
     cases d <;> first | rfl | exact absurd rfl (h3 _)
    rw [hd]
    simp [part, run_isAgg hu h1, hlt]
   cases d <;> dsimp only at hm hz <;> try (cases hm; done)
   ·cases hm; exact scal rfl rfl (fun fs h => by cases h)
   ·cases hm; exact scal rfl rfl (fun fs h => by cases h)
   ·cases hm; exact scal rfl rfl (fun fs h => by cases h)
   ·split at hz
    case h_2 => cases hz
    rename_i inf hi
    have hs : inf.size = ks.length := by simpa using hz
    have e : valT P t ((xs.toList.drop i).take ks.length) = .agg (xs.extract i (i + ks.length)) := by
     unfold valT
     rw [hu]
     simp only [Value.agg.injEq]
     apply Array.toList_inj.1
     rw [Array.toList_extract, List.extract_eq_take_drop, Nat.add_sub_cancel_left]
    rw [e]
    simp [part, run_isAgg (b := true) hu rfl, sizeOf, typeInfo, hi, hs]
theorem run_eqFieldsK {d m : Nat} (IH : ∀ (t : TypeId) (ks : List Nat) (ps qs : List MV) (us vs : List Value) (b : Bool), kindsT P m t = some ks → litEqK ks ps qs = some b → Vs E w ps us → Vs E w qs vs → (Op.equalIn d t (valT P t us) (valT P t vs)).run P w = .ok b w) {xs ys : Array Value} :
  ∀ (fs : List Field) (i : Nat) (ks : List Nat) (ps qs : List MV) (b : Bool), kindsF P (kindsT P m) i fs = some ks → litEqK ks ps qs = some b → Vs E w ps (xs.toList.drop i) → Vs E w qs (ys.toList.drop i) → (Op.eqFields d xs ys fs).run P w = .ok b w
 | [], i, ks, ps, qs, b, hk, he, _, _ => by
  simp only [kindsF, Option.some.injEq] at hk
  subst hk
  unfold litEqK at he
  split at he <;> simp_all [Op.eqFields]
 | f :: fs, i, ks, ps, qs, b, hk, he, hp, hq => by
  unfold kindsF at hk
  split at hk
  case isFalse => cases hk
  rename_i hf
  obtain ⟨f1, f2⟩ := hf
  split at hk
  case h_2 => cases hk
  rename_i a ha
  split at hk
  case isFalse => cases hk
  rename_i hz
  rw [Option.map_eq_some_iff] at hk
  obtain ⟨c, hc, rfl⟩ := hk
  obtain ⟨l1, l2⟩ := litEqK_len he
  obtain ⟨r1, r2, e1, e2, rfl⟩ := litEqK_split he
  rw [List.length_append] at l1 l2
  have ha0 : a.length ≠ 0 := by
   have := hz
   unfold szOk at this
   rw [Bool.and_eq_true] at this
   simpa using this.1
  have hlx : i + a.length ≤ xs.size := by
   have := hp.1
   simp only [List.length_drop, Array.length_toList] at this
   omega
  have hly : i + a.length ≤ ys.size := by
   have := hq.1
   simp only [List.length_drop, Array.length_toList] at this
   omega
  have hx := run_partK (w := w) hz ⟨m, ha⟩ hlx
  have hy := run_partK (w := w) hz ⟨m, ha⟩ hly
  have h1 := IH f.type a _ _ _ _ r1 ha e1 (hp.takeN a.length) (hq.takeN a.length)
  have h2 := run_eqFieldsK IH fs (i + a.length) c _ _ r2 hc e2 (by have := hp.dropN a.length; rwa [List.drop_drop] at this) (by have := hq.dropN a.length; rwa [List.drop_drop] at this)
  have hne : ¬ f.name = "_" := f2
  simp only [Op.eqFields, hne, not_false_eq_true, if_true, ne_eq]
  cases r1 <;> simp [f1, hx, hy, h1, h2]
theorem run_eqK : ∀ (m e : Nat) (t : TypeId) (ks : List Nat) (ps qs : List MV) (us vs : List Value) (b : Bool), kindsT P m t = some ks → litEqK ks ps qs = some b → Vs E w ps us → Vs E w qs vs → (Op.equalIn (m + e) t (valT P t us) (valT P t vs)).run P w = .ok b w
 | 0, e, t, ks, ps, qs, us, vs, b, hk, _, _, _ => by cases hk
 | m + 1, e, t, ks, ps, qs, us, vs, b, hk, he, hp, hq => by
  rw [show m + 1 + e = (m + e) + 1 by omega]
  unfold kindsT at hk
  cases hu : P.underlying t with
  | none => rw [hu] at hk; cases hk
  | some d =>
   rw [hu] at hk
   cases d <;> dsimp only at hk <;> try (cases hk; done)
   ·cases hk
    rcases litEqK_one he with ⟨h, _⟩ | ⟨h, _⟩ | ⟨_, u, v, rfl, rfl, rfl⟩
    ·cases h
    ·cases h
    ·obtain ⟨x, rfl, hx⟩ := hp.single
     obtain ⟨y, rfl, hy⟩ := hq.single
     rw [hx.lit_eq, hy.lit_eq]
     simp [valT, hu, run_equalIn_bool' w (m + e) t u v hu]
   ·cases hk
    rcases litEqK_one he with ⟨_, q, u, v, rfl, rfl, rfl⟩ | ⟨h, _⟩ | ⟨h, _⟩
    ·obtain ⟨x, rfl, hx⟩ := hp.single
     obtain ⟨y, rfl, hy⟩ := hq.single
     rw [hx.lit_eq, hy.lit_eq]
     simp [valT, hu, run_equalIn_int w (m + e) t q _ u v hu]
    ·cases h
    ·cases h
   ·cases hk
    rcases litEqK_one he with ⟨h, _⟩ | ⟨_, u, v, rfl, rfl, rfl⟩ | ⟨h, _⟩
    ·cases h
    ·obtain ⟨x, rfl, hx⟩ := hp.single
     obtain ⟨y, rfl, hy⟩ := hq.single
     rw [hx.lit_eq, hy.lit_eq]
     simp [valT, hu, run_equalIn_string w (m + e) t u v hu, beq_toListBytes]
    ·cases h
   ·split at hk
    case isFalse => cases hk
    rename_i fs hst
    have hfo : P.fieldsOf t = fs := by simp [Program.fieldsOf, hu]
    have h3 := run_equalIn_struct (P := P) w (m + e) t us.toArray vs.toArray (by rw [hfo]; exact hu) hst
    rw [hfo] at h3
    have hv : ∀ l : List Value, valT P t l = .agg l.toArray := fun l => by unfold valT; rw [hu]
    rw [hv, hv, h3]
    exact run_eqFieldsK (fun t ks ps qs us vs b k1 k2 k3 k4 => run_eqK m e t ks ps qs us vs b k1 k2 k3 k4) fs.toList 0 ks ps qs b hk he (by simpa using hp) (by simpa using hq)
theorem pure_eqa {neg : Bool} {t yt : TypeId} {fs : Array Field} {x y : Operand} {x' y' : MX} {c : Nat} {v : MV} {h' : MHeap} {lk : Nat → Bool} {O : Oracle} (ho : o.op = .binOp (if neg then .neq else .eql) t x y yt) (ht : P.underlying t = some (.struct fs)) (hm : eqaO P t = some c) (hx : cX x = some x') (hy : cX y = some y') (hs : Slots E w s a)
  (he : evO lk O s h (.eqa c neg x' y') = some (v, h')) : h' = h ∧ Pure P o a w E v := by
 have h1 := hs.x hx
 have h2 := hs.x hy
 unfold eqaO at hm
 split at hm
 case h_2 => cases hm
 rename_i ks hks
 split at hm
 case isFalse => cases hm
 rename_i hcond
 obtain ⟨hcd, hg⟩ := hcond
 cases hm
 simp only [evO] at he
 split at he
 case h_2 => cases he
 rename_i ps qs e1 e2
 rw [Option.map_eq_some_iff] at he
 obtain ⟨b, hb, he⟩ := he
 simp only [Prod.mk.injEq] at he
 obtain ⟨rfl, rfl⟩ := he
 rw [hcd] at hb
 rw [e1] at h1
 rw [e2] at h2
 generalize hxv : a.eval x = xv at h1
 generalize hyv : a.eval y = yv at h2
 cases h1 with
 | agg _ us hul huv =>
  cases h2 with
  | agg _ vs hvl hvv =>
   have h4 := run_eqK (P := P) (E := E) (w := w) 4 9996 t ks ps qs us vs b hks hb ⟨hul, huv⟩ ⟨hvl, hvv⟩
   have hv : ∀ l : List Value, valT P t l = .agg l.toArray := fun l => by unfold valT; rw [ht]
   rw [hv, hv] at h4
   replace h4 : (Op.equalIn 10000 t (.agg us.toArray) (.agg vs.toArray)).run P w = .ok b w := h4
   refine ⟨rfl, .bool (negIf neg b), ?_, .lit _⟩
   cases neg
   ·simp [execOp, ho, hxv, hyv, run_eqGuard_agg w .eql t x y us.toArray vs.toArray hg, run_eql_struct w t us.toArray vs.toArray, h4, negIf]
   ·simp [execOp, ho, hxv, hyv, run_eqGuard_agg w .neq t x y us.toArray vs.toArray hg, run_neq_struct w t us.toArray vs.toArray, h4, negIf]
theorem pure_eqn {neg : Bool} {t yt e : TypeId} {x y : Operand} {x' : MX} {v : MV} {h' : MHeap} {lk : Nat → Bool} {O : Oracle} (ho : o.op = .binOp (if neg then .neq else .eql) t x y yt) (ht : P.underlying t = some (.slice e)) (hx : cX x = some x') (hy : isNilSlice y = true) (hs : Slots E w s a) (hr : HRel E h w)
  (he : evO lk O s h (.eqn neg x') = some (v, h')) : h' = h ∧ Pure P o a w E v := by
 have h1 := hs.x hx
 have hy' : y = .const (.slice none 0 0) := by
  unfold isNilSlice at hy
  split at hy
  ·rfl
  ·cases hy
 subst hy'
 have key : ∀ {A : Option Addr} {n c : Nat}, a.eval x = .slice A n c → Pure P o a w E (.lit (.bool (negIf neg A.isNone))) := by
  intro A n c hxv
  refine ⟨_, ?_, .lit _⟩
  have hcv : a.eval (.const (.slice none 0 0)) = .slice none 0 0 := rfl
  cases neg
  ·simp [execOp, ho, hxv, hcv, eqGuard, binOp, Op.equal, Op.maxDepth, run_equalIn_slice_nil w 9999 t e A n c ht, negIf]
  ·simp [execOp, ho, hxv, hcv, eqGuard, binOp, Op.equal, Op.maxDepth, run_equalIn_slice_nil w 9999 t e A n c ht, negIf]
 simp only [evO] at he
 split at he
 ·rename_i id i n g hb
  rw [hb] at h1
  generalize hxv : a.eval x = xv at h1
  cases h1 with
  | arr _ _ _ _ A cap hk hg hd =>
   split at he
   case h_2 => cases he
   rename_i ob hob
   split at he
   case isFalse => cases he
   rename_i hog
   simp only [Option.some.injEq, Prod.mk.injEq] at he
   obtain ⟨rfl, rfl⟩ := he
   obtain ⟨es, a1, a2, a3, a4, a5⟩ := hr.obj id hk
   rw [hob] at a1
   simp only [Option.some.injEq] at a1
   subst a1
   dsimp only at hog ⊢
   obtain ⟨d1, d2, d3, d4, d5⟩ := hd hog.1
   have : E.nl id = A.isNone := by
    cases hnl : E.nl id
    ·have := d4 hnl; cases A <;> simp_all
    ·obtain ⟨rfl, -, -⟩ := d3 hnl; rfl
   rw [this]
   exact ⟨rfl, key hxv⟩
 ·rename_i A n c hb
  rw [hb] at h1
  simp only [Option.some.injEq, Prod.mk.injEq] at he
  obtain ⟨rfl, rfl⟩ := he
  exact ⟨rfl, key h1.lit_eq⟩
 ·rename_i e0 es hb
  rw [hb] at h1
  simp only [Option.some.injEq, Prod.mk.injEq] at he
  obtain ⟨rfl, rfl⟩ := he
  generalize hxv : a.eval x = xv at h1
  cases h1 with
  | sl _ vs A cap sz hc hsz hl hv hA =>
   obtain ⟨b, off, rfl, -⟩ := hA (by simp)
   have := key hxv
   refine ⟨rfl, ?_⟩
   simpa [negIf] using this
 ·rename_i hb
  rw [hb] at h1
  simp only [Option.some.injEq, Prod.mk.injEq] at he
  obtain ⟨rfl, rfl⟩ := he
  generalize hxv : a.eval x = xv at h1
  cases h1 with
  | emp ad =>
   have := key hxv
   refine ⟨rfl, ?_⟩
   simpa [negIf] using this
 ·cases he
end
end Go.Proofs.YtnmgpbihknjdjaaDoor
namespace Go.Proofs.YtnmgpbihknjdjaaDoor
open Go.RowKit
section
variable {P : Program} {w : World} {E : Env} {o : Oper} {a : Act} {s : List MV} {h : MHeap}
theorem V.moved {m : MV} {v : Value} (hv : V E w m v) {m' : MV} {d : Nat} (hm : (∃ id i off g, m = .ptr id i off g ∧ m' = .ptr id i (off + d) g) ∨ ∃ e off, m = .rp e off ∧ m' = .rp e (off + d)) :
  ∃ b o, v = .pointer (some ⟨b, o, none⟩) ∧ V E w m' (.pointer (some ⟨b, o + d, none⟩)) := by
 rcases hm with ⟨id, i, off, g, rfl, rfl⟩ | ⟨e, off, rfl, rfl⟩
 ·cases hv with
  | ptr _ _ _ _ b o' hk hg hd =>
   refine ⟨b, o', rfl, .ptr _ _ _ _ _ _ hk hg fun e => ?_⟩
   obtain ⟨h1, h2, h3⟩ := hd e
   exact ⟨h1, by omega, h3⟩
 ·cases hv with
  | rp _ _ vs b o' hl hc hS hcell =>
   refine ⟨b, o' + off, rfl, ?_⟩
   rw [Nat.add_assoc]
   exact .rp _ _ vs b o' hl hc hS hcell
theorem pure_fa {t : TypeId} {fs : Array Field} {f : Nat} {fd : Field} {n : Nat} {x : Operand} {x' : MX} {v : MV} {h' : MHeap} {lk : Nat → Bool} {O : Oracle} (ho : o.op = .fieldAddr t x f) (ht : P.underlying t = some (.struct fs)) (hf : fs[f]? = some fd) (hn : tsz P fd.type = some n) (hpos : 0 < n) (hx : cX x = some x')
  (hs : Slots E w s a) (he : evO lk O s h (.fa fd.offset x') = some (v, h')) : h' = h ∧ Pure P o a w E v := by
 have h1 := hs.x hx
 obtain ⟨inf, hinf, hsz⟩ : ∃ inf, P.info? fd.type = some inf ∧ inf.size = n := by unfold tsz at hn; rwa [Option.map_eq_some_iff] at hn
 have key : ∀ {b o' : Nat}, a.eval x = .pointer (some ⟨b, o', none⟩) → (execOp a.eval o).run P w = .ok (.value (.pointer (some ⟨b, o' + fd.offset, none⟩))) w := by
  intro b o' hxv
  have hne : ¬ inf.size = 0 := by omega
  simp [execOp, ho, hxv, Instr.fieldAt, run_underlying ht, hf, Instr.sureAddr, fieldPlace, sizeOf, typeInfo, hinf, hne, Addr.add_none]
 simp only [evO] at he
 split at he
 ·rename_i id i off g hb
  simp only [Option.some.injEq, Prod.mk.injEq] at he
  obtain ⟨rfl, rfl⟩ := he
  rw [hb] at h1
  obtain ⟨b, o', e1, e2⟩ := h1.moved (d := fd.offset) (.inl ⟨_, _, _, _, rfl, rfl⟩)
  exact ⟨rfl, _, key e1, e2⟩
 ·rename_i e off hb
  simp only [Option.some.injEq, Prod.mk.injEq] at he
  obtain ⟨rfl, rfl⟩ := he
  rw [hb] at h1
  obtain ⟨b, o', e1, e2⟩ := h1.moved (d := fd.offset) (.inr ⟨_, _, rfl, rfl⟩)
  exact ⟨rfl, _, key e1, e2⟩
 ·cases he
theorem pure_iaa {t e : TypeId} {len sz : Nat} {x y : Operand} {x' y' : MX} {v : MV} {h' : MHeap} {lk : Nat → Bool} {O : Oracle} (ho : o.op = .indexAddr t x y) (ht : P.underlying t = some (.array len e)) (hn : tsz P e = some sz) (hx : cX x = some x') (hy : cX y = some y')
  (hs : Slots E w s a) (he : evO lk O s h (.iaa sz len x' y') = some (v, h')) : h' = h ∧ Pure P o a w E v := by
 have h1 := hs.x hx
 have h2 := hs.x hy
 obtain ⟨inf, hinf, hsz⟩ : ∃ inf, P.info? e = some inf ∧ inf.size = sz := by unfold tsz at hn; rwa [Option.map_eq_some_iff] at hn
 simp only [evO] at he
 have hint : ∀ {k : Int}, intOf? (y'.get s) = some k → ∃ kk, a.eval y = .int kk k := by
  intro k hk
  unfold intOf? at hk
  split at hk
  ·rename_i kk n hb
   cases hk
   rw [hb] at h2
   exact ⟨kk, h2.lit_eq⟩
  ·cases hk
 have key : ∀ {b o' : Nat} {k : Int}, a.eval x = .pointer (some ⟨b, o', none⟩) → intOf? (y'.get s) = some k → 0 ≤ k ∧ k < len → (execOp a.eval o).run P w = .ok (.value (.pointer (some ⟨b, o' + k.toNat * sz, none⟩))) w := by
  intro b o' k hxv hk hb
  obtain ⟨kk, hyv⟩ := hint hk
  simp [execOp, ho, hxv, hyv, Instr.indexAt, asIntOf, run_underlying ht, Instr.sureAddr, hb, sizeOf, typeInfo, hinf, hsz, Addr.add_none]
 split at he
 ·rename_i id j o' g k hb hk
  split at he
  case isFalse => cases he
  rename_i hlt
  simp only [Option.some.injEq, Prod.mk.injEq] at he
  obtain ⟨rfl, rfl⟩ := he
  rw [hb] at h1
  obtain ⟨b, o', e1, e2⟩ := h1.moved (d := k.toNat * sz) (.inl ⟨_, _, _, _, rfl, rfl⟩)
  exact ⟨rfl, _, key e1 hk hlt, e2⟩
 ·rename_i e o' k hb hk
  split at he
  case isFalse => cases he
  rename_i hlt
  simp only [Option.some.injEq, Prod.mk.injEq] at he
  obtain ⟨rfl, rfl⟩ := he
  rw [hb] at h1
  obtain ⟨b, o', e1, e2⟩ := h1.moved (d := k.toNat * sz) (.inr ⟨_, _, rfl, rfl⟩)
  exact ⟨rfl, _, key e1 hk hlt, e2⟩
 ·cases he
theorem mheap_ok (hr : HRel E h w) {id g sz : Nat} (hk : E.K id) (hok : MHeap.ok h id g sz = true) : E.gn id = g ∧ E.sz id = sz := by
 unfold MHeap.ok at hok
 obtain ⟨es, a1, -⟩ := hr.obj id hk
 rw [a1] at hok
 simpa using hok
theorem pure_ia {t e : TypeId} {sz : Nat} {x y : Operand} {x' y' : MX} {v : MV} {h' : MHeap} {lk : Nat → Bool} {O : Oracle} (ho : o.op = .indexAddr t x y) (ht : P.underlying t = some (.slice e)) (hn : tsz P e = some sz) (hx : cX x = some x') (hy : cX y = some y')
  (hs : Slots E w s a) (hr : HRel E h w) (he : evO lk O s h (.ia sz x' y') = some (v, h')) : h' = h ∧ Pure P o a w E v := by
 have h1 := hs.x hx
 have h2 := hs.x hy
 obtain ⟨inf, hinf, hsz⟩ : ∃ inf, P.info? e = some inf ∧ inf.size = sz := by unfold tsz at hn; rwa [Option.map_eq_some_iff] at hn
 simp only [evO] at he
 have hint : ∀ {k : Int}, intOf? (y'.get s) = some k → ∃ kk, a.eval y = .int kk k := by
  intro k hk
  unfold intOf? at hk
  split at hk
  ·rename_i kk n hb
   cases hk
   rw [hb] at h2
   exact ⟨kk, h2.lit_eq⟩
  ·cases hk
 have key : ∀ {b o' n c : Nat} {k : Int}, a.eval x = .slice (some ⟨b, o', none⟩) n c → intOf? (y'.get s) = some k → 0 ≤ k ∧ k < n → (execOp a.eval o).run P w = .ok (.value (.pointer (some ⟨b, o' + k.toNat * sz, none⟩))) w := by
  intro b o' n c k hxv hk hb
  obtain ⟨kk, hyv⟩ := hint hk
  simp [execOp, ho, hxv, hyv, Instr.indexAt, asIntOf, run_underlying ht, hb, sizeOf, typeInfo, hinf, hsz, Addr.add_none]
 split at he
 ·rename_i es k hb hk
  split at he
  case isFalse => cases he
  rename_i h0
  obtain ⟨el, hel, he⟩ := Option.bind_eq_some_iff.1 he
  split at he
  case isFalse => cases he
  rename_i hcl
  simp only [Option.some.injEq, Prod.mk.injEq] at he
  obtain ⟨rfl, rfl⟩ := he
  rw [hb] at h1
  generalize hxv : a.eval x = xv at h1
  have hkl := (List.getElem?_eq_some_iff.1 hel).1
  cases h1 with
  | sl _ vs A cap sz' hc hsz' hl hv hA =>
   obtain ⟨b, off, rfl, hS, hcell⟩ := hA (by omega)
   obtain rfl : sz' = sz := by rw [← hsz' el (List.mem_of_getElem? hel)]; exact hcl
   have hvl : vs.length = es.length * sz' := by rw [← hl, flat_len hsz']
   have hfit : k.toNat * sz' + sz' ≤ vs.length := by rw [hvl, ← Nat.succ_mul]; exact Nat.mul_le_mul_right _ hkl
   refine ⟨rfl, _, key hxv hk ⟨h0, by omega⟩, ?_⟩
   have := V.rp (E := E) (w := w) el 0 ((vs.drop (k.toNat * sz')).take sz') b (off + k.toNat * sz') (by simp; omega) (fun i c u hci hu => by
    have hil : i < sz' := by have := (List.getElem?_eq_some_iff.1 hci).1; omega
    rw [List.getElem?_take, if_pos hil, List.getElem?_drop] at hu
    exact hv _ c u ((flat_iff hsz').2 ⟨k.toNat, i, el, rfl, hil, hel, hci⟩) hu) hS (fun i u hu => by
    rw [List.getElem?_take] at hu
    split at hu
    ·rw [List.getElem?_drop] at hu
     rw [Nat.add_assoc]
     exact hcell _ u hu
    ·cases hu)
   simpa using this
 ·rename_i id j n g k hb hk
  split at he
  case isFalse => cases he
  rename_i hlt
  obtain ⟨l1, l2, l3⟩ := hlt
  simp only [Option.some.injEq, Prod.mk.injEq] at he
  obtain ⟨rfl, rfl⟩ := he
  rw [hb] at h1
  generalize hxv : a.eval x = xv at h1
  cases h1 with
  | arr _ _ _ _ A cap hkk hg hd =>
   obtain ⟨c1, c2⟩ := mheap_ok hr hkk l3
   obtain ⟨d1, d2, d3, d4, d5⟩ := hd c1
   obtain ⟨rfl, d6⟩ := d5 (by omega)
   have hnl : E.nl id = false := by
    cases hnl : E.nl id
    ·rfl
    ·have := (d3 hnl).2.1; omega
   refine ⟨rfl, _, key hxv hk ⟨l1, l2⟩, .ptr _ _ _ _ _ _ hkk hg fun _ => ⟨rfl, ?_, by omega, hnl⟩⟩
   rw [c2, ← Nat.add_assoc, Nat.add_mul (E.bo id + j)]; omega
 ·cases he
theorem pure_fd {t : TypeId} {fs : Array Field} {f : Nat} {fd : Field} {ag : Option Nat} {x : Operand} {x' : MX} {v : MV} {h' : MHeap} {lk : Nat → Bool} {O : Oracle} (ho : o.op = .field t x f) (ht : P.underlying t = some (.struct fs)) (hf : fs[f]? = some fd) (hn : tagg P fd.type = some ag) (hx : cX x = some x')
  (hs : Slots E w s a) (he : evO lk O s h (.fd fd.offset ag x') = some (v, h')) : h' = h ∧ Pure P o a w E v := by
 have h1 := hs.x hx
 simp only [evO] at he
 split at he
 case h_2 => cases he
 rename_i cs hb
 rw [Option.map_eq_some_iff] at he
 obtain ⟨m, hm, he⟩ := he
 simp only [Prod.mk.injEq] at he
 obtain ⟨rfl, rfl⟩ := he
 rw [hb] at h1
 generalize hxv : a.eval x = xv at h1
 cases h1 with
 | agg _ vs hl hv =>
  refine ⟨rfl, ?_⟩
  cases ag with
  | none =>
   obtain ⟨d, d1, d2⟩ := tagg_none hn
   simp only [rdCells] at hm
   have hlt := (List.getElem?_eq_some_iff.1 hm).1
   rw [hl] at hlt
   have hx : vs[fd.offset]? = some vs[fd.offset] := by simp
   refine ⟨vs[fd.offset], ?_, hv _ m _ hm hx⟩
   simp [execOp, ho, hxv, Instr.field, run_underlying ht, hf, asAgg, part, run_isAgg d1 d2, hlt]
  | some n =>
   obtain ⟨⟨d, d1, d2⟩, i, hi, hsz⟩ := tagg_some hn
   simp only [rdCells] at hm
   split at hm
   case isFalse => cases hm
   rename_i hle
   cases hm
   refine ⟨.agg ((vs.drop fd.offset).take n).toArray, ?_, .agg _ _ (by simp; omega) fun j c u hj hu => ?_⟩
   ·simp [execOp, ho, hxv, Instr.field, run_underlying ht, hf, asAgg, part, run_isAgg d1 d2, sizeOf, typeInfo, hi, hsz]
   ·rw [List.getElem?_take] at hj hu
    split at hj
    ·rename_i hlt
     rw [if_pos hlt] at hu
     rw [List.getElem?_drop] at hj hu
     exact hv _ c u hj hu
    ·cases hj
theorem pure_ix {t e : TypeId} {len sz : Nat} {ag : Option Nat} {x i : Operand} {x' i' : MX} {v : MV} {h' : MHeap} {lk : Nat → Bool} {O : Oracle} (ho : o.op = .index t x i) (ht : P.underlying t = some (.array len e)) (hn : tagg P e = some ag) (hsz : tsz P e = some sz) (hx : cX x = some x') (hi : cX i = some i')
  (hs : Slots E w s a) (he : evO lk O s h (.ix ag sz len x' i') = some (v, h')) : h' = h ∧ Pure P o a w E v := by
 have h1 := hs.x hx
 have h2 := hs.x hi
 obtain ⟨inf, hinf, hsz⟩ : ∃ inf, P.info? e = some inf ∧ inf.size = sz := by unfold tsz at hsz; rwa [Option.map_eq_some_iff] at hsz
 simp only [evO] at he
 split at he
 case h_2 => cases he
 rename_i cs k hb hk
 obtain ⟨kk, hyv⟩ : ∃ kk, a.eval i = .int kk k := by
  unfold intOf? at hk
  split at hk
  ·rename_i kk n hb
   cases hk
   rw [hb] at h2
   exact ⟨kk, h2.lit_eq⟩
  ·cases hk
 split at he
 case isFalse => cases he
 rename_i hin
 rw [Option.map_eq_some_iff] at he
 obtain ⟨m, hm, he⟩ := he
 simp only [Prod.mk.injEq] at he
 obtain ⟨rfl, rfl⟩ := he
 rw [hb] at h1
 generalize hxv : a.eval x = xv at h1
 cases h1 with
 | agg _ vs hl hv =>
  refine ⟨rfl, ?_⟩
  cases ag with
  | none =>
   obtain ⟨d, d1, d2⟩ := tagg_none hn
   simp only [rdCells] at hm
   have hlt := (List.getElem?_eq_some_iff.1 hm).1
   rw [hl] at hlt
   have hx : vs[k.toNat * sz]? = some vs[k.toNat * sz] := by simp
   refine ⟨vs[k.toNat * sz], ?_, hv _ m _ hm hx⟩
   simp [execOp, ho, hxv, hyv, Instr.index, asIntOf, run_underlying ht, hin, part, run_isAgg d1 d2, sizeOf, typeInfo, hinf, hsz, hlt]
  | some n =>
   obtain ⟨⟨d, d1, d2⟩, i, hi, hsz'⟩ := tagg_some hn
   rw [hinf] at hi
   cases hi
   simp only [rdCells] at hm
   split at hm
   case isFalse => cases hm
   rename_i hle
   cases hm
   refine ⟨.agg ((vs.drop (k.toNat * sz)).take n).toArray, ?_, .agg _ _ (by simp; omega) fun j c u hj hu => ?_⟩
   ·obtain rfl : sz = n := by omega
    simp [execOp, ho, hxv, hyv, Instr.index, asIntOf, run_underlying ht, hin, part, run_isAgg d1 d2, sizeOf, typeInfo, hinf, hsz]
   ·rw [List.getElem?_take] at hj hu
    split at hj
    ·rename_i hlt
     rw [if_pos hlt] at hu
     rw [List.getElem?_drop] at hj hu
     exact hv _ c u hj hu
    ·cases hj
end
end Go.Proofs.YtnmgpbihknjdjaaDoor
namespace Go.Proofs.YtnmgpbihknjdjaaDoor
open Go.RowKit
section
variable {P : Program} {w : World} {E : Env} {o : Oper} {a : Act} {s : List MV} {h : MHeap}
theorem run_sliceAt {t e : TypeId} {inf : TypeInfo} (ht : P.underlying t = some (.slice e)) (hi : P.info? e = some inf) {A : Option Addr} {n cap : Nat} {lo hi' : Option Value} {l u : Nat} (hl : (lo = none ∧ l = 0) ∨ ∃ k, lo = some (.int k (l : Int)))
  (hu : (hi' = none ∧ u = n) ∨ ∃ k, hi' = some (.int k (u : Int))) (hlu : l ≤ u) (huc : u ≤ cap) :
  (Instr.sliceAt t (.slice A n cap) lo hi' none).run P w = .ok (.slice (if cap = l then A else A.map (·.add (l * inf.size))) (u - l) (cap - l)) w := by
 have hu' : (0 : Int) ≤ u ∧ (u : Int) ≤ cap := by omega
 have hl' : (0 : Int) ≤ l ∧ (l : Int) ≤ u := by omega
 rcases hl with ⟨rfl, rfl⟩ | ⟨k, rfl⟩ <;> rcases hu with ⟨rfl, rfl⟩ | ⟨k', rfl⟩ <;>
  simp [Instr.sliceAt, run_underlying ht, Instr.slice, Instr.sliceBounds, Instr.sliceBound, asIntOf, sizeOf, typeInfo, hi, hu', hl', huc, hlu]
theorem optInt {x : Option Operand} {x' : Option MX} (hx : oX x = some x') (hs : Slots E w s a) :
  (x = none ∧ (x'.map (MX.get s)).map intOf? = none) ∨ ∃ y, x = some y ∧ ∃ m, (x'.map (MX.get s)).map intOf? = some (intOf? m) ∧ V E w m (a.eval y) := by
 cases x with
 | none => simp [oX] at hx; subst hx; exact .inl ⟨rfl, rfl⟩
 | some y =>
  simp only [oX, Option.map_eq_some_iff] at hx
  obtain ⟨y', hy, rfl⟩ := hx
  exact .inr ⟨y, rfl, _, rfl, hs.x hy⟩
theorem intOf_int {m : MV} {v : Value} {n : Int} (hv : V E w m v) (hm : intOf? m = some n) : ∃ k, v = .int k n := by
 unfold intOf? at hm
 split at hm
 ·rename_i k n'
  cases hm
  exact ⟨k, hv.lit_eq⟩
 ·cases hm
theorem V.slcS {es : List MV} {A : Option Addr} {n cap sz : Nat} (hv : V E w (.sl es) (.slice A n cap)) {l u : Nat} (hlu : l ≤ u) (hu : u ≤ es.length) (hsz : ∀ e ∈ es, e.cells.length = sz) :
  V E w (.sl ((es.drop l).take (u - l))) (.slice (if cap = l then A else A.map (·.add (l * sz))) (u - l) (cap - l)) := by
 cases hv with
 | sl _ vs _ _ sz' hc hsz' hl hvv hA =>
  have hlen : ((es.drop l).take (u - l)).length = u - l := by simp; omega
  have hmem : ∀ e ∈ (es.drop l).take (u - l), e.cells.length = sz := fun e he => hsz e (List.mem_of_mem_drop (List.mem_of_mem_take he))
  have hvl : vs.length = es.length * sz := by rw [← hl, flat_len hsz]
  have hmul : l * sz + (u - l) * sz ≤ es.length * sz := by rw [← Nat.add_mul]; exact Nat.mul_le_mul_right _ (by omega)
  have key := V.sl (E := E) (w := w) ((es.drop l).take (u - l)) ((vs.drop (l * sz)).take ((u - l) * sz)) (if cap = l then A else A.map (·.add (l * sz))) (cap - l) sz (by rw [hlen]; omega) hmem
   (by rw [flat_len hmem, hlen]; simp; omega)
   (fun k c v hk hkv => by
    obtain ⟨i, j, e, rfl, hj, he, hcj⟩ := (flat_iff hmem).1 hk
    rw [List.getElem?_take] at he hkv
    split at he
    case isFalse => cases he
    split at hkv
    case isFalse => cases hkv
    rw [List.getElem?_drop] at he hkv
    refine hvv (l * sz + (i * sz + j)) c v ?_ hkv
    rw [flat_iff hsz]
    exact ⟨l + i, j, e, by rw [Nat.add_mul]; omega, hj, he, hcj⟩)
   (fun h0 => by
    rw [hlen] at h0
    obtain ⟨b, off, rfl, hS, hcell⟩ := hA (by omega)
    refine ⟨b, off + l * sz, ?_, hS, fun i v hi => ?_⟩
    ·rw [if_neg (by omega)]; simp [Addr.add_none]
    ·rw [List.getElem?_take] at hi
     split at hi
     ·rw [List.getElem?_drop] at hi
      rw [Nat.add_assoc]
      exact hcell _ v hi
     ·cases hi)
  rw [hlen] at key
  exact key
theorem V.slcA (hr : HRel E h w) {id i n g : Nat} {A : Option Addr} {n' cap sz : Nat} (hv : V E w (.arr id i n g) (.slice A n' cap)) {l u : Nat} (hlu : l ≤ u) (hu : u ≤ n) (hok : MHeap.ok h id g sz = true) :
  V E w (.arr id (i + l) (u - l) g) (.slice (if cap = l then A else A.map (·.add (l * sz))) (u - l) (cap - l)) := by
 cases hv with
 | arr _ _ _ _ _ _ hk hg hd =>
  obtain ⟨c1, c2⟩ := mheap_ok hr hk hok
  obtain ⟨d1, d2, d3, d4, d5⟩ := hd c1
  refine .arr _ _ _ _ _ _ hk hg fun _ => ⟨by omega, by omega, fun hn => ?_, fun hn => ?_, fun h0 => ?_⟩
  ·obtain ⟨rfl, rfl, d7⟩ := d3 hn
   simp [d7]
  ·have := d4 hn
   split
   ·exact this
   ·simpa using this
  ·obtain ⟨rfl, d6⟩ := d5 (by omega)
   rw [if_neg (by omega)]
   refine ⟨?_, by omega⟩
   simp only [Option.map_some, Addr.add_none, Option.some.injEq, Addr.mk.injEq, and_true, true_and]
   rw [c2, ← Nat.add_assoc, Nat.add_mul (E.bo id + i)]
theorem pure_slc {t e : TypeId} {sz : Nat} {x : Operand} {lo hi : Option Operand} {x' : MX} {lo' hi' : Option MX} {v : MV} {h' : MHeap} {lk : Nat → Bool} {O : Oracle} (ho : o.op = .slice t x lo hi none) (ht : telem P t = some e) (hn : tsz P e = some sz) (hx : cX x = some x')
  (hlo : oX lo = some lo') (hhi : oX hi = some hi')
  (hs : Slots E w s a) (hr : HRel E h w) (he : evO lk O s h (.slc sz x' lo' hi') = some (v, h')) : h' = h ∧ Pure P o a w E v := by
 have h1 := hs.x hx
 have h2 := optInt hlo hs
 have h3 := optInt hhi hs
 unfold telem at ht
 split at ht
 case h_2 => cases ht
 rename_i e' hu
 cases ht
 obtain ⟨inf, hinf, rfl⟩ : ∃ inf, P.info? e = some inf ∧ inf.size = sz := by unfold tsz at hn; rwa [Option.map_eq_some_iff] at hn
 have key : ∀ {A : Option Addr} {n cap : Nat} {l u : Nat}, a.eval x = .slice A n cap → ((lo.map a.eval = none ∧ l = 0) ∨ ∃ k, lo.map a.eval = some (.int k (l : Int))) → ((hi.map a.eval = none ∧ u = n) ∨ ∃ k, hi.map a.eval = some (.int k (u : Int))) → l ≤ u → u ≤ cap →
   (execOp a.eval o).run P w = .ok (.value (.slice (if cap = l then A else A.map (·.add (l * inf.size))) (u - l) (cap - l))) w := by
  intro A n cap l u hxv hl hu' hlu huc
  have := run_sliceAt (P := P) (w := w) hu hinf (A := A) (n := n) hl hu' hlu huc
  simp [execOp, ho, hxv, this]
 have loI : ∀ {l : Int}, ((lo'.map (MX.get s)).map intOf?).getD (some 0) = some l → (lo.map a.eval = none ∧ l = 0) ∨ ∃ k, lo.map a.eval = some (.int k l) := by
  intro l hl
  rcases h2 with ⟨rfl, e2⟩ | ⟨y, rfl, m, e2, e3⟩
  ·rw [e2] at hl; simp at hl; exact .inl ⟨rfl, hl.symm⟩
  ·rw [e2] at hl
   obtain ⟨k, hk⟩ := intOf_int e3 (by simpa using hl)
   exact .inr ⟨k, by simp [hk]⟩
 have hiI : ∀ {u : Int}, (hi'.map (MX.get s)).map intOf? = some (some u) → ∃ k, hi.map a.eval = some (.int k u) := by
  intro u hu
  rcases h3 with ⟨rfl, e2⟩ | ⟨y, rfl, m, e2, e3⟩
  ·rw [e2] at hu; cases hu
  ·rw [e2] at hu
   obtain ⟨k, hk⟩ := intOf_int e3 (by simpa using hu)
   exact ⟨k, by simp [hk]⟩
 have hiN : (hi'.map (MX.get s)).map intOf? = none → hi.map a.eval = none := by
  intro hu
  rcases h3 with ⟨rfl, e2⟩ | ⟨y, rfl, m, e2, e3⟩
  ·rfl
  ·rw [e2] at hu; cases hu
 have toN : ∀ {l : Int}, 0 ≤ l → (lo.map a.eval = none ∧ l = 0) ∨ (∃ k, lo.map a.eval = some (.int k l)) → (lo.map a.eval = none ∧ l.toNat = 0) ∨ ∃ k, lo.map a.eval = some (.int k (l.toNat : Int)) := by
  intro l h0 h
  rcases h with ⟨e, rfl⟩ | ⟨k, e⟩
  ·exact .inl ⟨e, rfl⟩
  ·exact .inr ⟨k, by rw [e, Int.toNat_of_nonneg h0]⟩
 simp only [evO] at he
 split at he
 ·rename_i es l u hb el eu
  split at he
  case isFalse => cases he
  rename_i hc
  obtain ⟨c1, c2, c3, c4⟩ := hc
  simp only [Option.some.injEq, Prod.mk.injEq] at he
  obtain ⟨rfl, rfl⟩ := he
  rw [hb] at h1
  have hx2 := h1
  generalize hxv : a.eval x = xv at h1
  cases h1 with
  | sl _ vs A cap sz' hcap =>
   rw [hxv] at hx2
   have := hx2.slcS (l := l.toNat) (u := u.toNat) (sz := inf.size) (by omega) (by omega) (fun e he => by simpa using List.all_eq_true.1 c4 e he)
   refine ⟨rfl, _, key (u := u.toNat) hxv (toN c1 (loI el)) (.inr ?_) (by omega) (by omega), ?_⟩
   ·obtain ⟨k, hk⟩ := hiI eu
    exact ⟨k, by rw [hk, Int.toNat_of_nonneg (by omega)]⟩
   ·have e2 : u.toNat - l.toNat = (u - l).toNat := by omega
    rw [e2] at this
    simpa [e2] using this
 ·rename_i es l hb el eu
  split at he
  case isFalse => cases he
  rename_i hc
  obtain ⟨c1, c2, c4⟩ := hc
  simp only [Option.some.injEq, Prod.mk.injEq] at he
  obtain ⟨rfl, rfl⟩ := he
  rw [hb] at h1
  have hx2 := h1
  generalize hxv : a.eval x = xv at h1
  cases h1 with
  | sl _ vs A cap sz' hcap =>
   rw [hxv] at hx2
   have := hx2.slcS (l := l.toNat) (u := es.length) (sz := inf.size) (by omega) (by omega) (fun e he => by simpa using List.all_eq_true.1 c4 e he)
   rw [List.take_of_length_le (by simp)] at this
   exact ⟨rfl, _, key hxv (toN c1 (loI el)) (.inl ⟨hiN eu, rfl⟩) (by omega) (by omega), this⟩
 ·rename_i id i n g l u hb el eu
  split at he
  case isFalse => cases he
  rename_i hc
  obtain ⟨c1, c2, c3, c4⟩ := hc
  simp only [Option.some.injEq, Prod.mk.injEq] at he
  obtain ⟨rfl, rfl⟩ := he
  rw [hb] at h1
  have hx2 := h1
  generalize hxv : a.eval x = xv at h1
  cases h1 with
  | arr _ _ _ _ A cap hk hg hd =>
   rw [hxv] at hx2
   have hcap := (hd (mheap_ok hr hk c4).1).2.1
   have := hx2.slcA hr (l := l.toNat) (u := u.toNat) (sz := inf.size) (by omega) (by omega) c4
   refine ⟨rfl, _, key (u := u.toNat) hxv (toN c1 (loI el)) (.inr ?_) (by omega) (by omega), ?_⟩
   ·obtain ⟨k, hk⟩ := hiI eu
    exact ⟨k, by rw [hk, Int.toNat_of_nonneg (by omega)]⟩
   ·have e2 : (u - l).toNat = u.toNat - l.toNat := by omega
    rw [e2]
    exact this
 ·rename_i id i n g l hb el eu
  split at he
  case isFalse => cases he
  rename_i hc
  obtain ⟨c1, c2, c4⟩ := hc
  simp only [Option.some.injEq, Prod.mk.injEq] at he
  obtain ⟨rfl, rfl⟩ := he
  rw [hb] at h1
  have hx2 := h1
  generalize hxv : a.eval x = xv at h1
  cases h1 with
  | arr _ _ _ _ A cap hk hg hd =>
   rw [hxv] at hx2
   have hcap := (hd (mheap_ok hr hk c4).1).2.1
   have := hx2.slcA hr (l := l.toNat) (u := n) (sz := inf.size) (by omega) (by omega) c4
   exact ⟨rfl, _, key hxv (toN c1 (loI el)) (.inl ⟨hiN eu, rfl⟩) (by omega) (by omega), this⟩
 ·cases he
end
end Go.Proofs.YtnmgpbihknjdjaaDoor
namespace Go.Proofs.YtnmgpbihknjdjaaDoor
open Go.RowKit
theorem growBy_le (m : Nat) : ∀ (r c : Nat), Builtin.growBy m r c ≤ 2 ^ r * (c + 192)
 | 0, c => by simp [Builtin.growBy]
 | r + 1, c => by
  have ih := growBy_le m r (c + (c + 768) / 4)
  simp only [Builtin.growBy]
  split
  ·have : 1 ≤ 2 ^ (r + 1) := Nat.one_le_two_pow
   have := Nat.mul_le_mul_right (c + 192) this
   omega
  ·refine Nat.le_trans ih ?_
   rw [Nat.pow_succ, Nat.mul_assoc]
   exact Nat.mul_le_mul_left _ (by omega)
theorem nextcap_le {need old : Nat} (h : old < need) (hn : need ≤ 4000000) : Builtin.nextslicecap need old ≤ 80000000 := by
 unfold Builtin.nextslicecap
 split
 ·omega
 ·split
  ·omega
  ·have := growBy_le need 4 old
   omega
section
variable {P : Program} {w : World} {E : Env} {o : Oper} {a : Act} {s : List MV} {h : MHeap}
theorem V.elems (hr : HRel E h w) {m : MV} {v : Value} (hv : V E w m v) {es : List MV} {sz : Nat} (he : m.elems h = some es) (hsz : ∀ e ∈ es, e.cells.length = sz) :
  ∃ A cap vs, v = .slice A es.length cap ∧ Vs E w (flat es) vs ∧ (0 < es.length → ∃ b off, A = some ⟨b, off, none⟩ ∧ ∀ (i : Nat) u, vs[i]? = some u → w.cell? ⟨b, off + i, none⟩ = some u) := by
 unfold MV.elems at he
 split at he
 ·cases he
  cases hv with
  | sl _ vs A cap sz' hc hsz' hl hvv hA =>
   refine ⟨A, cap, vs, rfl, ⟨hl, hvv⟩, fun h0 => ?_⟩
   obtain ⟨b, off, e, -, hc⟩ := hA h0
   exact ⟨b, off, e, hc⟩
 ·cases he
  cases hv with
  | emp ad => exact ⟨some ad, 0, [], rfl, ⟨rfl, fun i c v hc => by simp [flat] at hc⟩, fun h0 => absurd h0 (by simp)⟩
 ·cases he
  have := hv.lit_eq
  subst this
  exact ⟨none, 0, [], rfl, ⟨rfl, fun i c v hc => by simp [flat] at hc⟩, fun h0 => absurd h0 (by simp)⟩
 ·rename_i id i n g
  split at he
  case h_2 => cases he
  rename_i ob hob
  split at he
  case isFalse => cases he
  rename_i hog
  cases he
  cases hv with
  | arr _ _ _ _ A cap hk hg hd =>
   obtain ⟨es', a1, a2, a3, a4, a5⟩ := hr.obj id hk
   rw [hob] at a1
   simp only [Option.some.injEq] at a1
   subst a1
   dsimp only at hog hsz ⊢
   obtain ⟨d1, d2, d3, d4, d5⟩ := hd hog.1
   have hlen : ((es'.drop i).take n).length = n := by simp; omega
   by_cases h0 : n = 0
   ·subst h0
    refine ⟨A, cap, [], by simp, ⟨by simp [flat], fun i c v hc => by simp [flat] at hc⟩, fun h => absurd h (by simp)⟩
   ·have hcp : 0 < E.cp id := by omega
    obtain ⟨arr, t, b1, b2, b3⟩ := a5 hcp
    have hnl : E.nl id = false := by
     cases hnl : E.nl id
     ·rfl
     ·have := (d3 hnl).2.1; omega
    rw [hnl] at b1
    replace b1 : w.heap[E.ρ id]? = some (.cells arr t (0, 0)) := b1
    obtain ⟨rfl, d6⟩ := d5 (by omega)
    have hmem : ∀ e ∈ (es'.drop i).take n, e.cells.length = E.sz id := fun e he => a3 e (List.mem_of_mem_drop (List.mem_of_mem_take he))
    have hfit : (E.bo id + i) * E.sz id + n * E.sz id ≤ arr.size := by rw [b2, ← Nat.add_mul]; exact Nat.mul_le_mul_right _ (by omega)
    refine ⟨_, cap, (arr.toList.drop ((E.bo id + i) * E.sz id)).take (n * E.sz id), by rw [hlen], ⟨by rw [flat_len hmem, hlen]; simp; omega, fun k c v hk hkv => ?_⟩, fun _ => ⟨_, _, rfl, fun j u hj => ?_⟩⟩
    ·obtain ⟨i2, j, e, rfl, hj, he, hcj⟩ := (flat_iff hmem).1 hk
     rw [List.getElem?_take] at he hkv
     split at he
     case isFalse => cases he
     split at hkv
     case isFalse => cases hkv
     rw [List.getElem?_drop] at he hkv
     obtain ⟨v', c1, c2⟩ := b3 _ c ((flat_iff a3).2 ⟨i + i2, j, e, rfl, hj, he, hcj⟩)
     have e1 : (E.bo id + i) * E.sz id + (i2 * E.sz id + j) = E.bo id * E.sz id + ((i + i2) * E.sz id + j) := by rw [Nat.add_mul, Nat.add_mul]; omega
     rw [e1, Array.getElem?_toList, c1] at hkv
     cases hkv
     exact c2
    ·rw [List.getElem?_take] at hj
     split at hj
     case isFalse => cases hj
     rw [List.getElem?_drop, Array.getElem?_toList] at hj
     simp [World.cell?, b1, hj]
 ·cases he
theorem Src.of_elems {t e' : TypeId} {A : Option Addr} {cap sz : Nat} {es : List MV} {vs : List Value} (ht : P.underlying t = some (.slice e')) (hvs : Vs E w (flat es) vs) (hsz : ∀ e ∈ es, e.cells.length = sz) (hone : ∀ e ∈ es, ∀ c ∈ e.cells, c.one = true)
  (hA : 0 < es.length → ∃ b off, A = some ⟨b, off, none⟩ ∧ ∀ (i : Nat) u, vs[i]? = some u → w.cell? ⟨b, off + i, none⟩ = some u) : Src P sz t (.slice A es.length cap) es.length vs w := by
 have hl : vs.length = es.length * sz := by rw [← hvs.1, flat_len hsz]
 have h1 : ∀ u ∈ vs, u.oneCell' = true := fun u hu => by
  obtain ⟨i, hi⟩ := List.getElem?_of_mem hu
  have hil := (List.getElem?_eq_some_iff.1 hi).1
  have hc : (flat es)[i]? = some ((flat es)[i]'(hvs.1 ▸ hil)) := by simp
  refine (hvs.2 i _ u hc hi).one ?_
  obtain ⟨i2, j, e, -, -, he, hcj⟩ := (flat_iff hsz).1 hc
  exact hone e (List.mem_of_getElem? he) _ (List.mem_of_getElem? hcj)
 by_cases h0 : 0 < es.length
 ·obtain ⟨b, off, rfl, hc⟩ := hA h0
  exact Src.ofSlice w ht ⟨b, off, none⟩ es.length cap vs hl (fun j u hj => by rw [Addr.add_none]; exact hc j u hj) h1
 ·have he : es = [] := by cases es <;> simp_all
  subst he
  have hv : vs = [] := by simpa using hl
  subst hv
  exact ⟨.inl ⟨e', ht⟩, fun _ => rfl, by cases A <;> simp [Builtin.firstCells, loadCells, loadCellsFrom], by cases A <;> simp [Builtin.firstCells, loadCells, loadCellsFrom], by simp, fun _ h => by cases h⟩
theorem sOk_spec {e : MV} {sz : Nat} (h : e.sOk sz = true) : e.cells.length = sz ∧ ∀ c ∈ e.cells, c.one = true := by
 unfold MV.sOk at h
 simp only [Bool.and_eq_true, beq_iff_eq] at h
 exact ⟨h.1, fun c hc => List.all_eq_true.1 h.2 c hc⟩
theorem append_grow {t tx e e' : TypeId} {ty : TypeId} {inf : TypeInfo} {zv : Value} (ht : P.underlying t = some (.slice e)) (htx : P.underlying tx = some (.slice e')) (hi : P.info? e = some inf) (hz : inf.zero = some zv) (hzs : zv.cells.size = inf.size) (hby : inf.bytes ≤ 100000)
  {A B : Option Addr} {cap xcap : Nat} {olds xs : List MV} {ovs xvs : List Value} (hov : Vs E w (flat olds) ovs) (hosz : ∀ e ∈ olds, e.cells.length = inf.size)
  (hoA : 0 < olds.length → ∃ b off, A = some ⟨b, off, none⟩ ∧ ∀ (i : Nat) u, ovs[i]? = some u → w.cell? ⟨b, off + i, none⟩ = some u)
  (hxv : Vs E w (flat xs) xvs) (hxs : ∀ e ∈ xs, e.sOk inf.size = true) (hxA : 0 < xs.length → ∃ b off, B = some ⟨b, off, none⟩ ∧ ∀ (i : Nat) u, xvs[i]? = some u → w.cell? ⟨b, off + i, none⟩ = some u)
  (hg : cap < olds.length + xs.length) (hm : olds.length + xs.length ≤ 4000000) :
  ∃ (c : Array Value) (cap' : Nat), (Builtin.append_ #[t, tx] ty #[.slice A olds.length cap, .slice B xs.length xcap]).run P w = .ok (.slice (some ⟨w.heap.size, 0, none⟩) (olds.length + xs.length) cap') (w.drew.alloc (.cells c e)) ∧
   olds.length + xs.length ≤ cap' ∧ c.size = cap' * inf.size ∧ ∀ (k : Nat) m, (flat (olds ++ xs))[k]? = some m → ∃ v, c[k]? = some v ∧ V E w m v := by
 have hxsz : ∀ e ∈ xs, e.cells.length = inf.size := fun e he => (sOk_spec (hxs e he)).1
 have hsrc := Src.of_elems (P := P) (cap := xcap) htx hxv hxsz (fun e he => (sOk_spec (hxs e he)).2) hxA
 have hol : ovs.length = olds.length * inf.size := by rw [← hov.1, flat_len hosz]
 have hxl : xvs.length = xs.length * inf.size := by rw [← hxv.1, flat_len hxsz]
 have hold : (Builtin.firstCells inf.size olds.length (.slice A olds.length cap)).run P w.drew = .ok ovs.toArray w.drew := by
  by_cases h0 : 0 < olds.length
  ·obtain ⟨b, off, rfl, hc⟩ := hoA h0
   exact run_firstCells_some w.drew inf.size olds.length ⟨b, off, none⟩ olds.length cap ovs hol (fun j u hj => by rw [Addr.add_none]; exact hc j u hj)
  ·have he : olds = [] := by cases olds <;> simp_all
   subst he
   have hv : ovs = [] := by simpa using hol
   subst hv
   cases A <;> simp [Builtin.firstCells, loadCells, loadCellsFrom]
 have hcap : cap < olds.length + xs.length := hg
 have hfit : Builtin.nextslicecap (olds.length + xs.length) cap * inf.bytes ≤ 281474976710656 := by
  have := nextcap_le hcap hm
  have := Nat.mul_le_mul this hby
  omega
 have hrun := run_append_grow_src (P := P) w t tx ty e inf zv ht hi hz A olds.length cap ovs hold (.slice B xs.length xcap) xs.length xvs hsrc hg (by omega) hfit
 have hge := grownCap_ge w (olds.length + xs.length) cap e
 refine ⟨_, _, hrun, hge, ?_, fun k m hk => ?_⟩
 ·simp only [Array.size_append, List.size_toArray, List.length_append, size_zeroCells, hzs, hol, hxl]
  rw [← Nat.add_mul, ← Nat.add_mul]
  congr 1
  omega
 ·have hk2 : (flat olds ++ flat xs)[k]? = some m := by simpa [flat] using hk
  have hkl := (List.getElem?_eq_some_iff.1 hk2).1
  rw [List.length_append] at hkl
  by_cases hlt : k < (flat olds).length
  ·rw [List.getElem?_append_left hlt] at hk2
   have hlt' : k < ovs.length := hov.1 ▸ hlt
   refine ⟨ovs[k], ?_, hov.2 k m _ hk2 (by simp)⟩
   rw [Array.getElem?_append_left (by simp; omega)]
   simp [List.getElem?_append_left hlt', hlt']
  ·rw [List.getElem?_append_right (by omega)] at hk2
   have h1 := hov.1
   have h2 := hxv.1
   have hlt' : k - ovs.length < xvs.length := by omega
   rw [h1] at hk2
   refine ⟨xvs[k - ovs.length], ?_, hxv.2 _ m _ hk2 (by simp)⟩
   rw [Array.getElem?_append_left (by simp; omega)]
   simp [List.getElem?_append_right (show ovs.length ≤ k by omega), hlt']
end
end Go.Proofs.YtnmgpbihknjdjaaDoor
namespace Go.Proofs.YtnmgpbihknjdjaaDoor
open Go.RowKit
section
variable {lk : Nat → Bool} {P : Program} {w : World} {E : Env} {o : Oper} {a : Act} {s : List MV} {h : MHeap}
theorem flat_app (xs ys : List MV) : flat (xs ++ ys) = flat xs ++ flat ys := by simp [flat]
theorem eff_app {t tx e e' : TypeId} {inf : TypeInfo} {z : MV} {c : Call} {x y : Operand} {x' y' : MX} {v : MV} {h' : MHeap} {O : Oracle} (ho : o.op = .call c) (hc : c.callee = .builtin .append) (ha : c.args = #[x, y]) (hat : c.argTypes = #[t, tx])
  (ht : P.underlying t = some (.slice e)) (htx : P.underlying tx = some (.slice e')) (hi : P.info? e = some inf) (hz : tzero P e = some z) (hby : inf.bytes ≤ 100000) (hzl : z.cells.length = inf.size) (hok : z.cOk = true)
  (hx : cX x = some x') (hy : cX y = some y') (hs : Slots E w s a) (hr : HRel E h w) (he : evO lk O s h (.app inf.size x' y') = some (v, h')) : Eff lk P o a w E v h' := by
 have h1 := hs.x hx
 have h2 := hs.x hy
 unfold tzero at hz
 rw [Option.map_eq_some_iff] at hz
 obtain ⟨zv, hzv, rfl⟩ := hz
 obtain ⟨inf', hinf', hzero⟩ := Option.bind_eq_some_iff.1 hzv
 rw [hi] at hinf'
 cases hinf'
 have hzs : zv.cells.size = inf.size := by have := (ofV_ok (E := E) (w := w) hok).1; rw [hzl] at this; simpa using this.symm
 have hrunS : ∀ {u v : Value} {w' : World} {r : Value}, a.eval x = u → a.eval y = v → (Builtin.append_ #[t, tx] o.type #[u, v]).run P w = .ok r w' → (execOp a.eval o).run P w = .ok (.value r) w' := by
  intro u v w' r e1 e2 hrun
  simp [execOp, ho, resolve, hc, ha, hat, invoke, builtin, e1, e2, hrun]
 simp only [evO] at he
 split at he
 ·rename_i id i n g xs hb hel
  split at he
  case h_2 => cases he
  rename_i ob hob
  split at he
  case isFalse => cases he
  rename_i hog
  obtain ⟨og1, og2, og3⟩ := hog
  rw [hb] at h1
  have h1' := h1
  generalize hxv : a.eval x = xv at h1
  cases h1 with
  | arr _ _ _ _ A cap hk hg hd =>
   obtain ⟨es, a1, a2, a3, a4, a5⟩ := hr.obj id hk
   rw [hob] at a1
   simp only [Option.some.injEq] at a1
   subst a1
   dsimp only at og1 og2 og3 he ⊢
   obtain ⟨d1, d2, d3, d4, d5⟩ := hd og1
   split at he
   ·rename_i hx0
    subst hx0
    simp only [Option.some.injEq, Prod.mk.injEq] at he
    obtain ⟨rfl, rfl⟩ := he
    obtain ⟨B, xcap, xvs, e2, hvs, hA⟩ := h2.elems hr (sz := inf.size) hel (by simp)
    have hxv0 : xvs = [] := by have := hvs.1; simpa [flat] using this.symm
    subst hxv0
    have hsrc := Src.of_elems (P := P) (cap := xcap) (sz := inf.size) htx hvs (by simp) (by simp) hA
    have hrun := run_append_nothing (P := P) w t tx o.type e inf ht hi A n cap d2 (.slice B 0 xcap) hsrc
    refine ⟨.slice A n cap, w, E, .inl (hrunS hxv e2 hrun), ?_, hr, Ext.refl _ _ _⟩
    rw [hxv] at h1'
    exact h1'
   ·rename_i hx0
    split at he
    case isFalse => cases he
    rename_i hcond
    obtain ⟨hm, hall⟩ := hcond
    simp only [Option.some.injEq, Prod.mk.injEq] at he
    obtain ⟨rfl, rfl⟩ := he
    have hxs : ∀ e ∈ xs, e.sOk inf.size = true := fun e he => List.all_eq_true.1 hall.1 e he
    have hxsz : ∀ e ∈ xs, e.cells.length = inf.size := fun e he => (sOk_spec (hxs e he)).1
    have hpos : 0 < xs.length := List.length_pos_iff.2 hx0
    obtain ⟨B, xcap, xvs, e2, hvs, hB⟩ := h2.elems hr hel hxsz
    have hidl := hr.klt id hk
    have hdl : (es.drop i).length = n := by simp; omega
    have hgk : E.K id → E.gn id < g + 1 ∧ lk id = false := fun _ => ⟨by omega, hall.2⟩
    have hdsz : ∀ e ∈ es.drop i ++ xs, e.cells.length = inf.size := fun e he => by
     rcases List.mem_append.1 he with h | h
     ·rw [a3 e (List.mem_of_mem_drop h), og3]
     ·exact hxsz e h
    have hlen2 : (es.drop i ++ xs).length = n + xs.length := by rw [List.length_append, hdl]
    have helems : MV.elems h (.arr id i n g) = some (es.drop i) := by
     unfold MV.elems
     simp only [hob, og1, true_and]
     rw [if_pos (by omega), List.take_of_length_le (by omega)]
    obtain ⟨A2, cap2, ovs, e3, hov, hoA⟩ := h1'.elems hr (sz := inf.size) helems (fun e he => by rw [a3 e (List.mem_of_mem_drop he), og3])
    rw [hxv] at e3
    simp only [Value.slice.injEq] at e3
    obtain ⟨rfl, e4, rfl⟩ := e3
    by_cases hroom : n + xs.length ≤ cap
    ·obtain ⟨rfl, d6⟩ := d5 (by omega)
     have hcp : 0 < E.cp id := by omega
     obtain ⟨arr, te, b1, b2, b3⟩ := a5 hcp
     have hnl : E.nl id = false := by
      cases hnl : E.nl id
      ·rfl
      ·have := (d3 hnl).2.1; omega
     rw [hnl] at b1
     replace b1 : w.heap[E.ρ id]? = some (.cells arr te (0, 0)) := b1
     have hxl : xvs.length = xs.length * inf.size := by rw [← hvs.1, flat_len hxsz]
     have hsrc := Src.of_elems (P := P) (cap := xcap) htx hvs hxsz (fun e he => (sOk_spec (hxs e he)).2) hB
     have hfit : (E.bo id + i) * inf.size + n * inf.size + xvs.length ≤ arr.size := by
      rw [b2, og3, hxl, ← Nat.add_mul, ← Nat.add_mul]
      exact Nat.mul_le_mul_right _ (by omega)
     have hst := run_storeCells_at (P := P) (E.ρ id) ((E.bo id + i) * inf.size + n * inf.size) te xvs 0 arr w b1 (by simpa using hfit) hsrc.one
     simp only [Nat.add_zero] at hst
     generalize harr : (arr.toList.take ((E.bo id + i) * inf.size + n * inf.size) ++ xvs ++ arr.toList.drop ((E.bo id + i) * inf.size + n * inf.size + xvs.length)).toArray = arr' at hst
     have hsz' : arr'.size = arr.size := by
      rw [← harr]
      simp only [List.size_toArray, List.length_append, List.length_take, List.length_drop, Array.length_toList]
      omega
     have hrun : (Builtin.append_ #[t, tx] o.type #[.slice (some ⟨E.ρ id, (E.bo id + i) * E.sz id, none⟩) n cap, .slice B xs.length xcap]).run P w = .ok (.slice (some ⟨E.ρ id, (E.bo id + i) * E.sz id, none⟩) (n + xs.length) cap) (w.setRow (E.ρ id) arr') := by
      simp [Builtin.append_, run_underlying ht, run_underlying htx, sizeOf, typeInfo, hi, hsrc.len, hroom, hsrc.cells, Addr.add_none, og3, hst]
     have honly : OnlyObj lk E w (w.setRow (E.ρ id) arr') id := ⟨rfl, rfl, rfl, by simp [World.setRow], fun k _ hne => setRow_other w _ k _ (fun e => hne hk hall.2 hcp e.symm)⟩
     have hx2 : Ext lk E w (E.put id (E.ρ id) (E.bo id + i) (E.cp id) inf.size (g + 1) (es.drop i ++ xs).length false) (w.setRow (E.ρ id) arr') := Ext.put honly hgk (fun _ => .inr ⟨hk, hcp, rfl⟩) (.inl hk)
     obtain ⟨r1, r2⟩ := hr.put (h' := h.set id ⟨g + 1, false, inf.size, es.drop i ++ xs⟩) (b := E.ρ id) (bo := E.bo id + i) (cp := E.cp id) (sz := inf.size) (g := g + 1) (nl := false) (es := es.drop i ++ xs) honly hgk (fun _ => .inr ⟨hk, hcp, rfl⟩)
      (fun j hj _ => List.getElem?_set_ne (fun e => hj e.symm)) (by simp [hidl]) hdsz (by omega)
      (fun _ => ⟨arr', te, setRow_heap w _ arr arr' te _ b1, by rw [hsz', b2, og3], fun k m hkm => by
       rw [flat_app] at hkm
       have hdl2 : (flat (es.drop i)).length = n * inf.size := by rw [flat_len (sz := inf.size) (fun e he => by rw [a3 e (List.mem_of_mem_drop he), og3]), hdl]
       by_cases hlt : k < n * inf.size
       ·rw [List.getElem?_append_left (by omega)] at hkm
        obtain ⟨i2, j, e5, rfl, hj, he5, hcj⟩ := (flat_iff (sz := inf.size) (fun e he => by rw [a3 e (List.mem_of_mem_drop he), og3])).1 hkm
        rw [List.getElem?_drop] at he5
        obtain ⟨u, c1, c2⟩ := b3 _ m ((flat_iff a3).2 ⟨i + i2, j, e5, rfl, by rw [og3]; exact hj, he5, hcj⟩)
        refine ⟨u, ?_, c2.ext hr hx2⟩
        rw [← harr, List.getElem?_toArray, List.append_assoc, List.getElem?_append_left (by simp; omega), List.getElem?_take, if_pos (by omega), Array.getElem?_toList]
        rw [og3] at c1
        rw [← c1]
        congr 1
        rw [Nat.add_mul, Nat.add_mul]
        omega
       ·rw [List.getElem?_append_right (by omega), hdl2] at hkm
        have hkl := (List.getElem?_eq_some_iff.1 hkm).1
        have hv1 := hvs.1
        have hlt2 : k - n * inf.size < xvs.length := by omega
        refine ⟨xvs[k - n * inf.size], ?_, (hvs.2 _ m _ hkm (by simp)).ext hr hx2⟩
        rw [← harr, List.getElem?_toArray, List.append_assoc, List.getElem?_append_right (by simp; omega), List.getElem?_append_left (by simp; omega)]
        have e6 : (E.bo id + i) * inf.size + k - (List.take ((E.bo id + i) * inf.size + n * inf.size) arr.toList).length = k - n * inf.size := by simp; omega
        rw [e6]; simp⟩) (by simp) (.inl hk)
     refine ⟨_, _, _, .inl (hrunS hxv e2 hrun), ?_, r1, r2⟩
     rw [hlen2]
     refine .arr _ _ _ _ _ _ (.inr rfl) (by simp [Env.put]) fun _ => ?_
     simp only [Env.put, if_true]
     exact ⟨by omega, hroom, fun h => (by cases h), fun _ => rfl, fun _ => ⟨by rw [og3]; simp, by omega⟩⟩
    ·have hgr := append_grow (P := P) (ty := o.type) (A := A) (B := B) (cap := cap) (xcap := xcap) ht htx hi hzero hzs hby hov (fun e he => by rw [a3 e (List.mem_of_mem_drop he), og3]) hoA hvs hxs hB (by omega) (by omega)
     obtain ⟨cc, cap', g1, g2, g3, g4⟩ := hgr
     rw [hdl] at g1 g2
     have hbel : Below w.heap.size w (w.drew.alloc (.cells cc e)) := ((Below.refl _ w).drew).alloc (Nat.le_refl _) _
     have honly : OnlyObj lk E w (w.drew.alloc (.cells cc e)) id := OnlyObj.of_below hbel
     have hx2 : Ext lk E w (E.put id w.heap.size 0 cap' inf.size (g + 1) (es.drop i ++ xs).length false) (w.drew.alloc (.cells cc e)) := Ext.put honly hgk (fun _ => .inl (Nat.le_refl _)) (.inl hk)
     obtain ⟨r1, r2⟩ := hr.put (h' := h.set id ⟨g + 1, false, inf.size, es.drop i ++ xs⟩) (b := w.heap.size) (bo := 0) (cp := cap') (sz := inf.size) (g := g + 1) (nl := false) (es := es.drop i ++ xs) honly hgk (fun _ => .inl (Nat.le_refl _))
      (fun j hj _ => List.getElem?_set_ne (fun e => hj e.symm)) (by simp [hidl]) hdsz (by omega)
      (fun _ => ⟨cc, e, World.alloc_heap_new w.drew _, g3, fun k m hkm => by
       obtain ⟨u, c1, c2⟩ := g4 k m hkm
       exact ⟨u, by simpa using c1, c2.ext hr hx2⟩⟩) (by simp) (.inl hk)
     refine ⟨_, _, _, .inl (hrunS hxv e2 g1), ?_, r1, r2⟩
     rw [hlen2]
     refine .arr _ _ _ _ _ _ (.inr rfl) (by simp [Env.put]) fun _ => ?_
     simp only [Env.put, if_true]
     exact ⟨by omega, g2, fun h => (by cases h), fun _ => rfl, fun _ => ⟨by simp, by omega⟩⟩
 ·rename_i xs hb hel
  rw [hb] at h1
  have hxv := h1.lit_eq
  split at he
  ·rename_i hx0
   subst hx0
   simp only [Option.some.injEq, Prod.mk.injEq] at he
   obtain ⟨rfl, rfl⟩ := he
   obtain ⟨B, xcap, xvs, e2, hvs, hA⟩ := h2.elems hr (sz := inf.size) hel (by simp)
   have hxv0 : xvs = [] := by have := hvs.1; simpa [flat] using this.symm
   subst hxv0
   have hsrc := Src.of_elems (P := P) (cap := xcap) (sz := inf.size) htx hvs (by simp) (by simp) hA
   have hrun := run_append_nothing (P := P) w t tx o.type e inf ht hi none 0 0 (Nat.le_refl _) (.slice B 0 xcap) hsrc
   exact ⟨_, w, E, .inl (hrunS hxv e2 hrun), .lit _, hr, Ext.refl _ _ _⟩
  ·rename_i hx0
   split at he
   case isFalse => cases he
   rename_i hcond
   obtain ⟨hm, hall⟩ := hcond
   simp only [Option.some.injEq, Prod.mk.injEq] at he
   obtain ⟨rfl, rfl⟩ := he
   have hxs : ∀ e ∈ xs, e.sOk inf.size = true := fun e he => List.all_eq_true.1 hall e he
   have hxsz : ∀ e ∈ xs, e.cells.length = inf.size := fun e he => (sOk_spec (hxs e he)).1
   have hpos : 0 < xs.length := List.length_pos_iff.2 hx0
   obtain ⟨B, xcap, xvs, e2, hvs, hB⟩ := h2.elems hr hel hxsz
   have hgr := append_grow (P := P) (w := w) (E := E) (ty := o.type) (A := none) (B := B) (cap := 0) (xcap := xcap) (olds := []) (ovs := []) ht htx hi hzero hzs hby ⟨rfl, fun i c v hc => by simp [flat] at hc⟩ (by simp) (by simp) hvs hxs hB (by simp; omega) (by simpa using hm)
   obtain ⟨cc, cap', g1, g2, g3, g4⟩ := hgr
   simp only [List.length_nil, Nat.zero_add, List.nil_append] at g1 g2 g4
   have hbel : Below w.heap.size w (w.drew.alloc (.cells cc e)) := ((Below.refl _ w).drew).alloc (Nat.le_refl _) _
   obtain ⟨r1, r2⟩ := hr.add (b := w.heap.size) (cp := cap') (sz := inf.size) (nl := false) hbel hxsz g2 (fun _ => ⟨Nat.le_refl _, cc, e, World.alloc_heap_new w.drew _, g3, g4⟩)
   refine ⟨_, _, _, .inl (hrunS hxv e2 g1), ?_, r1, r2⟩
   exact arr_put g2
 ·rename_i xs hb hel
  rw [hb] at h1
  obtain ⟨ad, hxv⟩ : ∃ ad, a.eval x = .slice (some ad) 0 0 := by
   generalize a.eval x = xv at h1
   cases h1 with
   | emp ad => exact ⟨ad, rfl⟩
  split at he
  ·rename_i hx0
   subst hx0
   simp only [Option.some.injEq, Prod.mk.injEq] at he
   obtain ⟨rfl, rfl⟩ := he
   obtain ⟨B, xcap, xvs, e2, hvs, hA⟩ := h2.elems hr (sz := inf.size) hel (by simp)
   have hxv0 : xvs = [] := by have := hvs.1; simpa [flat] using this.symm
   subst hxv0
   have hsrc := Src.of_elems (P := P) (cap := xcap) (sz := inf.size) htx hvs (by simp) (by simp) hA
   have hrun := run_append_nothing (P := P) w t tx o.type e inf ht hi (some ad) 0 0 (Nat.le_refl _) (.slice B 0 xcap) hsrc
   exact ⟨_, w, E, .inl (hrunS hxv e2 hrun), .emp ad, hr, Ext.refl _ _ _⟩
  ·rename_i hx0
   split at he
   case isFalse => cases he
   rename_i hcond
   obtain ⟨hm, hall⟩ := hcond
   simp only [Option.some.injEq, Prod.mk.injEq] at he
   obtain ⟨rfl, rfl⟩ := he
   have hxs : ∀ e ∈ xs, e.sOk inf.size = true := fun e he => List.all_eq_true.1 hall e he
   have hxsz : ∀ e ∈ xs, e.cells.length = inf.size := fun e he => (sOk_spec (hxs e he)).1
   have hpos : 0 < xs.length := List.length_pos_iff.2 hx0
   obtain ⟨B, xcap, xvs, e2, hvs, hB⟩ := h2.elems hr hel hxsz
   have hgr := append_grow (P := P) (w := w) (E := E) (ty := o.type) (A := some ad) (B := B) (cap := 0) (xcap := xcap) (olds := []) (ovs := []) ht htx hi hzero hzs hby ⟨rfl, fun i c v hc => by simp [flat] at hc⟩ (by simp) (by simp) hvs hxs hB (by simp; omega) (by simpa using hm)
   obtain ⟨cc, cap', g1, g2, g3, g4⟩ := hgr
   simp only [List.length_nil, Nat.zero_add, List.nil_append] at g1 g2 g4
   have hbel : Below w.heap.size w (w.drew.alloc (.cells cc e)) := ((Below.refl _ w).drew).alloc (Nat.le_refl _) _
   obtain ⟨r1, r2⟩ := hr.add (b := w.heap.size) (cp := cap') (sz := inf.size) (nl := false) hbel hxsz g2 (fun _ => ⟨Nat.le_refl _, cc, e, World.alloc_heap_new w.drew _, g3, g4⟩)
   refine ⟨_, _, _, .inl (hrunS hxv e2 g1), ?_, r1, r2⟩
   exact arr_put g2
 ·cases he
end
section
variable {P : Program} {w : World} {E : Env}
theorem run_partI {xs : Array Value} {i : Nat} {f : Field} {kk : IntKind} {v : Value} (hu : P.underlying f.type = some (.int kk)) (hv : xs[i]? = some v) : (part f.type xs i).run P w = .ok v w := by
 have hag : (isAgg f.type).run P w = .ok false w := run_isAgg hu rfl w
 simp [part, hag, hv]
theorem intFields_cons {i : Nat} {f : Field} {fs : List Field} (hf : intFields P i (f :: fs) = true) : f.offset = i ∧ f.name ≠ "_" ∧ (∃ kk, P.underlying f.type = some (.int kk)) ∧ intFields P (i + 1) fs = true := by
 simp only [intFields, Bool.and_eq_true, beq_iff_eq, bne_iff_ne] at hf
 obtain ⟨⟨⟨f1, f2⟩, f3⟩, f4⟩ := hf
 refine ⟨f1, f2, ?_, f4⟩
 split at f3
 ·rename_i kk hh; exact ⟨kk, hh⟩
 ·cases f3
theorem run_checkKeyS {t : TypeId} {fs : Array Field} {xs : Array Value} (hu : P.underlying t = some (.struct fs)) (hf : intFields P 0 fs.toList = true) (hl : fs.size ≤ xs.size) (em : Bool) (n : Nat) : (Instr.checkKey em (n + 2) t (.agg xs)).run P w = .ok () w := by
 rw [Instr.checkKey]
 simp only [Sem.run_bind, run_underlying hu, Result.andThen_ok]
 rw [← Array.forIn_toList]
 have key : ∀ (L : List Field) (i : Nat), intFields P i L = true → i + L.length ≤ xs.size → (forIn L PUnit.unit fun f r => do
   if f.name ≠ "_" then
    let x ← part f.type xs f.offset
    Instr.checkKey em (n + 1) f.type x
    pure (ForInStep.yield PUnit.unit)
   else
    pure PUnit.unit
    pure (ForInStep.yield PUnit.unit) : Sem PUnit).run P w = .ok PUnit.unit w := by
  intro L
  induction L with
  | nil => intro i _ _; simp
  | cons f L ih =>
   intro i h1 h2
   obtain ⟨k1, k2, ⟨kk, k3⟩, k4⟩ := intFields_cons h1
   simp only [List.length_cons] at h2
   obtain ⟨u, hx⟩ : ∃ u, xs[i]? = some u := ⟨_, Array.getElem?_eq_getElem (by omega)⟩
   have p1 := run_partI (P := P) (w := w) (xs := xs) (i := i) k3 hx
   rw [← k1] at p1
   have p2 : ∀ v, (Instr.checkKey em (n + 1) f.type v).run P w = .ok () w := fun v => by
    simp [Instr.checkKey, run_underlying k3]
   simp only [List.forIn_cons, Sem.run_bind, k2, ne_eq, not_false_eq_true, if_true, Result.andThen_ok, p1, p2, Sem.run_pure]
   exact ih (i + 1) k4 (by omega)
 have := key fs.toList 0 hf (by simpa using hl)
 simp at this ⊢
 simp [this, Result.andThen]
theorem run_keyEqS {kt : TypeId} {fs : Array Field} {xs ys : Array Value} {ps qs : List MV} {b : Bool} (hu : P.underlying kt = some (.struct fs)) (hf : intFields P 0 fs.toList = true) (hst : P.stoodInHeld kt = false) (hp : ps.length = fs.size) (he : litEq ps qs = some b)
  (h1 : Vs E w ps xs.toList) (h2 : Vs E w qs ys.toList) : (Op.equal kt (.agg xs) (.agg ys)).run P w = .ok b w := by
 have hfo : P.fieldsOf kt = fs := by simp [Program.fieldsOf, hu]
 have hrun := run_eqFields (P := P) (E := E) (w := w) (d := 9998) (xs := xs) (ys := ys) hf (by simpa using hp) he (by simpa using h1) (by simpa using h2)
 have h3 := run_equalIn_struct (P := P) w 9999 kt xs ys (by rw [hfo]; exact hu) hst
 rw [hfo] at h3
 simp only [Op.equal, Op.maxDepth]
 exact h3.trans hrun
def EntV (E : Env) (w : World) (es : List MV) (l : List MapEntry) : Prop := es.length = l.length ∧ ∀ (i : Nat) c e, es[i]? = some c → l[i]? = some e → V E w c (.tuple #[e.key, e.val])
theorem EntV.tail {c : MV} {es : List MV} {e : MapEntry} {l : List MapEntry} (h : EntV E w (c :: es) (e :: l)) : EntV E w es l := ⟨by have := h.1; simpa using this, fun i c' e' h1 h2 => h.2 (i + 1) c' e' (by simpa using h1) (by simpa using h2)⟩
theorem V.pair {k v : MV} {a b : Value} (h : V E w (.tup [k, v]) (.tuple #[a, b])) : V E w k a ∧ V E w v b := by
 generalize hx : Value.tuple #[a, b] = x at h
 cases h with
 | tup cs vs hl hv =>
  simp only [Value.tuple.injEq] at hx
  have : vs = [a, b] := by
   have := congrArg Array.toList hx
   simpa using this.symm
  subst this
  exact ⟨hv 0 _ _ rfl rfl, hv 1 _ _ rfl rfl⟩
theorem V.aggK {ps : List MV} {a : Value} (h : V E w (.agg ps) a) : ∃ xs : Array Value, a = .agg xs ∧ Vs E w ps xs.toList := by
 cases h with
 | agg cs vs hl hv => exact ⟨vs.toArray, rfl, ⟨by simpa using hl, by simpa using hv⟩⟩
structure KeyT (P : Program) (kt : TypeId) (n : Nat) : Prop where
 ck : ∀ (xs : Array Value) (w : World) (em : Bool), n ≤ xs.size → (Instr.checkKey em 10000 kt (.agg xs)).run P w = .ok () w
 eq : ∀ (E : Env) (w : World) (ps qs : List MV) (xs ys : Array Value) (b : Bool), ps.length = n → litEq ps qs = some b → Vs E w ps xs.toList → Vs E w qs ys.toList → (Op.equal kt (.agg xs) (.agg ys)).run P w = .ok b w
 find : ∀ (w : World) (x : Value) (l : List MapEntry), (Instr.findKey kt x l).run P w = (Instr.findAsking kt x l).run P w
theorem run_eqItemsI {e : TypeId} {kk : IntKind} (hu : P.underlying e = some (.int kk)) {d : Nat} {xs ys : Array Value} : ∀ (n i : Nat) (ps qs : List MV) (b : Bool), ps.length = n → litEq ps qs = some b → Vs E w ps (xs.toList.drop i) → Vs E w qs (ys.toList.drop i) →
  (Op.eqItems (d + 1) e 1 xs ys (List.range' i n)).run P w = .ok b w
 | 0, i, ps, qs, b, hl, he, _, _ => by
  obtain rfl : ps = [] := List.length_eq_zero_iff.1 hl
  cases qs with
  | nil => simp [litEq] at he; subst he; simp [Op.eqItems]
  | cons q qs => simp [litEq] at he
 | n + 1, i, [], qs, b, hl, he, hp, hq => by simp at hl
 | n + 1, i, p :: ps, [], b, hl, he, hp, hq => by cases p <;> simp [litEq] at he
 | n + 1, i, p :: ps, q :: qs, b, hl, he, hp, hq => by
  unfold litEq at he
  split at he <;> try (cases he; done)
  ·rename_i e _; cases e
  rename_i k u ps' k' v qs' e1 e2
  simp only [List.cons.injEq] at e1 e2
  obtain ⟨rfl, rfl⟩ := e1
  obtain ⟨rfl, rfl⟩ := e2
  split at he
  case isFalse => cases he
  rename_i hk
  subst hk
  rw [Option.map_eq_some_iff] at he
  obtain ⟨r, hr, rfl⟩ := he
  have hxl : 0 < (xs.toList.drop i).length := by rw [← hp.1]; simp
  have hyl : 0 < (ys.toList.drop i).length := by rw [← hq.1]; simp
  have hx0 := (hp.2 0 _ _ rfl (List.getElem?_eq_getElem hxl)).lit_eq
  have hy0 := (hq.2 0 _ _ rfl (List.getElem?_eq_getElem hyl)).lit_eq
  rw [List.getElem_drop] at hx0 hy0
  simp only [Nat.add_zero, Array.getElem_toList] at hx0 hy0
  have hxi : i < xs.size := by simp at hxl; omega
  have hyi : i < ys.size := by simp at hyl; omega
  have gx : xs[i]? = some (.int k u) := by rw [Array.getElem?_eq_getElem hxi, hx0]
  have gy : ys[i]? = some (.int k v) := by rw [Array.getElem?_eq_getElem hyi, hy0]
  have hag : (isAgg e).run P w = .ok false w := run_isAgg hu rfl w
  have p1 : (part e xs (i * 1)).run P w = .ok (.int k u) w := by simp [part, hag, gx]
  have p2 : (part e ys (i * 1)).run P w = .ok (.int k v) w := by simp [part, hag, gy]
  have p3 : (Op.equalIn (d + 1) e (.int k u) (.int k v)).run P w = .ok (u == v) w := by simp [Op.equalIn, run_underlying hu]
  have tl : ∀ {l : List Value} {ms : List MV} {m : MV}, Vs E w (m :: ms) (l.drop i) → Vs E w ms (l.drop (i + 1)) := fun {l ms m} hv =>
   ⟨by have := hv.1; simp at this ⊢; omega, fun j c x hc hx => hv.2 (j + 1) c x (by simpa using hc) (by rw [List.getElem?_drop] at hx ⊢; rw [← hx]; congr 1; omega)⟩
  have ih := run_eqItemsI hu (d := d) n (i + 1) _ _ r (by simpa using hl) hr (tl hp) (tl hq)
  rw [List.range'_succ]
  simp only [Op.eqItems, Sem.run_bind, p1, p2, p3, Result.andThen_ok]
  cases hb : (u == v)
  ·simp
  ·simpa using ih
theorem run_checkKeyA {t e : TypeId} {m : Nat} {kk : IntKind} {i : TypeInfo} {xs : Array Value} (hu : P.underlying t = some (.array m e)) (he : P.underlying e = some (.int kk)) (hi : P.info? e = some i) (hce : P.cellsOf e = 1) (hl : m ≤ xs.size) (em : Bool) (n : Nat) : (Instr.checkKey em (n + 2) t (.agg xs)).run P w = .ok () w := by
 rw [Instr.checkKey]
 simp only [Sem.run_bind, run_underlying hu, Result.andThen_ok]
 simp only [Std.Legacy.Range.forIn_eq_forIn_range', Std.Legacy.Range.size, Nat.sub_zero, Nat.add_one_sub_one, Nat.div_one]
 have key : ∀ (q j : Nat), j + q ≤ xs.size → (forIn (List.range' j q) PUnit.unit fun i r => do
   let z ← Go.sizeOf e
   let x ← part e xs (i * z)
   Instr.checkKey em (n + 1) e x
   pure (ForInStep.yield PUnit.unit) : Sem PUnit).run P w = .ok PUnit.unit w := by
  intro q
  induction q with
  | zero => intro j _; simp
  | succ q ih =>
   intro j hj
   obtain ⟨u, hx⟩ : ∃ u, xs[j]? = some u := ⟨_, Array.getElem?_eq_getElem (by omega)⟩
   have hag : (isAgg e).run P w = .ok false w := run_isAgg he rfl w
   have p1 : (part e xs (j * 1)).run P w = .ok u w := by simp [part, hag, hx]
   have p2 : (Instr.checkKey em (n + 1) e u).run P w = .ok () w := by simp [Instr.checkKey, run_underlying he]
   rw [List.range'_succ]
   simp only [List.forIn_cons, Sem.run_bind, run_sizeOf w hi, hce, Result.andThen_ok, p1, p2, Sem.run_pure]
   exact ih (j + 1) (by omega)
 have := key m 0 (by omega)
 simp at this ⊢
 simp [this, Result.andThen]
theorem keyT_of {kt : TypeId} {n : Nat} (h : keyN P kt = some n) : KeyT P kt n := by
 unfold keyN at h
 split at h
 ·rename_i fs hu
  split at h
  case isFalse => cases h
  rename_i hc
  cases h
  exact ⟨fun xs w em hl => run_checkKeyS hu hc.1 hl em 9998, fun E w ps qs xs ys b hp he h1 h2 => run_keyEqS hu hc.1 hc.2 hp he h1 h2, fun w x l => run_findKey_eq w (by rw [hu]) x l⟩
 ·rename_i n' e hu
  split at h
  case h_2 => cases h
  rename_i kk he
  split at h
  case isFalse => cases h
  rename_i hz
  cases h
  obtain ⟨i, hi, hi2⟩ : ∃ i, P.info? e = some i ∧ i.size = 1 := by
   unfold tsz at hz
   rw [Option.map_eq_some_iff] at hz
   exact hz
  have hce : P.cellsOf e = 1 := by simp [Program.cellsOf, hi, hi2]
  refine ⟨fun xs w em hl => ?_, fun E w ps qs xs ys b hp hq h1 h2 => ?_, fun w x l => run_findKey_eq w (by rw [hu]) x l⟩
  ·exact run_checkKeyA hu he hi hce hl em 9998
  ·have h3 := run_equalIn_array (P := P) w 9999 xs ys hu hi
   rw [hce, List.range_eq_range'] at h3
   simp only [Op.equal, Op.maxDepth]
   exact h3.trans (run_eqItemsI he (d := 9998) n 0 ps qs b hp hq (by simpa using h1) (by simpa using h2))
 ·cases h
theorem V.mapOf {h : MHeap} {m : MV} {v : Value} {es : List MV} (hr : HRel E h w) (hv : V E w m v) (he : m.ents h = some es) : ∃ b ents ck l, v = .map (some b) ∧ w.heap[b]? = some (.map ents ck) ∧ l.Perm ents.toList ∧ MapKept.Stamped ents ck ∧ EntV E w es l := by
 cases hv with
 | rm es' b ents ck l hl hv hp hs hb hc =>
  simp only [MV.ents, Option.some.injEq] at he
  subst he
  exact ⟨b, ents, ck, l, rfl, hc, hp, hs, hl, hv⟩
 | mp id g b hk hg hd =>
  simp only [MV.ents] at he
  split at he
  case h_2 => cases he
  rename_i ob hob
  split at he
  case isFalse => cases he
  rename_i hc
  split at he
  case h_2 => cases he
  rename_i es' hes
  simp only [Option.some.injEq] at he
  subst he
  obtain ⟨es0, a1, a2, a3, a4, a5⟩ := hr.obj id hk
  rw [hob] at a1
  simp only [Option.some.injEq] at a1
  subst a1
  simp only at hc hes
  subst hes
  obtain ⟨rfl, d2, d3⟩ := hd hc.1
  obtain ⟨arr, t, b1, b2, b3⟩ := a5 d3
  rw [d2] at b1
  obtain ⟨ents, ck, l, b4, hp, hs, rfl⟩ := b1
  have h0 : E.bo id * E.sz id + 0 = 0 := by
   have hz : (MV.tup es').cells.length = E.sz id := a3 _ List.mem_cons_self
   simp only [MV.cells, List.length_cons, List.length_nil] at hz
   simp only [List.size_toArray, List.length_cons, List.length_nil] at b2
   rw [← hz, Nat.mul_one] at b2
   simp only [List.length_cons, List.length_nil] at a4
   rw [← hz]; omega
  obtain ⟨v, b5, b6⟩ := b3 0 (.tup es') rfl
  rw [h0] at b5
  simp only [List.getElem?_toArray, List.getElem?_cons_zero, Option.some.injEq] at b5
  subst b5
  generalize hx : mapV l = x at b6
  cases b6 with
  | tup cs vs hl hv =>
   unfold mapV at hx
   simp only [Value.tuple.injEq] at hx
   have hvs : vs = l.map fun e => Value.tuple #[e.key, e.val] := by
    have := congrArg Array.toList hx
    simpa using this.symm
   subst hvs
   exact ⟨_, ents, ck, l, rfl, b4, hp, hs, by simpa using hl, fun i c e h1 h2 => hv i c _ h1 (by rw [List.getElem?_map, h2]; rfl)⟩
 | lit v => simp [MV.ents] at he
 | _ => simp [MV.ents] at he
end
section
variable {lk : Nat → Bool} {P : Program} {w : World} {E : Env} {o : Oper} {a : Act} {s : List MV} {h : MHeap}
theorem EntV.toV {es : List MV} {l : List MapEntry} (h : EntV E w es l) : V E w (.tup es) (mapV l) := by
 show V E w (.tup es) (.tuple (l.map fun e => Value.tuple #[e.key, e.val]).toArray)
 exact V.tup (E := E) (w := w) es (l.map fun e => Value.tuple #[e.key, e.val]) (by simpa using h.1) fun i c v hc hv => by
  rw [List.getElem?_map, Option.map_eq_some_iff] at hv
  obtain ⟨e, he, rfl⟩ := hv
  exact h.2 i c e hc he
theorem EntV.rm {Es : Env} {es : List MV} {l : List MapEntry} {ents : Array MapEntry} {b ck : Nat} (h : EntV Es w es l) (hp : l.Perm ents.toList) (hs : MapKept.Stamped ents ck) (hS : Es.S b) (hb : w.heap[b]? = some (.map ents ck)) : V Es w (.rm es) (.map (some b)) :=
 .rm es b ents ck l h.1 h.2 hp hs hS hb
theorem EntV.cons {c : MV} {es : List MV} {e : MapEntry} {l : List MapEntry} (hc : V E w c (.tuple #[e.key, e.val])) (h : EntV E w es l) : EntV E w (c :: es) (e :: l) := ⟨by simp [h.1], fun i c' e' h1 h2 => by
 cases i with
 | zero => simp at h1 h2; subst h1 h2; exact hc
 | succ i => exact h.2 i c' e' (by simpa using h1) (by simpa using h2)⟩
theorem EntV.uncons {c : MV} {es : List MV} {l : List MapEntry} (h : EntV E w (c :: es) l) : ∃ e l', l = e :: l' ∧ V E w c (.tuple #[e.key, e.val]) ∧ EntV E w es l' := by
 cases l with
 | nil => have := h.1; simp at this
 | cons e l => exact ⟨e, l, rfl, h.2 0 c e rfl rfl, h.tail⟩
theorem EntV.perm {es es2 : List MV} (hp : es2.Perm es) : ∀ {l : List MapEntry}, EntV E w es l → ∃ l2, l2.Perm l ∧ EntV E w es2 l2 := by
 induction hp with
 | nil => exact fun {l} h => ⟨l, .refl _, h⟩
 | cons c _ ih =>
  intro l h
  obtain ⟨e, l', rfl, h1, h2⟩ := h.uncons
  obtain ⟨l2, h3, h4⟩ := ih h2
  exact ⟨e :: l2, h3.cons e, h4.cons h1⟩
 | swap c d es =>
  intro l h
  obtain ⟨e, l', rfl, h1, h2⟩ := h.uncons
  obtain ⟨f, l', rfl, h3, h4⟩ := h2.uncons
  exact ⟨f :: e :: l', .swap e f l', (h4.cons h1).cons h3⟩
 | trans _ _ ih1 ih2 =>
  intro l h
  obtain ⟨l1, h1, h2⟩ := ih2 h
  obtain ⟨l2, h3, h4⟩ := ih1 h2
  exact ⟨l2, h3.trans h1, h4⟩
theorem insE_perm (e : MV) : ∀ es : List MV, (insE e es).Perm (e :: es)
 | [] => .refl _
 | f :: es => by
  unfold insE
  split
  ·exact .refl _
  ·exact ((insE_perm e es).cons f).trans (.swap e f es)
theorem litEq_diff : ∀ {ps qs : List MV} {us vs : List Value}, litEq ps qs = some false → Vs E w ps us → Vs E w qs vs → us ≠ vs
 | [], [], us, vs, h, _, _ => by simp [litEq] at h
 | [], q :: qs, _, _, h, _, _ => by simp [litEq] at h
 | p :: ps, [], _, _, h, _, _ => by cases p <;> simp [litEq] at h
 | p :: ps, q :: qs, us, vs, h, h1, h2 => by
  unfold litEq at h
  split at h <;> try (cases h; done)
  ·rename_i k a ps' k' b qs' e1 e2
   simp only [List.cons.injEq] at e1 e2
   obtain ⟨rfl, rfl⟩ := e1
   obtain ⟨rfl, rfl⟩ := e2
   split at h
   case isFalse => cases h
   rename_i hk
   subst hk
   rw [Option.map_eq_some_iff] at h
   obtain ⟨r, hr, hr2⟩ := h
   obtain ⟨u, us, rfl, k1, k2⟩ := h1.uncons
   obtain ⟨v, vs, rfl, k3, k4⟩ := h2.uncons
   have e3 := k1.lit_eq
   have e4 := k3.lit_eq
   subst e3 e4
   intro e
   simp only [List.cons.injEq, Value.int.injEq, true_and] at e
   cases r
   ·exact litEq_diff hr k2 k4 e.2
   ·rw [Bool.and_true, beq_eq_false_iff_ne] at hr2
    exact hr2 e.1
theorem litEq_same : ∀ {ps qs : List MV} {us vs : List Value}, litEq ps qs = some true → Vs E w ps us → Vs E w qs vs → us = vs ∧ ∀ u ∈ us, ∃ k n, u = .int k n
 | [], [], us, vs, _, h1, h2 => by
  have e1 : us = [] := List.length_eq_zero_iff.1 h1.1.symm
  have e2 : vs = [] := List.length_eq_zero_iff.1 h2.1.symm
  subst e1 e2
  exact ⟨rfl, fun u hu => by cases hu⟩
 | [], q :: qs, _, _, h, _, _ => by simp [litEq] at h
 | p :: ps, [], _, _, h, _, _ => by cases p <;> simp [litEq] at h
 | p :: ps, q :: qs, us, vs, h, h1, h2 => by
  unfold litEq at h
  split at h <;> try (cases h; done)
  ·rename_i e _; cases e
  ·rename_i k a ps' k' b qs' e1 e2
   simp only [List.cons.injEq] at e1 e2
   obtain ⟨rfl, rfl⟩ := e1
   obtain ⟨rfl, rfl⟩ := e2
   split at h
   case isFalse => cases h
   rename_i hk
   subst hk
   rw [Option.map_eq_some_iff] at h
   obtain ⟨r, hr, hr2⟩ := h
   rw [Bool.and_eq_true, beq_iff_eq] at hr2
   obtain ⟨rfl, rfl⟩ := hr2
   obtain ⟨u, us, rfl, k1, k2⟩ := h1.uncons
   obtain ⟨v, vs, rfl, k3, k4⟩ := h2.uncons
   have e3 := k1.lit_eq
   have e4 := k3.lit_eq
   obtain ⟨e5, e6⟩ := litEq_same hr k2 k4
   subst e3 e4 e5
   exact ⟨rfl, fun u hu => by
    rcases List.mem_cons.1 hu with rfl | hu
    ·exact ⟨_, _, rfl⟩
    ·exact e6 u hu⟩
theorem sameBits_ints {xs : Array Value} (h : ∀ u ∈ xs.toList, ∃ k n, u = .int k n) (n : Nat) : Instr.sameBits (n + 2) (.agg xs) (.agg xs) = true := by
 simp only [Instr.sameBits, beq_self_eq_true, Bool.true_and]
 rw [List.all_eq_true]
 rintro ⟨a, b⟩ hab
 obtain ⟨i, hi⟩ := List.getElem?_of_mem hab
 rw [List.getElem?_zip_eq_some] at hi
 obtain ⟨h1, h2⟩ := hi
 rw [h1] at h2
 simp only [Option.some.injEq] at h2
 subst h2
 obtain ⟨k, m, rfl⟩ := h a (List.mem_of_getElem? h1)
 simp [Instr.sameBits]
theorem eff_mkm {t kt et : TypeId} (ho : o.op = .makeMap t none) (_ht : P.underlying t = some (.map kt et)) (hr : HRel E h w) : Eff lk P o a w E (.mp h.length 0) (h ++ [⟨0, true, 1, [.tup []]⟩]) := by
 have hbel : Below w.heap.size w (w.alloc (.map #[] 0)) := (Below.refl _ w).alloc (Nat.le_refl _) _
 obtain ⟨r1, r2⟩ := hr.add (lk := lk) (b := w.heap.size) (cp := 1) (sz := 1) (nl := true) (es := [.tup []]) hbel (by simp [MV.cells]) (by simp) (fun _ => ⟨Nat.le_refl _, #[mapV []], 0, ⟨#[], 0, [], World.alloc_heap_new w _, .refl _, MapKept.stamped_empty 0, rfl⟩, by simp, fun k c hk => by
  cases k with
  | zero =>
   simp [flat, MV.cells] at hk
   subst hk
   exact ⟨mapV [], by simp, by have e : mapV [] = .tuple #[] := (by simp [mapV]); rw [e]; exact .tup [] [] rfl fun i c v hc => (by simp at hc)⟩
  | succ k => simp [flat, MV.cells] at hk⟩)
 refine ⟨.map (some w.heap.size), _, _, .inl ?_, ?_, r1, r2⟩
 ·have := run_makeMap (P := P) t w
  simp [execOp, ho, this]
 ·exact .mp _ _ _ (.inr rfl) (by simp [Env.put]) fun _ => by simp [Env.put]
theorem pure_ent {x : Operand} {x' : MX} {v : MV} {h' : MHeap} {O : Oracle} (ho : o.op = .entry x) (hx : cX x = some x') (hs : Slots E w s a) (he : evO lk O s h (.ent x') = some (v, h')) : h' = h ∧ Pure P o a w E v := by
 have h1 := hs.x hx
 simp only [evO] at he
 split at he
 case h_2 => cases he
 rename_i k v0 e1
 simp only [Option.some.injEq, Prod.mk.injEq] at he
 obtain ⟨rfl, rfl⟩ := he
 rw [e1] at h1
 generalize hxv : a.eval x = xv at h1
 cases h1 with
 | itr _ _ b ents ck since seen en hk hv hst hen hS hb hi =>
  have hf : ents.find? (fun e => e.born == en.born) = some en := by
   rw [← Array.find?_toList]
   exact find_born en ents.toList hst.2.1 hen
  have hrun : (Instr.entry (.pointer (some ⟨E.yl, 0, none⟩))).run P w = .ok (.tuple #[en.key, en.val]) w := by
   simp only [Instr.entry, getObj, Sem.run_bind, Sem.run, hi, hb, Result.andThen, Array.back?_push, bne_self_eq_false, Bool.false_eq_true, if_false, hf]
   rfl
  refine ⟨rfl, .tuple #[en.key, en.val], by simp [execOp, ho, hxv, hrun], ?_⟩
  exact V.tup (E := E) (w := w) [k, v0] [en.key, en.val] rfl fun i c v hc hv' => by
   match i, hc, hv' with
   | 0, hc, hv' => simp at hc hv'; subst hc hv'; exact hk
   | 1, hc, hv' => simp at hc hv'; subst hc hv'; exact hv
   | i + 2, hc, _ => simp at hc
theorem find_run {kt : TypeId} {x : Value} : ∀ (l : List MapEntry) (i : Nat), (∀ e ∈ l, ∃ b, (Op.equal kt x e.key).run P w = .ok b w ∧ (b = true ↔ e.key = x)) → ((∀ e ∈ l, e.key ≠ x) ∧ (Instr.findAsking kt x l i).run P w = .ok none w) ∨ ∃ j e, l[j]? = some e ∧ e.key = x ∧ (Instr.findAsking kt x l i).run P w = .ok (some (i + j, e.val)) w
 | [], i, _ => .inl ⟨fun e he => (by cases he), by simp [Instr.findAsking]⟩
 | e :: l, i, h => by
  obtain ⟨b, h1, h2⟩ := h e List.mem_cons_self
  cases b
  ·have hne : e.key ≠ x := fun hk => by have := h2.2 hk; cases this
   rcases find_run l (i + 1) fun e' he' => h e' (List.mem_cons_of_mem _ he') with ⟨g1, g2⟩ | ⟨j, e', g1, g2, g3⟩
   ·refine .inl ⟨fun e' he' => ?_, by simp [Instr.findAsking, h1, g2]⟩
    rcases List.mem_cons.1 he' with rfl | he'
    ·exact hne
    ·exact g1 e' he'
   ·exact .inr ⟨j + 1, e', by simpa using g1, g2, by simp [Instr.findAsking, h1, g3]; omega⟩
  ·exact .inr ⟨0, e, rfl, h2.1 rfl, by simp [Instr.findAsking, h1]⟩
theorem set_perm {α : Type} {l : List α} {j : Nat} {e : α} (h : l[j]? = some e) (e' : α) : ∃ m, l.Perm (e :: m) ∧ (l.set j e').Perm (e' :: m) := by
 induction l generalizing j with
 | nil => simp at h
 | cons x l ih =>
  cases j with
  | zero => simp at h; subst h; exact ⟨l, .refl _, .refl _⟩
  | succ j =>
   obtain ⟨m, h1, h2⟩ := ih (by simpa using h)
   exact ⟨x :: m, (h1.cons x).trans (.swap e x m), by simpa using (h2.cons x).trans (.swap e' x m)⟩
theorem key_inj : ∀ (L : List MapEntry), (L.map (·.key)).Nodup → ∀ {x y : MapEntry}, x ∈ L → y ∈ L → x.key = y.key → x = y
 | [], _, x, y, h, _, _ => by cases h
 | z :: L, hn, x, y, hx, hy, e => by
  rw [List.map_cons, List.nodup_cons] at hn
  rcases List.mem_cons.1 hx with e1 | h1 <;> rcases List.mem_cons.1 hy with e2 | h2
  ·rw [e1, e2]
  ·exact absurd (List.mem_map.2 ⟨y, h2, by rw [← e, e1]⟩) hn.1
  ·exact absurd (List.mem_map.2 ⟨x, h1, by rw [e, e2]⟩) hn.1
  ·exact key_inj L hn.2 h1 h2 e
theorem eff_mup {t kt et : TypeId} {n : Nat} {m k x : Operand} {m' k' x' : MX} {v : MV} {h' : MHeap} {O : Oracle} (ho : o.op = .mapUpdate t m k x ∨ o.op = .insert t m k x) (ht : P.underlying t = some (.map kt et)) (hkn : keyN P kt = some n)
  (hm : cX m = some m') (hk : cX k = some k') (hx : cX x = some x') (hs : Slots E w s a) (hr : HRel E h w) (he : evO lk O s h (.mup n m' k' x') = some (v, h')) : Eff lk P o a w E v h' := by
 have KT := keyT_of hkn
 have h1 := hs.x hm
 have h2 := hs.x hk
 have h3 := hs.x hx
 simp only [evO] at he
 split at he
 case h_2 => cases he
 rename_i id g ps es e1 e2 e3
 split at he
 case isFalse => cases he
 rename_i hl
 obtain ⟨hl, hlk, hko, hpl⟩ := hl
 rw [e2] at h2
 obtain ⟨b, ents, ck, l, hxv, hb, hpm, hst, hE⟩ := h1.mapOf hr e3
 obtain ⟨xs, hkv, hxs⟩ := h2.aggK
 rw [e1] at h1 e3
 rw [hxv] at h1
 have hck : (Instr.checkKey false 10000 kt (.agg xs)).run P w = .ok () w := KT.ck xs w false (by have := hxs.1; simp at this; omega)
 simp only [MV.ents] at e3
 split at e3
 case h_2 => cases e3
 rename_i ob hob
 split at e3
 case isFalse => cases e3
 rename_i hc
 split at e3
 case h_2 => cases e3
 rename_i es' hes
 simp only [Option.some.injEq] at e3
 subst e3
 obtain ⟨hK, hρ, hnl, hcp⟩ : E.K id ∧ b = E.ρ id ∧ E.nl id = true ∧ 0 < E.cp id := by
  cases h1 with
  | mp _ _ _ hk hg hd =>
   obtain ⟨d1, d2, d3⟩ := hd (hr.gnOf hk hob hc.1).1
   exact ⟨hk, d1, d2, d3⟩
 subst hρ
 obtain ⟨es0, a1, a2, a3, a4, a5⟩ := hr.obj id hK
 have hob' := hob
 rw [hob'] at a1
 simp only [Option.some.injEq] at a1
 subst a1
 simp only at hc hes
 subst hes
 have hz : E.sz id = 1 := by
  have := a3 _ List.mem_cons_self
  simpa [MV.cells] using this.symm
 obtain ⟨arr, tt, b1, b2, b3⟩ := a5 hcp
 rw [hnl] at b1
 obtain ⟨ents2, ck2, l2, b4, -, -, rfl⟩ := b1
 have hbo : E.bo id = 0 ∧ E.cp id = 1 := by
  simp only [List.size_toArray, List.length_cons, List.length_nil] at b2
  rw [hz, Nat.mul_one] at b2
  simp only [List.length_cons, List.length_nil] at a4
  omega
 have fin : ∀ (es2 : List MV) (l2 : List MapEntry) (ents' : Array MapEntry) (ck' : Nat), EntV E w es2 l2 → l2.Perm ents'.toList → MapKept.Stamped ents' ck' → (Instr.mapUpdate t (.map (some (E.ρ id))) (.agg xs) (a.eval x)).run P w = .ok () { w with heap := w.heap.setIfInBounds (E.ρ id) (.map ents' ck') } →
   Eff lk P o a w E (.lit undef) (h.set id ⟨g, true, 1, [.tup es2]⟩) := by
  intro es2 l2 ents' ck' hE2 hp2 hs2 hrun
  obtain ⟨q1, q2⟩ := MapKept.heap_set (o' := .map ents' ck') hb
  have hw := hr.write hlk (w' := { w with heap := w.heap.setIfInBounds (E.ρ id) (.map ents' ck') }) (t := tt) (arr' := #[mapV l2]) hK hcp hob (es' := [.tup es2]) (by simp) (fun e he => by
   rw [List.mem_singleton] at he
   subst he
   rw [hz]; rfl) ⟨rfl, rfl, rfl, by simp⟩ (fun k hne => q2 k hne) (by rw [hnl]; exact ⟨ents', ck', l2, q1, hp2, hs2, rfl⟩) (by rw [hz, hbo.2]; rfl) (fun k c hkc => by
   cases k with
   | zero =>
    simp [flat, MV.cells] at hkc
    subst hkc
    exact ⟨mapV l2, by rw [hbo.1]; simp, hE2.toV⟩
   | succ k => simp [flat, MV.cells] at hkc)
  have e9 : (⟨g, true, 1, [.tup es2]⟩ : MObj) = { (⟨E.gn id, E.nl id, E.sz id, [.tup es']⟩ : MObj) with es := [.tup es2] } := by
   simp only [hc.1, hnl, hz]
  rw [e9]
  refine ⟨undef, _, E, .inr ⟨?_, rfl⟩, .lit _, hw.1, hw.2⟩
  rcases ho with ho | ho
  ·simp [execOp, ho, hxv, hkv, hrun]
  ·simp [execOp, ho, hxv, hkv, hrun]
 split at he
 case h_2 => cases he
 rename_i r hmf
 simp only [Option.some.injEq, Prod.mk.injEq] at he
 obtain ⟨rfl, rfl⟩ := he
 have hnew : ∀ bn, V E w (.tup [.agg ps, x'.get s]) (.tuple #[({ key := .agg xs, val := a.eval x, born := bn } : MapEntry).key, ({ key := .agg xs, val := a.eval x, born := bn } : MapEntry).val]) := fun bn => by
  rw [hkv] at h2
  exact V.tup (E := E) (w := w) [.agg ps, x'.get s] [.agg xs, a.eval x] rfl fun i c v hc hv => by
   match i, hc, hv with
   | 0, hc, hv => simp at hc hv; subst hc hv; exact h2
   | 1, hc, hv => simp at hc hv; subst hc hv; exact h3
   | i + 2, hc, _ => simp at hc
 have hent : ∀ (i : Nat) c e, es'[i]? = some c → l[i]? = some e → ∃ qs u ys bb, c = .tup [.agg qs, u] ∧ e.key = .agg ys ∧ Vs E w qs ys.toList ∧ litEq ps qs = some bb ∧ (bb = true ↔ e.key = .agg xs) := fun i c e hc he => by
  have h4 := List.all_eq_true.1 hko c (List.mem_of_getElem? hc)
  obtain ⟨qs, u, rfl⟩ : ∃ qs u, c = .tup [.agg qs, u] := by
   split at h4
   ·exact ⟨_, _, rfl⟩
   ·cases h4
  obtain ⟨bb, hbb⟩ := Option.isSome_iff_exists.1 h4
  obtain ⟨h5, h6⟩ := (hE.2 i _ e hc he).pair
  obtain ⟨ys, hy, hys⟩ := h5.aggK
  refine ⟨qs, u, ys, bb, rfl, hy, hys, hbb, ?_⟩
  rw [hy]
  cases bb
  ·refine ⟨fun h => (by cases h), fun h => ?_⟩
   simp only [Value.agg.injEq] at h
   exact absurd (congrArg Array.toList h).symm (litEq_diff hbb hxs hys)
  ·refine ⟨fun _ => ?_, fun _ => rfl⟩
   have := (litEq_same hbb hxs hys).1
   congr 1
   exact (Array.ext' this).symm
 have hmem : ∀ e ∈ ents.toList, ∃ bb, (Op.equal kt (.agg xs) e.key).run P w = .ok bb w ∧ (bb = true ↔ e.key = .agg xs) := fun e he => by
  obtain ⟨i, hi⟩ := List.getElem?_of_mem (hpm.mem_iff.2 he)
  have hlt := (List.getElem?_eq_some_iff.1 hi).1
  rw [← hE.1] at hlt
  obtain ⟨qs, u, ys, bb, -, hy, hys, hbb, hiff⟩ := hent i _ e (List.getElem?_eq_getElem hlt) hi
  exact ⟨bb, by rw [hy]; exact KT.eq E w ps qs xs ys bb hl hbb hxs hys, hiff⟩
 have hfd := find_run (P := P) (w := w) (kt := kt) ents.toList 0 hmem
 have hmfs : ∀ (es : List MV) (i : Nat) (r : Option (Nat × MV)), (∀ c ∈ es, ∃ qs u bb, c = .tup [.agg qs, u] ∧ litEq ps qs = some bb) → mfind ps es i = some r → match r with
   | none => ∀ c ∈ es, ∀ qs u, c = .tup [.agg qs, u] → litEq ps qs = some false
   | some (j, _) => ∃ d qs u, j = i + d ∧ es[d]? = some (.tup [.agg qs, u]) ∧ litEq ps qs = some true := by
  intro es
  induction es with
  | nil => intro i r _ h; simp only [mfind, Option.some.injEq] at h; subst h; exact fun c hc => by cases hc
  | cons c es ih =>
   intro i r hall h
   obtain ⟨qs, u, bb, rfl, hbb⟩ := hall c List.mem_cons_self
   have h' : (match litEq ps qs with
    | some true => some (some (i, u))
    | some false => mfind ps es (i + 1)
    | none => none) = some r := h
   rw [hbb] at h'
   cases bb
   ·have := ih (i + 1) r (fun c hc => hall c (List.mem_cons_of_mem _ hc)) h'
    match r, this with
    | none, this =>
     intro c hc qs' u' e
     rcases List.mem_cons.1 hc with rfl | hc
     ·cases e; exact hbb
     ·exact this c hc qs' u' e
    | some (j, v), this =>
     obtain ⟨d, qs', u', e1, e2, e3⟩ := this
     exact ⟨d + 1, qs', u', by omega, by simpa using e2, e3⟩
   ·simp only [Option.some.injEq] at h'
    subst h'
    exact ⟨0, qs, u, by omega, rfl, hbb⟩
 have hall : ∀ c ∈ es', ∃ qs u bb, c = .tup [.agg qs, u] ∧ litEq ps qs = some bb := fun c hc => by
  obtain ⟨i, hi⟩ := List.getElem?_of_mem hc
  have hlt := (List.getElem?_eq_some_iff.1 hi).1
  rw [hE.1] at hlt
  obtain ⟨qs, u, ys, bb, e1, -, -, hbb, -⟩ := hent i c _ hi (List.getElem?_eq_getElem hlt)
  exact ⟨qs, u, bb, e1, hbb⟩
 have hmr := hmfs es' 0 r hall hmf
 cases r with
 | none =>
  have hno : ∀ e ∈ ents.toList, e.key ≠ .agg xs := fun e he hk => by
   obtain ⟨i, hi⟩ := List.getElem?_of_mem (hpm.mem_iff.2 he)
   have hlt := (List.getElem?_eq_some_iff.1 hi).1
   rw [← hE.1] at hlt
   obtain ⟨qs, u, ys, bb, e1, -, -, hbb, hiff⟩ := hent i _ e (List.getElem?_eq_getElem hlt) hi
   have h5 := hmr _ (List.getElem_mem hlt) qs u e1
   rw [hbb] at h5
   cases h5
   have := hiff.2 hk
   cases this
  rcases hfd with ⟨-, hrun⟩ | ⟨j, e, g1, g2, -⟩
  case inr => exact absurd g2 (hno e (List.mem_of_getElem? g1))
  obtain ⟨l2, p1, p2⟩ := EntV.perm (insE_perm (.tup [.agg ps, x'.get s]) es') (hE.cons (hnew ck))
  refine fin _ l2 (ents.push { key := .agg xs, val := a.eval x, born := ck }) (ck + 1) p2 ?_ (MapKept.stamped_push hst hno) ?_
  ·rw [Array.toList_push]
   exact (p1.trans (hpm.cons _)).trans (List.perm_append_singleton _ _).symm
  ·simp [Instr.mapUpdate, run_underlying ht, MapKept.run_getObj_map hb, hck, KT.find, hrun, MapKept.run_setObj_map _ hb, Result.andThen]
 | some jv =>
  obtain ⟨j, v0⟩ := jv
  obtain ⟨d, qs, u, hd, hdi, hdt⟩ := hmr
  obtain rfl : j = d := by omega
  have hlt := (List.getElem?_eq_some_iff.1 hdi).1
  rw [hE.1] at hlt
  obtain ⟨qs', u', ys, bb, e1, hy, hys, hbb, hiff⟩ := hent j _ _ hdi (List.getElem?_eq_getElem hlt)
  cases e1
  rw [hdt] at hbb
  cases hbb
  have hkey := hiff.1 rfl
  obtain ⟨-, q9⟩ := litEq_same hdt hxs hys
  rcases hfd with ⟨g0, -⟩ | ⟨j2, e, g1, g2, hrun⟩
  case inl => exact absurd hkey (g0 _ (hpm.mem_iff.1 (List.getElem_mem hlt)))
  have hee : e = l[j] := by
   have m1 : e ∈ ents.toList := List.mem_of_getElem? g1
   have m2 : l[j] ∈ ents.toList := hpm.mem_iff.1 (List.getElem_mem hlt)
   exact key_inj ents.toList hst.2.2 m1 m2 (g2.trans hkey.symm)
  have hst2 : (Instr.keyThatStays (.agg xs) (.agg xs)).run P w = .ok (.agg xs) w := by
   simp [Instr.keyThatStays, sameBits_ints q9 9998]
  have g1' : ents[j2]? = some e := by rw [← Array.getElem?_toList]; exact g1
  rw [Nat.zero_add] at hrun
  refine fin _ (l.set j { e with key := .agg xs, val := a.eval x }) (ents.modify j2 fun e => { e with key := .agg xs, val := a.eval x }) ck ⟨by simp [mset, hE.1], fun i c e' hc he => ?_⟩ ?_ (MapKept.stamped_modify hst j2 _ (fun _ _ => rfl) (fun e0 _ he0 => by rw [g1'] at he0; cases he0; exact g2.symm)) ?_
  ·simp only [mset] at hc
   rw [List.getElem?_set] at hc he
   by_cases hij : j = i
   ·subst hij
    have hl1 : j < es'.length := by rw [hE.1]; exact hlt
    rw [if_pos rfl, if_pos hl1] at hc
    rw [if_pos rfl, if_pos hlt] at he
    cases hc
    cases he
    exact hnew e.born
   ·rw [if_neg hij] at hc he
    exact hE.2 i c e' hc he
  ·obtain ⟨m1, p1, p2⟩ := set_perm (List.getElem?_eq_getElem hlt) ({ e with key := .agg xs, val := a.eval x } : MapEntry)
   obtain ⟨m2, p3, p4⟩ := set_perm g1 ({ e with key := .agg xs, val := a.eval x } : MapEntry)
   have e5 : (ents.modify j2 fun e => { e with key := .agg xs, val := a.eval x }).toList = ents.toList.set j2 { e with key := .agg xs, val := a.eval x } := by
    apply List.ext_getElem?
    intro i
    rw [Array.getElem?_toList, Array.getElem?_modify, List.getElem?_set]
    by_cases hij : j2 = i
    ·subst hij
     have hlt2 := (List.getElem?_eq_some_iff.1 g1).1
     simp [g1', hlt2]
     simpa using hlt2
    ·simp [hij]
   rw [e5]
   have p5 : m1.Perm m2 := by
    have := (p1.symm.trans hpm).trans p3
    rw [hee] at this
    exact List.Perm.cons_inv this
   exact (p2.trans (p5.cons _)).trans p4.symm
  ·simp [Instr.mapUpdate, run_underlying ht, MapKept.run_getObj_map hb, hck, KT.find, hrun, g1', g2, hst2, MapKept.run_setObj_map _ hb, Result.andThen]
end
section
variable {P : Program} {w : World} {E : Env} {o : Oper} {a : Act} {s : List MV} {h : MHeap} {lk : Nat → Bool}
theorem pure_shf {op : BinOp} {t yt : TypeId} {x y : Operand} {x' y' : MX} {v : MV} {h' : MHeap} {O : Oracle} (ho : o.op = .binOp op t x y yt) (hop : op = .shl ∨ op = .shr) (hx : cX x = some x') (hy : cX y = some y') (hs : Slots E w s a)
  (he : evO lk O s h (.shf op x' y') = some (v, h')) : h' = h ∧ Pure P o a w E v := by
 have h1 := hs.x hx
 have h2 := hs.x hy
 simp only [evO] at he
 split at he
 case h_2 => cases he
 rename_i k u k' u' e1 e2
 rw [Option.map_eq_some_iff] at he
 obtain ⟨c, hc, he⟩ := he
 simp only [Prod.mk.injEq] at he
 obtain ⟨rfl, rfl⟩ := he
 rw [e1] at h1
 rw [e2] at h2
 unfold shfI at hc
 split at hc
 case isTrue => cases hc
 rename_i hneg
 refine ⟨rfl, c, ?_, .lit _⟩
 rcases hop with rfl | rfl
 ·simp only [Option.some.injEq] at hc
  subst hc
  simp [execOp, ho, h1.lit_eq, h2.lit_eq, eqGuard, binOp, Op.shift, hneg]
 ·simp only [Option.some.injEq] at hc
  subst hc
  simp [execOp, ho, h1.lit_eq, h2.lit_eq, eqGuard, binOp, Op.shift, hneg]
theorem pure_cat {t yt : TypeId} {x y : Operand} {x' y' : MX} {v : MV} {h' : MHeap} {O : Oracle} (ho : o.op = .binOp .add t x y yt) (hx : cX x = some x') (hy : cX y = some y') (hs : Slots E w s a)
  (he : evO lk O s h (.cat x' y') = some (v, h')) : h' = h ∧ Pure P o a w E v := by
 have h1 := hs.x hx
 have h2 := hs.x hy
 simp only [evO] at he
 split at he
 case h_2 => cases he
 rename_i u u' e1 e2
 split at he
 case isFalse => cases he
 rename_i hle
 simp only [Option.some.injEq, Prod.mk.injEq] at he
 obtain ⟨rfl, rfl⟩ := he
 rw [e1] at h1
 rw [e2] at h2
 refine ⟨rfl, _, ?_, .lit _⟩
 have hb : ¬ (((u.size + u'.size : Nat) : Int) > IntKind.i64.max) := by
  have : IntKind.i64.max = 9223372036854775807 := rfl
  omega
 simp only [execOp, ho, h1.lit_eq, h2.lit_eq, eqGuard, binOp, Op.stringOp, if_neg hb]
 simp
theorem bytes_at (b : ByteArray) (i : Nat) : b[i]? = b.data.toList[i]? := by
 rw [Array.getElem?_toList]
 by_cases hi : i < b.size
 ·rw [getElem?_pos b i hi, getElem?_pos b.data i hi]; rfl
 ·rw [getElem?_neg b i hi, getElem?_neg b.data i hi]
theorem pure_sx {t : TypeId} {x i : Operand} {x' i' : MX} {v : MV} {h' : MHeap} {O : Oracle} (ho : o.op = .index t x i) (ht : P.underlying t = some .string) (hx : cX x = some x') (hi : cX i = some i')
  (hs : Slots E w s a) (he : evO lk O s h (.sx x' i') = some (v, h')) : h' = h ∧ Pure P o a w E v := by
 have h1 := hs.x hx
 have h2 := hs.x hi
 simp only [evO] at he
 split at he
 case h_2 => cases he
 rename_i b k hb hk
 obtain ⟨kk, hyv⟩ := intOf_int h2 hk
 split at he
 case isFalse => cases he
 rename_i h0
 rw [Option.map_eq_some_iff] at he
 obtain ⟨c, hc, he⟩ := he
 simp only [Prod.mk.injEq] at he
 obtain ⟨rfl, rfl⟩ := he
 rw [hb] at h1
 refine ⟨rfl, .int .u8 c.toNat, ?_, .lit _⟩
 have hc' : b[k.toNat]? = some c := by rw [bytes_at]; exact hc
 simp [execOp, ho, h1.lit_eq, hyv, Instr.index, asIntOf, run_underlying ht, h0, hc']
theorem run_sliceStr {t : TypeId} (ht : P.underlying t = some .string) {b : ByteArray} {lo hi' : Option Value} {l u : Nat} (hl : (lo = none ∧ l = 0) ∨ ∃ k, lo = some (.int k (l : Int)))
  (hu : (hi' = none ∧ u = b.size) ∨ ∃ k, hi' = some (.int k (u : Int))) (hlu : l ≤ u) (huc : u ≤ b.size) :
  (Instr.sliceAt t (.string b) lo hi' none).run P w = .ok (.string (b.extract l u)) w := by
 have hu' : (0 : Int) ≤ u ∧ (u : Int) ≤ b.size := by omega
 have hl' : (0 : Int) ≤ l ∧ (l : Int) ≤ u := by omega
 rcases hl with ⟨rfl, rfl⟩ | ⟨k, rfl⟩ <;> rcases hu with ⟨rfl, rfl⟩ | ⟨k', rfl⟩ <;>
  simp [Instr.sliceAt, run_underlying ht, Instr.slice, Instr.sliceBounds, Instr.sliceBound, asIntOf, hu', hl', huc, hlu]
theorem pure_ssl {t : TypeId} {x : Operand} {lo hi : Option Operand} {x' : MX} {lo' hi' : Option MX} {v : MV} {h' : MHeap} {O : Oracle} (ho : o.op = .slice t x lo hi none) (ht : P.underlying t = some .string) (hx : cX x = some x')
  (hlo : oX lo = some lo') (hhi : oX hi = some hi')
  (hs : Slots E w s a) (he : evO lk O s h (.ssl x' lo' hi') = some (v, h')) : h' = h ∧ Pure P o a w E v := by
 have h1 := hs.x hx
 have h2 := optInt hlo hs
 have h3 := optInt hhi hs
 have key : ∀ {b : ByteArray} {l u : Nat}, a.eval x = .string b → ((lo.map a.eval = none ∧ l = 0) ∨ ∃ k, lo.map a.eval = some (.int k (l : Int))) → ((hi.map a.eval = none ∧ u = b.size) ∨ ∃ k, hi.map a.eval = some (.int k (u : Int))) → l ≤ u → u ≤ b.size →
   (execOp a.eval o).run P w = .ok (.value (.string (b.extract l u))) w := by
  intro b l u hxv hl hu' hlu huc
  have := run_sliceStr (P := P) (w := w) ht (b := b) hl hu' hlu huc
  simp [execOp, ho, hxv, this]
 have loI : ∀ {l : Int}, ((lo'.map (MX.get s)).map intOf?).getD (some 0) = some l → (lo.map a.eval = none ∧ l = 0) ∨ ∃ k, lo.map a.eval = some (.int k l) := by
  intro l hl
  rcases h2 with ⟨rfl, e2⟩ | ⟨y, rfl, m, e2, e3⟩
  ·rw [e2] at hl; simp at hl; exact .inl ⟨rfl, hl.symm⟩
  ·rw [e2] at hl
   obtain ⟨k, hk⟩ := intOf_int e3 (by simpa using hl)
   exact .inr ⟨k, by simp [hk]⟩
 have hiI : ∀ {u : Int}, (hi'.map (MX.get s)).map intOf? = some (some u) → ∃ k, hi.map a.eval = some (.int k u) := by
  intro u hu
  rcases h3 with ⟨rfl, e2⟩ | ⟨y, rfl, m, e2, e3⟩
  ·rw [e2] at hu; cases hu
  ·rw [e2] at hu
   obtain ⟨k, hk⟩ := intOf_int e3 (by simpa using hu)
   exact ⟨k, by simp [hk]⟩
 have hiN : (hi'.map (MX.get s)).map intOf? = none → hi.map a.eval = none := by
  intro hu
  rcases h3 with ⟨rfl, e2⟩ | ⟨y, rfl, m, e2, e3⟩
  ·rfl
  ·rw [e2] at hu; cases hu
 have toN : ∀ {l : Int}, 0 ≤ l → (lo.map a.eval = none ∧ l = 0) ∨ (∃ k, lo.map a.eval = some (.int k l)) → (lo.map a.eval = none ∧ l.toNat = 0) ∨ ∃ k, lo.map a.eval = some (.int k (l.toNat : Int)) := by
  intro l h0 h
  rcases h with ⟨e, rfl⟩ | ⟨k, e⟩
  ·exact .inl ⟨e, rfl⟩
  ·exact .inr ⟨k, by rw [e, Int.toNat_of_nonneg h0]⟩
 simp only [evO] at he
 split at he
 ·rename_i b l u hb el eu
  split at he
  case isFalse => cases he
  rename_i hc
  obtain ⟨c1, c2, c3⟩ := hc
  simp only [Option.some.injEq, Prod.mk.injEq] at he
  obtain ⟨rfl, rfl⟩ := he
  rw [hb] at h1
  obtain ⟨k, hk⟩ := hiI eu
  exact ⟨rfl, _, key h1.lit_eq (toN c1 (loI el)) (.inr ⟨k, by rw [hk, Int.toNat_of_nonneg (by omega)]⟩) (by omega) (by omega), .lit _⟩
 ·rename_i b l hb el eu
  split at he
  case isFalse => cases he
  rename_i hc
  obtain ⟨c1, c2⟩ := hc
  simp only [Option.some.injEq, Prod.mk.injEq] at he
  obtain ⟨rfl, rfl⟩ := he
  rw [hb] at h1
  exact ⟨rfl, _, key h1.lit_eq (toN c1 (loI el)) (.inl ⟨hiN eu, rfl⟩) (by omega) (by omega), .lit _⟩
 ·cases he
theorem HRel.writeG (hr : HRel E h w) {id : Nat} (hlk : lk id = false) {ob : MObj} {es' : List MV} {w' : World} {arr' : Array Value} {t : TypeId} (hk : E.K id) (hc : 0 < E.cp id) (hob : h[id]? = some ob) (hlen : es'.length = ob.es.length)
  (hsz : ∀ e ∈ es', e.cells.length = E.sz id) (h1 : w'.os = w.os ∧ w'.tape = w.tape ∧ w'.output = w.output ∧ w.heap.size ≤ w'.heap.size) (hkeep : ∀ k, k < w.heap.size → k ≠ E.ρ id → w'.heap[k]? = w.heap[k]?)
  (hh : viewO (E.nl id) w'.heap[E.ρ id]? arr' t) (hs : arr'.size = E.cp id * E.sz id) (hcells : ∀ (k : Nat) c, (flat es')[k]? = some c → ∃ v, arr'[E.bo id * E.sz id + k]? = some v ∧ V E w c v) :
  HRel E (h.set id { ob with es := es' }) w' ∧ Ext lk E w E w' := by
 have hx : Ext lk E w E w' := ⟨h1.1, h1.2.1, h1.2.2.1, h1.2.2.2, fun k hk' hn => hkeep k hk' (fun e => hn id hk hlk hc e.symm), fun _ h => h, fun _ h => h, fun _ _ => ⟨Nat.le_refl _, fun _ => ⟨rfl, rfl, rfl, rfl, rfl, rfl⟩⟩, fun _ _ _ => rfl, fun _ hj hcj => .inl ⟨hj, hcj, rfl⟩, rfl, fun _ h => .inl h, rfl, fun _ h => .inl h⟩
 have hidl := hr.klt id hk
 refine ⟨⟨fun j hj => by simpa using hr.klt j hj, by simpa using hr.top, fun j hj => ?_, hr.inj, hr.sep, fun b hb => Nat.lt_of_lt_of_le (hr.slt b hb) h1.2.2.2, fun p hp => (hr.tab p hp).ext hr hx⟩, hx⟩
 by_cases e : j = id
 ·subst e
  obtain ⟨es, a1, a2, a3, a4, a5⟩ := hr.obj j hj
  rw [hob] at a1
  simp only [Option.some.injEq] at a1
  subst a1
  dsimp only at hlen ⊢
  refine ⟨es', by simp [hidl], by rw [a2, hlen], hsz, by rw [hlen]; exact a4, fun _ => ⟨arr', t, hh, hs, fun k c hkc => ?_⟩⟩
  obtain ⟨v, b1, b2⟩ := hcells k c hkc
  exact ⟨v, b1, b2.ext hr hx⟩
 ·obtain ⟨es, a1, a2, a3, a4, a5⟩ := hr.obj j hj
  refine ⟨es, by rw [List.getElem?_set_ne (fun e' => e e'.symm)]; exact a1, a2, a3, a4, fun hcj => ?_⟩
  obtain ⟨arr, t', b1, b2, b3⟩ := a5 hcj
  refine ⟨arr, t', ?_, b2, fun k c hkc => ?_⟩
  ·rw [hkeep _ (hr.lt hj hcj) (fun e' => e (hr.inj j id hj hk hcj hc e'))]; exact b1
  ·obtain ⟨v, c1, c2⟩ := b3 k c hkc
   exact ⟨v, c1, c2.ext hr hx⟩
theorem HRel.seg (hr : HRel E h w) {id i : Nat} (hlk : lk id = false) {ob : MObj} {ms : List MV} {vs : List Value} {w' : World} {arr : Array Value} {te : TypeId} (hk : E.K id) (hc : 0 < E.cp id) (hob : h[id]? = some ob) (hnl : E.nl id = false)
  (hi : i + ms.length ≤ ob.es.length) (hms : ∀ e ∈ ms, e.cells.length = E.sz id) (hvs : Vs E w (flat ms) vs) (h1 : w'.os = w.os ∧ w'.tape = w.tape ∧ w'.output = w.output ∧ w.heap.size ≤ w'.heap.size) (hkeep : ∀ k, k < w.heap.size → k ≠ E.ρ id → w'.heap[k]? = w.heap[k]?)
  (b1 : w.heap[E.ρ id]? = some (.cells arr te (0, 0))) (hh : w'.heap[E.ρ id]? = some (.cells (arr.toList.take ((E.bo id + i) * E.sz id) ++ vs ++ arr.toList.drop ((E.bo id + i) * E.sz id + vs.length)).toArray te (0, 0))) :
  HRel E (h.set id { ob with es := ob.es.take i ++ ms ++ ob.es.drop (i + ms.length) }) w' ∧ Ext lk E w E w' := by
 obtain ⟨es, a1, a2, a3, a4, a5⟩ := hr.obj id hk
 rw [hob] at a1
 simp only [Option.some.injEq] at a1
 subst a1
 dsimp only at hi hk ⊢
 obtain ⟨arr2, te2, c1, c2, c3⟩ := a5 hc
 rw [hnl] at c1
 replace c1 : w.heap[E.ρ id]? = some (.cells arr2 te2 (0, 0)) := c1
 rw [b1] at c1
 simp only [Option.some.injEq, Obj.cells.injEq] at c1
 obtain ⟨rfl, rfl, -⟩ := c1
 have hvl : vs.length = ms.length * E.sz id := by rw [← hvs.1, flat_len hms]
 have hbase : (E.bo id + i) * E.sz id + vs.length ≤ arr.size := by
  rw [hvl, ← Nat.add_mul, c2]; exact Nat.mul_le_mul_right _ (by omega)
 have hes : ∀ x ∈ es.take i ++ ms ++ es.drop (i + ms.length), x.cells.length = E.sz id := fun x hx => by
  rcases List.mem_append.1 hx with hx | hx
  ·rcases List.mem_append.1 hx with hx | hx
   ·exact a3 x (List.mem_of_mem_take hx)
   ·exact hms x hx
  ·exact a3 x (List.mem_of_mem_drop hx)
 refine hr.writeG hlk (es' := es.take i ++ ms ++ es.drop (i + ms.length)) hk hc hob (by simp; omega) hes h1 hkeep (by rw [hnl]; exact hh) (by rw [← c2]; simp; omega) fun k c hkc => ?_
 rw [List.getElem?_toArray]
 have hft : (flat (es.take i)).length = i * E.sz id := by rw [flat_len (fun e he => a3 e (List.mem_of_mem_take he)), List.length_take, Nat.min_eq_left (by omega)]
 have hfm : (flat ms).length = ms.length * E.sz id := flat_len hms
 rw [flat_app, flat_app] at hkc
 have hm2 : (E.bo id + i) * E.sz id = E.bo id * E.sz id + i * E.sz id := Nat.add_mul _ _ _
 have old : ∀ (j : Nat), (flat es)[j]? = some c → ∃ v, arr.toList[E.bo id * E.sz id + j]? = some v ∧ V E w c v := fun j hj => by
  obtain ⟨v, e1, e2⟩ := c3 j c hj
  exact ⟨v, by rw [Array.getElem?_toList]; exact e1, e2⟩
 by_cases k1 : k < i * E.sz id
 ·rw [List.append_assoc, List.getElem?_append_left (by omega)] at hkc
  have : (flat es)[k]? = some c := by
   rw [← List.take_append_drop i es, flat_app, List.getElem?_append_left (by omega)]; exact hkc
  obtain ⟨v, e1, e2⟩ := old k this
  refine ⟨v, ?_, e2⟩
  rw [List.append_assoc, List.getElem?_append_left (by simp; omega), List.getElem?_take, if_pos (by omega)]
  exact e1
 ·by_cases k2 : k < i * E.sz id + ms.length * E.sz id
  ·rw [List.append_assoc, List.getElem?_append_right (by omega), List.getElem?_append_left (by omega), hft] at hkc
   have hlt : k - i * E.sz id < vs.length := by omega
   refine ⟨vs[k - i * E.sz id], ?_, hvs.2 _ c _ hkc (List.getElem?_eq_getElem hlt)⟩
   rw [List.append_assoc, List.getElem?_append_right (by simp; omega), List.getElem?_append_left (by simp; omega), List.length_take, Array.length_toList, Nat.min_eq_left (by omega), ← List.getElem?_eq_getElem hlt]
   congr 1; omega
  ·rw [List.getElem?_append_right (by simp; omega)] at hkc
   have : (flat es)[k]? = some c := by
    rw [← List.take_append_drop (i + ms.length) es, flat_app, List.getElem?_append_right (by rw [flat_len (fun e he => a3 e (List.mem_of_mem_take he))]; simp; rw [Nat.min_eq_left (by omega), Nat.add_mul]; omega), ← hkc]
    congr 1
    rw [flat_len (fun e he => a3 e (List.mem_of_mem_take he)), List.length_append, hft, hfm, List.length_take, Nat.min_eq_left (by omega), Nat.add_mul]
   obtain ⟨v, e1, e2⟩ := old k this
   refine ⟨v, ?_, e2⟩
   rw [List.getElem?_append_right (by simp; omega), List.getElem?_drop, ← e1]
   congr 1
   simp only [List.length_append, List.length_take, Array.length_toList]
   omega
theorem eff_cpy {t u e : TypeId} {c : Call} {x y : Operand} {x' y' : MX} {v : MV} {h' : MHeap} {O : Oracle} (ho : o.op = .call c) (hc : c.callee = .builtin .copy) (ha : c.args = #[x, y]) (hat : c.argTypes = #[t, u])
  (ht : P.underlying t = some (.slice e)) (hz : tsz P e = some 1) (hx : cX x = some x') (hy : cX y = some y') (hs : Slots E w s a) (hr : HRel E h w) (he : evO lk O s h (.cpy x' y') = some (v, h')) : Eff lk P o a w E v h' := by
 have h1 := hs.x hx
 have h2 := hs.x hy
 simp only [evO] at he
 split at he
 case h_2 => cases he
 rename_i id i n g xs hb hxs
 split at he
 case h_2 => cases he
 rename_i ob hob
 split at he
 case isFalse => cases he
 rename_i hcond
 obtain ⟨hog, hn0, hle, hsz, hne, hok, hlk⟩ := hcond
 simp only [Option.some.injEq, Prod.mk.injEq] at he
 obtain ⟨rfl, rfl⟩ := he
 rw [hb] at h1
 generalize hxv : a.eval x = xv at h1
 cases h1 with
 | arr _ _ _ _ A cap hk hg hd =>
  obtain ⟨es, a1, a2, a3, a4, a5⟩ := hr.obj id hk
  rw [hob] at a1
  simp only [Option.some.injEq] at a1
  subst a1
  dsimp only at hog hle hsz ⊢
  obtain ⟨d1, d2, d3, d4, d5⟩ := hd hog
  have hcp : 0 < E.cp id := by omega
  obtain ⟨arr, te, b1, b2, b3⟩ := a5 hcp
  have hnl : E.nl id = false := by
   cases hnl : E.nl id
   ·rfl
   ·have := (d3 hnl).2.1; omega
  rw [hnl] at b1
  replace b1 : w.heap[E.ρ id]? = some (.cells arr te (0, 0)) := b1
  obtain ⟨rfl, d6⟩ := d5 (by omega)
  have hone : ∀ m ∈ xs, m.cells.length = 1 ∧ ∀ c ∈ m.cells, c.one = true := fun m hm => sOk_spec (List.all_eq_true.1 hok m hm)
  obtain ⟨A', cap', vs, hyv, hvs, hA⟩ := V.elems hr h2 hxs (sz := 1) (fun m hm => (hone m hm).1)
  obtain ⟨b', off', rfl, hcell⟩ := hA (List.length_pos_iff.2 hne)
  have hvl : vs.length = xs.length := by rw [← hvs.1, flat_len (fun m hm => (hone m hm).1)]; omega
  have hvt : Vs E w (flat (xs.take n)) (vs.take n) := by
   have hft : flat (xs.take n) = (flat xs).take n := by
    have hl : (flat (xs.take n)).length = (xs.take n).length := by rw [flat_len (fun m hm => (hone m (List.mem_of_mem_take hm)).1)]; omega
    have key : flat xs = flat (xs.take n) ++ flat (xs.drop n) := by rw [← flat_app, List.take_append_drop]
    have t1 : (flat (xs.take n)).take n = flat (xs.take n) := List.take_of_length_le (by rw [hl, List.length_take]; exact Nat.min_le_left _ _)
    have t2 : (flat (xs.drop n)).take (n - (flat (xs.take n)).length) = [] := by
     rw [hl, List.length_take]
     by_cases hn : n ≤ xs.length
     ·rw [Nat.min_eq_left hn]; simp
     ·rw [List.drop_eq_nil_of_le (by omega)]; simp [flat]
    rw [key, List.take_append, t1, t2, List.append_nil]
   rw [hft]
   refine ⟨by rw [List.length_take, List.length_take, hvs.1], fun j c v hj hv => ?_⟩
   rw [List.getElem?_take] at hj hv
   split at hj
   ·rename_i hlt
    rw [if_pos hlt] at hv
    exact hvs.2 j c v hj hv
   ·cases hj
  have hv1 : ∀ v ∈ vs.take n, v.oneCell' = true := fun v hv => by
   obtain ⟨j, hj⟩ := List.getElem?_of_mem hv
   have hjl := (List.getElem?_eq_some_iff.1 hj).1
   have hc : (flat (xs.take n))[j]? = some ((flat (xs.take n))[j]'(hvt.1 ▸ hjl)) := by simp
   refine (hvt.2 j _ v hc hj).one ?_
   obtain ⟨i2, j2, e2, -, -, he2, hcj⟩ := (flat_iff (fun m hm => (hone m (List.mem_of_mem_take hm)).1)).1 hc
   exact (hone e2 (List.mem_of_mem_take (List.mem_of_getElem? he2))).2 _ (List.mem_of_getElem? hcj)
  have hcl : (vs.take n).length = Nat.min xs.length n := by rw [List.length_take, hvl, Nat.min_comm]
  have hbase : (E.bo id + i) * E.sz id + (vs.take n).length ≤ arr.size := by
   have h4 : (E.bo id + i) * E.sz id + n * E.sz id ≤ arr.size := by rw [b2, ← Nat.add_mul]; exact Nat.mul_le_mul_right _ (by omega)
   rw [hsz, Nat.mul_one, List.length_take] at *
   omega
  have hrun := run_copy_row (P := P) w t u o.type e (E.ρ id) ((E.bo id + i) * E.sz id) n cap ⟨b', off', none⟩ xs.length cap' arr te (vs.take n) ht (by unfold tsz at hz; exact hz) b1 hcl
   (fun j v hj => by
    rw [List.getElem?_take] at hj
    split at hj
    ·have := hcell j v hj
     rw [Addr.add_none]; exact this
    ·cases hj) hbase hv1
  have hseg := hr.seg (i := i) hlk (ms := xs.take n) (vs := vs.take n) (w' := w.setRow (E.ρ id) (arr.toList.take ((E.bo id + i) * E.sz id) ++ vs.take n ++ arr.toList.drop ((E.bo id + i) * E.sz id + (vs.take n).length)).toArray) hk hcp hob hnl (by simp; omega) (fun m hm => by rw [hsz]; exact (hone m (List.mem_of_mem_take hm)).1) hvt ⟨rfl, rfl, rfl, by simp [World.setRow]⟩ (fun k _ hne => setRow_other w _ k _ hne) b1 (setRow_heap w _ arr _ te _ b1)
  refine ⟨goInt (vs.take n).length, _, E, .inl (by simp [execOp, ho, resolve, hc, ha, hat, hxv, hyv, invoke, builtin, hrun]), ?_, hseg.1, hseg.2⟩
  have : goInt (vs.take n).length = .int .i64 ((xs.take n).length : Int) := by rw [List.length_take, List.length_take, hvl]; rfl
  rw [this]
  exact .lit _
end
def rowsV (xs : List (List Int)) : List Value := xs.flatMap fun x => x.map (Value.int .i64)
def SortsOK (P : Program) : Prop := ∀ f cf k, sortKind f cf = some k →
 (∀ (w : World) (p : Option Addr) (cap : Nat), Calls P f #[.slice p 0 cap, .func (.func cf) #[] #[]] w fun e w' => e = .returned (.tuple #[]) ∧ w' = w) ∧
 ∀ (w : World) (b off cap : Nat) (xs : List (List Int)) (arr : Array Value) (te : TypeId), 0 < xs.length → xs.length ≤ 4000000 → (∀ x ∈ xs, okRow k x = true) → ordS k (sortS k xs) = true → w.heap[b]? = some (.cells arr te (0, 0)) → off + (rowsV xs).length ≤ arr.size →
  (∀ (j : Nat) v, (rowsV xs)[j]? = some v → arr[off + j]? = some v) →
  Calls P f #[.slice (some ⟨b, off, none⟩) xs.length cap, .func (.func cf) #[] #[]] w fun e w' => e = .returned (.tuple #[]) ∧ (w'.os = w.os ∧ w'.tape = w.tape ∧ w'.output = w.output ∧ w.heap.size ≤ w'.heap.size) ∧
   (∀ k, k < w.heap.size → k ≠ b → w'.heap[k]? = w.heap[k]?) ∧ w'.heap[b]? = some (.cells (arr.toList.take off ++ rowsV (sortS k xs) ++ arr.toList.drop (off + (rowsV xs).length)).toArray te (0, 0))
theorem i64s_spec : ∀ {ms : List MV} {x : List Int}, i64s ms = some x → ms = x.map fun z => .lit (.int .i64 z)
 | [], x, h => by simp [i64s] at h; subst h; rfl
 | m :: ms, x, h => by
  unfold i64s at h
  split at h
  ·rename_i e; cases e
  ·rename_i n ms' e
   cases e
   rw [Option.map_eq_some_iff] at h
   obtain ⟨y, h1, rfl⟩ := h
   rw [i64s_spec h1]; rfl
  ·cases h
theorem rowsOf_spec : ∀ {es : List MV} {xs : List (List Int)}, rowsOf es = some xs → es = xs.map pairM
 | [], xs, h => by simp [rowsOf] at h; subst h; rfl
 | m :: es, xs, h => by
  unfold rowsOf at h
  split at h
  ·rename_i x ys h1 h2
   cases h
   rw [rowsOf_spec h2]
   unfold rowOf at h1
   split at h1
   ·rename_i ms
    rw [i64s_spec h1]; rfl
   ·cases h1
  ·cases h
theorem flat_pairs (xs : List (List Int)) : flat (xs.map pairM) = (rowsV xs).map .lit := by
 induction xs with
 | nil => rfl
 | cons x xs ih =>
  rw [List.map_cons, flat_cons, ih]
  simp [rowsV, pairM, MV.cells]
theorem insS_mem {k : Nat} {x y : List Int} : ∀ {ys : List (List Int)}, y ∈ insS k x ys → y = x ∨ y ∈ ys
 | [], h => by simp [insS] at h; exact .inl h
 | z :: ys, h => by
  unfold insS at h
  split at h
  ·simpa using h
  ·rcases List.mem_cons.1 h with h | h
   ·exact .inr (by simp [h])
   ·rcases insS_mem h with h | h
    ·exact .inl h
    ·exact .inr (by simp [h])
theorem sortS_mem {k : Nat} {y : List Int} : ∀ {ys : List (List Int)}, y ∈ sortS k ys → y ∈ ys
 | [], h => by simp [sortS] at h
 | z :: ys, h => by
  rcases insS_mem h with h | h
  ·simp [h]
  ·exact List.mem_cons_of_mem _ (sortS_mem h)
theorem insS_len {k : Nat} {x : List Int} : ∀ (ys : List (List Int)), (insS k x ys).length = ys.length + 1
 | [] => rfl
 | z :: ys => by
  unfold insS
  split
  ·rfl
  ·simp [insS_len ys]
theorem sortS_len {k : Nat} : ∀ (ys : List (List Int)), (sortS k ys).length = ys.length
 | [] => rfl
 | z :: ys => by rw [sortS, insS_len, sortS_len ys]; rfl
theorem rowsV_len : ∀ {xs : List (List Int)}, (∀ x ∈ xs, x.length = 2) → (rowsV xs).length = xs.length * 2
 | [], _ => rfl
 | x :: xs, h => by
  have h1 := rowsV_len (xs := xs) fun y hy => h y (by simp [hy])
  have h2 := h x (by simp)
  simp only [rowsV, List.flatMap_cons, List.length_append, List.length_map, List.length_cons] at h1 ⊢
  rw [h1, h2]; omega
def SoundC (P : Program) (O : Oracle) : Prop := ∀ f args h m h', O f args h = some (m, h') → hasBody P f = true ∧ ∀ E w vs, HRel E h w → Vs E w args vs →
 Calls P f vs.toArray w fun e w' => ∃ v E', e = .returned v ∧ V E' w' m v ∧ HRel E' h' w' ∧ Ext (fun _ => true) E w E' w'
def SoundO (P : Program) (O : Oracle) : Prop := SoundC P O ∧ SortsOK P
theorem hasBody_run {P : Program} {f : Nat} (hb : hasBody P f = true) (args : Array Value) (w : World) : (callFunc f args).run P w = .ok (.enter f args) w := by
 unfold hasBody at hb
 split at hb
 ·rename_i fn hf
  simp only [Bool.and_eq_true, bne_iff_ne] at hb
  obtain ⟨h1, h2⟩ := hb
  cases hbd : fn.body with
  | none => rw [hbd] at h1; cases h1
  | some c => simp [callFunc, hf, h2, hbd]
 ·cases hb
def OpOK (lk : Nat → Bool) (P : Program) (o : Oper) (a : Act) (w : World) (E : Env) (m : MV) (h' : MHeap) : Prop :=
 ∀ (r : Option Nat) (n : Nat) (K : Act → World → Prop) (Q : Exit → Act → World → Prop), (∀ v w' E', V E' w' m v → HRel E' h' w' → Ext lk E w E' w' → K (a.put o.dst v) w') → o.wpIn (Fw r) n P a w K Q
theorem Eff.ok {lk : Nat → Bool} {P : Program} {o : Oper} {a : Act} {w : World} {E : Env} {m : MV} {h' : MHeap} (hnd : ∀ c, o.op ≠ .defer c) (h : Eff lk P o a w E m h') : OpOK lk P o a w E m h' := by
 intro r n K Q hK
 obtain ⟨v, w', E', hrun, h1, h2, h3⟩ := h
 rcases hrun with hrun | ⟨hrun, rfl⟩
 ·exact wpIn_val hnd hrun (hK v w' E' h1 h2 h3)
 ·exact wpIn_skp hnd hrun (hK undef w' E' h1 h2 h3)
theorem ok_call {lk : Nat → Bool} {P : Program} {O : Oracle} (hO : SoundO P O) {o : Oper} {a : Act} {w : World} {E : Env} {m : MV} {h h' : MHeap} {f : Nat} {args : List MV} {vs : List Value} (hnd : ∀ c, o.op ≠ .defer c) (hr : HRel E h w) (hv : Vs E w args vs)
  (hrun : ∀ w', (execOp a.eval o).run P w' = (callFunc f vs.toArray).run P w') (he : O f args h = some (m, h')) : OpOK lk P o a w E m h' := by
 intro r n K Q hK
 obtain ⟨hb, hcall⟩ := hO.1 f args h m h' he
 exact wpIn_ent hnd ((hrun w).trans (hasBody_run hb _ w)) ((hcall E w vs hr hv).mono fun e w'' ⟨v, E', e1, e2, e3, e4⟩ => ⟨v, e1, hK v w'' E' e2 e3 (e4.mono fun _ _ _ => rfl)⟩)
theorem ok_srt {P : Program} {lk : Nat → Bool} {O : Oracle} {w : World} {E : Env} {o : Oper} {a : Act} {s : List MV} {h h' : MHeap} {m : MV} (hS : SortsOK P) {f cf : Nat} {c : Call} {x : Operand} {x' : MX} (ho : o.op = .call c) (hcal : c.callee = .value (.func f)) (hargs : c.args.toList = [x, .func cf]) (hx : cX x = some x') (hbd : hasBody P f = true)
  (hnd : ∀ c, o.op ≠ .defer c) (hs : Slots E w s a) (hr : HRel E h w) (he : evO lk O s h (.srt f cf x') = some (m, h')) : OpOK lk P o a w E m h' := by
 intro r n0 K Q hK
 have h1 := hs.x hx
 simp only [evO] at he
 split at he
 case h_2 => cases he
 rename_i id i n g hb
 split at he
 case h_2 => cases he
 rename_i ob hob
 split at he
 case isFalse => cases he
 rename_i hcond
 obtain ⟨hog, hle, hn4, hlk⟩ := hcond
 split at he
 case h_2 => cases he
 rename_i k hk
 split at he
 case h_2 => cases he
 rename_i es' hes
 simp only [Option.some.injEq, Prod.mk.injEq] at he
 obtain ⟨rfl, rfl⟩ := he
 obtain ⟨hS0, hS1⟩ := hS f cf k hk
 rw [hb] at h1
 generalize hxv : a.eval x = xv at h1
 have e1 : c.args.map a.eval = #[xv, .func (.func cf) #[] #[]] := by
  apply Array.ext'
  rw [Array.toList_map, hargs]
  simp only [List.map_cons, List.map_nil, hxv]
  rfl
 have hrun : ∀ w', (execOp a.eval o).run P w' = (callFunc f #[xv, .func (.func cf) #[] #[]]).run P w' := fun w' => by
  simp [execOp, ho, resolve, hcal, Act.eval, Deferred.ofValue, invoke, e1]
 cases h1 with
 | arr _ _ _ _ A cap hkk hg hd =>
  obtain ⟨es, a1, a2, a3, a4, a5⟩ := hr.obj id hkk
  rw [hob] at a1
  simp only [Option.some.injEq] at a1
  subst a1
  dsimp only at hog hle hes hK ⊢
  obtain ⟨d1, d2, d3, d4, d5⟩ := hd hog
  unfold srtM at hes
  split at hes
  case h_2 => cases hes
  rename_i xs hxs
  split at hes
  case isFalse => cases hes
  rename_i hok
  cases hes
  rw [Bool.and_eq_true] at hok
  obtain ⟨hok, hord⟩ := hok
  have hok' : ∀ x ∈ xs, okRow k x = true := List.all_eq_true.1 hok
  have h2 : ∀ x ∈ xs, x.length = 2 := fun x hx => by
   have := hok' x hx
   simp only [okRow, Bool.and_eq_true, beq_iff_eq] at this
   exact this.1.1
  have hxe := rowsOf_spec hxs
  have hxl : xs.length = n := by
   have := congrArg List.length hxe
   simp only [List.length_take, List.length_drop, List.length_map] at this
   omega
  by_cases h0 : n = 0
  ·subst h0
   have hx0 : xs = [] := List.length_eq_zero_iff.1 hxl
   subst hx0
   have hset : h.set id { g := E.gn id, nl := E.nl id, sz := E.sz id, es := es.take i ++ List.map pairM (sortS k []) ++ es.drop (i + 0) } = h := by
    rw [show List.take i es ++ List.map pairM (sortS k []) ++ List.drop (i + 0) es = es by simp [sortS]]
    obtain ⟨hlt, he⟩ := List.getElem?_eq_some_iff.1 hob
    rw [← he]; exact List.set_getElem_self hlt
   rw [hset] at hK
   refine wpIn_ent hnd ((hrun w).trans (hasBody_run hbd _ w)) ((hS0 w A cap).mono ?_)
   rintro e w'' ⟨rfl, rfl⟩
   exact ⟨_, rfl, hK _ _ E (.lit _) hr (Ext.refl _ _ _)⟩
  ·have hcp : 0 < E.cp id := by omega
   obtain ⟨arr, te, b1, b2, b3⟩ := a5 hcp
   have hnl : E.nl id = false := by
    cases hnl : E.nl id
    ·rfl
    ·have := (d3 hnl).2.1; omega
   rw [hnl] at b1
   replace b1 : w.heap[E.ρ id]? = some (.cells arr te (0, 0)) := b1
   obtain ⟨rfl, d6⟩ := d5 (by omega)
   have hsz : E.sz id = 2 := by
    have hi : i < es.length := by omega
    have h3 : xs[0]? = some (xs[0]'(by omega)) := List.getElem?_eq_getElem (by omega)
    have h4 : (es.drop i |>.take n)[0]? = some (pairM (xs[0]'(by omega))) := by rw [hxe, List.getElem?_map, h3]; rfl
    have h5 := a3 _ (List.mem_of_mem_drop (List.mem_of_mem_take (List.mem_of_getElem? h4)))
    rw [← h5]
    simp only [pairM, MV.cells, List.length_map]
    exact h2 _ (List.getElem_mem _)
   have hrl := rowsV_len h2
   have hms : ∀ e ∈ (sortS k xs).map pairM, e.cells.length = E.sz id := fun e he => by
    obtain ⟨y, hy, rfl⟩ := List.mem_map.1 he
    simp only [pairM, MV.cells, List.length_map, hsz]
    exact h2 _ (sortS_mem hy)
   have hrs : (rowsV (sortS k xs)).length = (rowsV xs).length := by rw [hrl, rowsV_len (fun x hx => h2 x (sortS_mem hx)), sortS_len]
   have hvs : Vs E w (flat ((sortS k xs).map pairM)) (rowsV (sortS k xs)) := by
    rw [flat_pairs]
    refine ⟨by simp, fun j c v hj hv => ?_⟩
    rw [List.getElem?_map, hv] at hj
    cases hj; exact .lit _
   have hat : ∀ (j : Nat) v, (rowsV xs)[j]? = some v → arr[(E.bo id + i) * E.sz id + j]? = some v := fun j v hj => by
    have hjl := (List.getElem?_eq_some_iff.1 hj).1
    have h3 : (flat ((es.drop i).take n))[j]? = some (.lit v) := by rw [hxe, flat_pairs, List.getElem?_map, hj]; rfl
    have h4 : (flat es)[i * E.sz id + j]? = some (.lit v) := by
     rw [← List.take_append_drop i es, flat_app, List.getElem?_append_right (by rw [flat_len (fun e he => a3 e (List.mem_of_mem_take he))]; simp; rw [Nat.min_eq_left (by omega)]; omega), flat_len (fun e he => a3 e (List.mem_of_mem_take he)), List.length_take, Nat.min_eq_left (by omega), Nat.add_sub_cancel_left]
     rw [← List.take_append_drop n (es.drop i), flat_app, List.getElem?_append_left (by rw [flat_len (fun e he => a3 e (List.mem_of_mem_drop (List.mem_of_mem_take he))), List.length_take, List.length_drop, Nat.min_eq_left (by omega), hsz]; omega)]
     exact h3
    obtain ⟨u, c1, c2⟩ := b3 _ _ h4
    have hu := c2.lit_eq
    subst hu
    rw [← c1]
    congr 1
    rw [Nat.add_mul]; omega
   have hfit : (E.bo id + i) * E.sz id + (rowsV xs).length ≤ arr.size := by
    rw [b2, hrl, hxl, hsz, ← Nat.add_mul]; exact Nat.mul_le_mul_right _ (by omega)
   have hcall := hS1 w (E.ρ id) ((E.bo id + i) * E.sz id) cap xs arr te (by omega) (by omega) hok' hord b1 hfit hat
   rw [hxl] at hcall
   refine wpIn_ent hnd ((hrun w).trans (hasBody_run hbd _ w)) (hcall.mono ?_)
   rintro e w'' ⟨rfl, q1, q2, q3⟩
   rw [← hrs] at q3
   have hseg := hr.seg (i := i) hlk (ms := (sortS k xs).map pairM) hkk hcp hob hnl (by simp [sortS_len]; omega) hms hvs q1 q2 b1 q3
   rw [show ((sortS k xs).map pairM).length = n by simp [sortS_len, hxl]] at hseg
   exact ⟨_, rfl, hK _ _ E (.lit _) hseg.1 hseg.2⟩
theorem chunk_len (sz : Nat) : ∀ (n : Nat) (cs : List MV), (chunkM sz n cs).length = n
 | 0, _ => rfl
 | n + 1, cs => by rw [chunkM, List.length_cons, chunk_len sz n]
theorem chunk_cells {sz : Nat} : ∀ (n : Nat) (cs : List MV), cs.length = n * sz → ∀ e ∈ chunkM sz n cs, e.cells.length = sz
 | 0, _, _, e, he => by cases he
 | n + 1, cs, hl, e, he => by
  rw [Nat.add_mul, Nat.one_mul] at hl
  rcases List.mem_cons.1 he with rfl | he
  ·show (cs.take sz).length = sz
   rw [List.length_take]; omega
  ·have hd : (cs.drop sz).length = n * sz := by rw [List.length_drop]; omega
   exact chunk_cells n (cs.drop sz) hd e he
theorem chunk_flat {sz : Nat} : ∀ (n : Nat) (cs : List MV), cs.length = n * sz → flat (chunkM sz n cs) = cs
 | 0, cs, hl => by
  rw [Nat.zero_mul] at hl
  rw [List.eq_nil_of_length_eq_zero hl]; rfl
 | n + 1, cs, hl => by
  rw [Nat.add_mul, Nat.one_mul] at hl
  have hd : (cs.drop sz).length = n * sz := by rw [List.length_drop]; omega
  have ih := chunk_flat n (cs.drop sz) hd
  show flat (.agg (cs.take sz) :: chunkM sz n (cs.drop sz)) = cs
  have : flat (.agg (cs.take sz) :: chunkM sz n (cs.drop sz)) = cs.take sz ++ flat (chunkM sz n (cs.drop sz)) := by simp [flat, MV.cells]
  rw [this, ih, List.take_append_drop]
theorem eff_sla {lk : Nat → Bool} {P : Program} {o : Oper} {a : Act} {w : World} {E : Env} {s : List MV} {h : MHeap} {t e : TypeId} {n sz : Nat} {x : Operand} {x' : MX} {v : MV} {h' : MHeap} {O : Oracle} (ho : o.op = .slice t x none none none) (ht : P.underlying t = some (.array n e)) (hn : tsz P e = some sz) (hx : cX x = some x')
  (hs : Slots E w s a) (hr : HRel E h w) (he : evO lk O s h (.sla sz n x') = some (v, h')) : Eff lk P o a w E v h' := by
 have h1 := hs.x hx
 obtain ⟨inf, hinf, hsz⟩ : ∃ inf, P.info? e = some inf ∧ inf.size = sz := by unfold tsz at hn; rwa [Option.map_eq_some_iff] at hn
 simp only [evO] at he
 split at he
 case h_2 => cases he
 rename_i id g hb
 split at he
 case h_2 => cases he
 rename_i ob hob
 split at he
 case h_2 => cases he
 rename_i e0 hoe
 split at he
 case isFalse => cases he
 rename_i hc
 obtain ⟨c1, c2, c3, c4, c5⟩ := hc
 simp only [Option.some.injEq, Prod.mk.injEq] at he
 obtain ⟨rfl, rfl⟩ := he
 rw [hb] at h1
 generalize hxv : a.eval x = xv at h1
 cases h1 with
 | ptr _ _ _ _ b o' hk hg hd =>
  obtain ⟨es, a1, a2, a3, a4, a5⟩ := hr.obj id hk
  rw [hob] at a1
  simp only [Option.some.injEq] at a1
  subst a1
  dsimp only at hoe c1
  subst hoe
  obtain ⟨rfl, d2, d3, d4⟩ := hd c1
  simp only [List.length_cons, List.length_nil] at a4
  have hcp : 0 < E.cp id := by omega
  obtain ⟨arr, tt, b1, b2, b3⟩ := a5 hcp
  have hes := a3 e0 List.mem_cons_self
  have hszE : E.sz id = n * sz := by rw [← hes, c5]
  have hlen := chunk_len sz n e0.cells
  have honly : OnlyObj lk E w w id := ⟨rfl, rfl, rfl, Nat.le_refl _, fun _ _ _ => rfl⟩
  have hgk : E.K id → E.gn id < g + 1 ∧ lk id = false := fun _ => ⟨by omega, c2⟩
  have hidl := hr.klt id hk
  have hcells := chunk_cells n e0.cells c5
  have hflat := chunk_flat n e0.cells c5
  generalize chunkM sz n e0.cells = ch at hlen hcells hflat ⊢
  have hx2 : Ext lk E w (E.put id (E.ρ id) (E.bo id * n) (E.cp id * n) sz (g + 1) ch.length false) w := Ext.put honly hgk (fun _ => .inr ⟨hk, hcp, rfl⟩) (.inl hk)
  obtain ⟨r1, r2⟩ := hr.put (h' := h.set id ⟨g + 1, false, sz, ch⟩) (b := E.ρ id) (bo := E.bo id * n) (cp := E.cp id * n) (sz := sz) (g := g + 1) (nl := false) (es := ch) honly hgk (fun _ => .inr ⟨hk, hcp, rfl⟩)
   (fun j hj _ => List.getElem?_set_ne (Ne.symm hj)) (List.getElem?_set_self hidl) hcells
   (by rw [hlen]; have := Nat.mul_le_mul_right n a4; rw [Nat.add_mul] at this; omega)
   (fun _ => ⟨arr, tt, by rw [d4] at b1; exact b1, by rw [b2, hszE, Nat.mul_assoc], fun k c hkc => by
    rw [hflat] at hkc
    obtain ⟨v, q1, q2⟩ := b3 k c (by simpa [flat] using hkc)
    rw [hszE] at q1
    exact ⟨v, by rw [Nat.mul_assoc]; exact q1, q2.ext hr hx2⟩⟩)
   (by simp) (.inl hk)
  refine ⟨.slice (some ⟨E.ρ id, o', none⟩) n n, w, _, .inl ?_, ?_, r1, r2⟩
  ·simp [execOp, ho, hxv, Instr.sliceAt, run_underlying ht, Instr.sureAddr, Instr.sliceBounds, sizeOf, typeInfo, hinf, Addr.add, show ¬ n = 0 by omega]
  ·refine .arr id 0 n (g + 1) _ n (.inr rfl) (by simp [Env.put]) fun _ => ?_
   simp only [Env.put, if_true, hlen]
   refine ⟨by omega, Nat.le_refl _, fun h => by simp at h, fun _ => rfl, fun _ => ⟨?_, ?_⟩⟩
   ·simp only [Option.some.injEq, Addr.mk.injEq, and_true, true_and]
    rw [d2, hszE]; simp [Nat.mul_assoc]
   ·have := Nat.mul_le_mul_right n a4
    rw [Nat.add_mul] at this
    omega
def MO.isP : MO → Bool
 | .nil0 _ | .new _ | .box _ _ | .bsl _ _ _ _ | .mks _ _ | .call _ _ | .callv _ _ | .st _ _ _ | .app _ _ _ | .bad | .mkm | .mup _ _ _ _ | .s2b _ | .cpy _ _ | .srt _ _ _ | .sla _ _ _ => false
 | _ => true
def MO.isR : MO → Bool
 | .ld _ _ | .eqn _ _ | .slc _ _ _ _ | .ia _ _ _ => true
 | _ => false
def MO.isM : MO → Bool
 | .st _ _ _ | .app _ _ _ | .bad | .mup _ _ _ _ | .cpy _ _ | .srt _ _ _ | .sla _ _ _ => true
 | _ => false
theorem evO_ok {P : Program} {lk : Nat → Bool} {O : Oracle} (hO : SoundO P O) {o : Oper} {mo : MO} {a : Act} {w : World} {E : Env} {s : List MV} {h h' : MHeap} {m : MV} (hc : compO P o = some mo) (hs : Slots E w s a) (hr : HRel E h w) (he : evO lk O s h mo = some (m, h')) : OpOK lk P o a w E m h' ∧ (mo.isP = true → h' = h ∧ Pure P o a w E m) := by
 have hnd : ∀ c, o.op ≠ .defer c := fun c e => by simp [compO, e] at hc
 have pe : ∀ {x : MV}, h' = h ∧ Pure P o a w E x → OpOK lk P o a w E x h' ∧ (mo.isP = true → h' = h ∧ Pure P o a w E x) := fun hp => ⟨by rw [hp.1]; exact (hp.2.eff hr).ok hnd, fun _ => hp⟩
 obtain ⟨dst, op, type, pos, after, guard⟩ := o
 cases op <;> simp only [compO] at hc <;> try (cases hc; done)
 case move x =>
  rw [Option.map_eq_some_iff] at hc
  obtain ⟨x', hx, rfl⟩ := hc
  simp only [evO, Option.some.injEq, Prod.mk.injEq] at he
  obtain ⟨rfl, rfl⟩ := he
  exact pe ⟨rfl, pure_mv (.inl rfl) hx hs⟩
 case assign x =>
  split at hc
  ·rename_i hn
   obtain ⟨e, he1, hc⟩ := Option.bind_eq_some_iff.1 hc
   rw [Option.map_eq_some_iff] at hc
   obtain ⟨sz, hsz, rfl⟩ := hc
   simp only [evO, Option.some.injEq, Prod.mk.injEq] at he
   obtain ⟨rfl, rfl⟩ := he
   exact ⟨(eff_nil0 rfl hn hr).ok hnd, fun hp => by simp [MO.isP] at hp⟩
  ·rw [Option.map_eq_some_iff] at hc
   obtain ⟨x', hx, rfl⟩ := hc
   simp only [evO, Option.some.injEq, Prod.mk.injEq] at he
   obtain ⟨rfl, rfl⟩ := he
   exact pe ⟨rfl, pure_mv (.inr rfl) hx hs⟩
 case pick c x y =>
  simp only [Option.bind_eq_bind, Option.bind_eq_some_iff, Option.some.injEq] at hc
  obtain ⟨c', hc', x', hx', y', hy', rfl⟩ := hc
  simp only [evO] at he
  split at he
  case h_2 => cases he
  rename_i t ht
  simp only [Option.some.injEq, Prod.mk.injEq] at he
  obtain ⟨rfl, rfl⟩ := he
  exact pe ⟨rfl, pure_pick rfl hc' hx' hy' hs ht⟩
 case alloc t =>
  simp only [Option.bind_eq_bind, Option.bind_eq_some_iff] at hc
  obtain ⟨z, hz, hc⟩ := hc
  split at hc
  case isFalse => cases hc
  rename_i hok
  cases hc
  simp only [evO, Option.some.injEq, Prod.mk.injEq] at he
  obtain ⟨rfl, rfl⟩ := he
  exact ⟨(eff_new rfl hz hok hr).ok hnd, fun hp => by simp [MO.isP] at hp⟩
 case box t x =>
  simp only [Option.bind_eq_bind, Option.bind_eq_some_iff, Option.some.injEq] at hc
  obtain ⟨sz, hsz, x', hx', rfl⟩ := hc
  exact ⟨(eff_box rfl hx' hs hr he).ok hnd, fun hp => by simp [MO.isP] at hp⟩
 case build t parts =>
  simp only [Option.bind_eq_bind, Option.bind_eq_some_iff] at hc
  obtain ⟨pl, hpl, z, hz, hc⟩ := hc
  split at hc
  case h_2 => cases hc
  rename_i zs
  simp only [Option.bind_eq_some_iff, Option.some.injEq] at hc
  obtain ⟨parts', hp, rfl⟩ := hc
  refine pe (eff_build rfl hpl hz ?_ hs he)
  exact hp
 case buildSlice t len parts =>
  simp only [Option.bind_eq_bind, Option.bind_eq_some_iff] at hc
  obtain ⟨e, he1, sz, hsz, z, hz, hc⟩ := hc
  split at hc
  case isFalse => cases hc
  rename_i hcond
  simp only [Option.bind_eq_some_iff, Option.some.injEq] at hc
  obtain ⟨parts', hp, rfl⟩ := hc
  exact ⟨(eff_bsl rfl he1 hsz hz hcond.1 hcond.2.1 hcond.2.2.1 hcond.2.2.2 hp hs hr he).ok hnd, fun hp => by simp [MO.isP] at hp⟩
 case load t x =>
  simp only [Option.bind_eq_bind, Option.bind_eq_some_iff, Option.some.injEq] at hc
  obtain ⟨ag, hag, x', hx', rfl⟩ := hc
  exact pe (pure_ld rfl hag hx' hs hr he)
 case makeMap t r =>
  cases r with
  | some _ => cases hc
  | none =>
   simp only at hc
   split at hc
   case h_2 => cases hc
   rename_i kt et hu
   simp only [Option.some.injEq] at hc
   subst hc
   simp only [evO, Option.some.injEq, Prod.mk.injEq] at he
   obtain ⟨rfl, rfl⟩ := he
   exact ⟨(eff_mkm rfl hu hr).ok hnd, fun hp => by simp [MO.isP] at hp⟩
 case entry x =>
  rw [Option.map_eq_some_iff] at hc
  obtain ⟨x', hx', rfl⟩ := hc
  exact pe (pure_ent rfl hx' hs he)
 case mapUpdate t m k x =>
  split at hc
  case h_2 => cases hc
  rename_i kt et hu
  split at hc
  case h_2 => cases hc
  rename_i n hk
  simp only [Option.bind_eq_bind, Option.bind_eq_some_iff, Option.some.injEq] at hc
  obtain ⟨m', hm', k', hk', x', hx', rfl⟩ := hc
  exact ⟨(eff_mup (.inl rfl) hu hk hm' hk' hx' hs hr he).ok hnd, fun hp => by simp [MO.isP] at hp⟩
 case insert t m k x =>
  split at hc
  case h_2 => cases hc
  rename_i kt et hu
  split at hc
  case h_2 => cases hc
  rename_i n hk
  simp only [Option.bind_eq_bind, Option.bind_eq_some_iff, Option.some.injEq] at hc
  obtain ⟨m', hm', k', hk', x', hx', rfl⟩ := hc
  exact ⟨(eff_mup (.inr rfl) hu hk hm' hk' hx' hs hr he).ok hnd, fun hp => by simp [MO.isP] at hp⟩
 case store t x y =>
  simp only [Option.bind_eq_bind, Option.bind_eq_some_iff, Option.some.injEq] at hc
  obtain ⟨sz, hsz, x', hx', y', hy', rfl⟩ := hc
  exact ⟨(eff_st rfl hsz hx' hy' hs hr he).ok hnd, fun hp => by simp [MO.isP] at hp⟩
 case nilCheck x =>
  rw [Option.map_eq_some_iff] at hc
  obtain ⟨x', hx, rfl⟩ := hc
  simp only [evO] at he
  split at he <;> simp only [Option.some.injEq, Prod.mk.injEq, reduceCtorEq] at he
  ·rename_i id i off g hb
   obtain ⟨rfl, rfl⟩ := he
   exact pe ⟨rfl, pure_nilck rfl hx hs hb (.inl ⟨_, _, _, _, rfl⟩)⟩
  ·rename_i e off hb
   obtain ⟨rfl, rfl⟩ := he
   exact pe ⟨rfl, pure_nilck rfl hx hs hb (.inr (.inl ⟨_, _, rfl⟩))⟩
  ·rename_i f cs hb
   obtain ⟨rfl, rfl⟩ := he
   exact pe ⟨rfl, pure_nilck rfl hx hs hb (.inr (.inr ⟨_, _, _, rfl⟩))⟩
 case binOp op t x y yt =>
  split at hc <;> try (cases hc; done)
  case h_16 =>
   simp only [Option.bind_eq_bind, Option.bind_eq_some_iff, Option.some.injEq] at hc
   obtain ⟨x', hx', y', hy', rfl⟩ := hc
   exact pe (pure_shf rfl (.inl rfl) hx' hy' hs he)
  case h_17 =>
   simp only [Option.bind_eq_bind, Option.bind_eq_some_iff, Option.some.injEq] at hc
   obtain ⟨x', hx', y', hy', rfl⟩ := hc
   exact pe (pure_shf rfl (.inr rfl) hx' hy' hs he)
  case h_18 =>
   simp only [Option.bind_eq_bind, Option.bind_eq_some_iff, Option.some.injEq] at hc
   obtain ⟨x', hx', y', hy', rfl⟩ := hc
   exact pe (pure_cat rfl hx' hy' hs he)
  case h_19 ht =>
   simp only [Option.bind_eq_bind, Option.bind_eq_some_iff, Option.some.injEq] at hc
   obtain ⟨x', hx', y', hy', rfl⟩ := hc
   exact pe (pure_beq (neg := false) rfl ht hx' hy' hs he)
  case h_20 ht =>
   simp only [Option.bind_eq_bind, Option.bind_eq_some_iff, Option.some.injEq] at hc
   obtain ⟨x', hx', y', hy', rfl⟩ := hc
   exact pe (pure_beq (neg := true) rfl ht hx' hy' hs he)
  case h_21 =>
   simp only [Option.bind_eq_bind, Option.bind_eq_some_iff, Option.some.injEq] at hc
   obtain ⟨x', hx', y', hy', rfl⟩ := hc
   exact pe (pure_seq (neg := false) rfl hx' hy' hs he)
  case h_22 =>
   simp only [Option.bind_eq_bind, Option.bind_eq_some_iff, Option.some.injEq] at hc
   obtain ⟨x', hx', y', hy', rfl⟩ := hc
   exact pe (pure_seq (neg := true) rfl hx' hy' hs he)
  case h_23 ht =>
   simp only [Option.bind_eq_bind, Option.bind_eq_some_iff, Option.some.injEq] at hc
   obtain ⟨c, hm, x', hx', y', hy', rfl⟩ := hc
   exact pe (pure_eqa (neg := false) rfl ht hm hx' hy' hs he)
  case h_24 ht =>
   simp only [Option.bind_eq_bind, Option.bind_eq_some_iff, Option.some.injEq] at hc
   obtain ⟨c, hm, x', hx', y', hy', rfl⟩ := hc
   exact pe (pure_eqa (neg := true) rfl ht hm hx' hy' hs he)
  case h_25 ht =>
   split at hc
   case isFalse => cases hc
   rename_i hn
   rw [Option.map_eq_some_iff] at hc
   obtain ⟨x', hx, rfl⟩ := hc
   exact pe (pure_eqn (neg := false) rfl ht hx hn hs hr he)
  case h_26 ht =>
   split at hc
   case isFalse => cases hc
   rename_i hn
   rw [Option.map_eq_some_iff] at hc
   obtain ⟨x', hx, rfl⟩ := hc
   exact pe (pure_eqn (neg := true) rfl ht hx hn hs hr he)
  all_goals
   simp only [Option.bind_eq_bind, Option.bind_eq_some_iff, Option.some.injEq] at hc
   obtain ⟨x', hx', y', hy', rfl⟩ := hc
   exact pe (pure_bin rfl hx' hy' hs he)
 case unOp op t x =>
  simp only [Option.bind_eq_bind, Option.bind_eq_some_iff, Option.some.injEq] at hc
  obtain ⟨x', hx', rfl⟩ := hc
  exact pe (pure_un rfl hx' hs he)
 case convert src t x =>
  split at hc
  case h_3 => cases hc
  ·rename_i d k hsrc ht
   rw [Option.map_eq_some_iff] at hc
   obtain ⟨x', hx, rfl⟩ := hc
   exact pe (pure_cv rfl (by rw [hsrc]; simp) ht hx hs he)
  ·rename_i e hsrc ht
   split at hc
   case h_2 => cases hc
   rename_i he8
   rw [Option.map_eq_some_iff] at hc
   obtain ⟨x', hx, rfl⟩ := hc
   exact ⟨(eff_s2b rfl hsrc ht he8 hx hs hr he).ok hnd, fun hp => by simp [MO.isP] at hp⟩
 case makeFunc fn first caps =>
  cases fn <;> simp only at hc <;> try (cases hc; done)
  simp only [Option.bind_eq_bind, Option.bind_eq_some_iff, Option.some.injEq] at hc
  obtain ⟨caps', hcc, rfl⟩ := hc
  simp only [evO, Option.some.injEq, Prod.mk.injEq] at he
  obtain ⟨rfl, rfl⟩ := he
  exact pe ⟨rfl, pure_mf rfl hcc hs⟩
 case makeSlice t l c =>
  simp only [Option.bind_eq_bind, Option.bind_eq_some_iff] at hc
  obtain ⟨e, he1, i, hi, z, hz, hc⟩ := hc
  split at hc
  case isFalse => cases hc
  rename_i hcond
  simp only [Option.bind_eq_some_iff, Option.some.injEq] at hc
  obtain ⟨l', hl, rfl⟩ := hc
  exact ⟨(eff_mks rfl he1 hi hcond.1 hz hcond.2.1 hcond.2.2.1 hcond.2.2.2.1 hcond.2.2.2.2 hl hs hr he).ok hnd, fun hp => by simp [MO.isP] at hp⟩
 case slice t x lo hi mx =>
  cases mx <;> simp only at hc <;> try (cases hc; done)
  split at hc
  ·rename_i ht
   simp only [Option.bind_eq_bind, Option.bind_eq_some_iff, Option.some.injEq] at hc
   obtain ⟨x', hx', lo', hlo, hi', hhi, rfl⟩ := hc
   exact pe (pure_ssl rfl ht hx' hlo hhi hs he)
  ·rename_i n e ht
   cases lo <;> cases hi <;> simp only at hc <;> try (cases hc; done)
   simp only [Option.bind_eq_bind, Option.bind_eq_some_iff, Option.some.injEq] at hc
   obtain ⟨sz, hsz, x', hx', rfl⟩ := hc
   exact ⟨(eff_sla rfl ht hsz hx' hs hr he).ok hnd, fun hp => by simp [MO.isP] at hp⟩
  simp only [Option.bind_eq_bind, Option.bind_eq_some_iff, Option.some.injEq] at hc
  obtain ⟨e, he1, sz, hsz, x', hx', lo', hlo, hi', hhi, rfl⟩ := hc
  exact pe (pure_slc rfl he1 hsz hx' hlo hhi hs hr he)
 case fieldAddr t x f =>
  split at hc
  case h_2 => cases hc
  rename_i fs ht
  simp only [Option.bind_eq_bind, Option.bind_eq_some_iff] at hc
  obtain ⟨fd, hfd, n, hn, hc⟩ := hc
  split at hc
  case isFalse => cases hc
  rename_i hpos
  simp only [Option.bind_eq_some_iff, Option.some.injEq] at hc
  obtain ⟨x', hx', rfl⟩ := hc
  exact pe (pure_fa rfl ht hfd hn hpos hx' hs he)
 case field t x f =>
  split at hc
  case h_2 => cases hc
  rename_i fs ht
  simp only [Option.bind_eq_bind, Option.bind_eq_some_iff, Option.some.injEq] at hc
  obtain ⟨fd, hfd, ag, hag, x', hx', rfl⟩ := hc
  exact pe (pure_fd rfl ht hfd hag hx' hs he)
 case index t x i =>
  split at hc
  ·rename_i n e ht
   simp only [Option.bind_eq_bind, Option.bind_eq_some_iff, Option.some.injEq] at hc
   obtain ⟨ag, hag, sz, hsz, x', hx', y', hy', rfl⟩ := hc
   exact pe (pure_ix rfl ht hag hsz hx' hy' hs he)
  ·rename_i ht
   simp only [Option.bind_eq_bind, Option.bind_eq_some_iff, Option.some.injEq] at hc
   obtain ⟨x', hx', y', hy', rfl⟩ := hc
   exact pe (pure_sx rfl ht hx' hy' hs he)
  ·cases hc
 case indexAddr t x i =>
  split at hc
  ·rename_i e ht
   simp only [Option.bind_eq_bind, Option.bind_eq_some_iff, Option.some.injEq] at hc
   obtain ⟨sz, hsz, x', hx', y', hy', rfl⟩ := hc
   exact pe (pure_ia rfl ht hsz hx' hy' hs hr he)
  ·rename_i n e ht
   simp only [Option.bind_eq_bind, Option.bind_eq_some_iff, Option.some.injEq] at hc
   obtain ⟨sz, hsz, x', hx', y', hy', rfl⟩ := hc
   exact pe (pure_iaa rfl ht hsz hx' hy' hs he)
  ·cases hc
 case extract x i =>
  rw [Option.map_eq_some_iff] at hc
  obtain ⟨x', hx, rfl⟩ := hc
  exact pe (pure_ext rfl hx hs he)
 case call c =>
  obtain ⟨callee, args, argTypes⟩ := c
  cases callee with
  | invoke r m => simp only at hc; cases hc
  | value x =>
   have gen : ∀ {x' : MX} {args' : List MX}, cX x = some x' → cXs args.toList = some args' → evO lk O s h (.callv x' args') = some (m, h') → OpOK lk P ⟨dst, .call ⟨.value x, args, argTypes⟩, type, pos, after, guard⟩ a w E m h' := by
    intro x' args' hx ha he
    simp only [evO] at he
    split at he
    case h_2 => cases he
    rename_i f q caps hb
    have h1 := hs.x hx
    rw [hb] at h1
    have h2 := hs.xs ha
    generalize hxv : a.eval x = xv at h1
    cases h1 with
    | fn _ _ _ vs hl hv =>
     have hcv : Vs E w caps vs := ⟨hl, hv⟩
     refine ok_call hO hnd hr (vs := vs.take q ++ args.toList.map a.eval ++ vs.drop q) (((hcv.take q).append h2).append (hcv.drop q)) (fun w' => ?_) he
     have e1 : (vs.take q).toArray ++ args.map a.eval ++ (vs.drop q).toArray = (vs.take q ++ args.toList.map a.eval ++ vs.drop q).toArray := by
      apply Array.ext'; simp
     simp [execOp, resolve, hxv, Deferred.ofValue, invoke, e1]
   have gen2 : ∀ {f : Nat} {args' : List MX}, x = .func f → cXs args.toList = some args' → O f (args'.map (MX.get s)) h = some (m, h') → OpOK lk P ⟨dst, .call ⟨.value x, args, argTypes⟩, type, pos, after, guard⟩ a w E m h' := by
    intro f args' hx ha he
    subst hx
    have h2 := hs.xs ha
    refine ok_call hO hnd hr h2 (fun w' => ?_) he
    have e1 : args.map a.eval = (args.toList.map a.eval).toArray := by apply Array.ext'; simp
    simp [execOp, resolve, Act.eval, Deferred.ofValue, invoke, e1]
   cases x with
   | func f =>
    simp only at hc
    split at hc
    ·rename_i cf x hsc
     split at hc
     case isFalse => cases hc
     rename_i hbd
     rw [Option.map_eq_some_iff] at hc
     obtain ⟨x', hx, rfl⟩ := hc
     unfold srtCall at hsc
     split at hsc
     case h_2 => cases hsc
     rename_i y cf' hargs
     split at hsc
     case h_2 => cases hsc
     cases hsc
     exact ⟨ok_srt hO.2 rfl rfl hargs hx hbd hnd hs hr he, fun hp => by simp [MO.isP] at hp⟩
    split at hc
    case isFalse => cases hc
    simp only [Option.bind_eq_bind, Option.bind_eq_some_iff, Option.some.injEq] at hc
    obtain ⟨args', ha, rfl⟩ := hc
    exact ⟨gen2 rfl ha he, fun hp => by simp [MO.isP] at hp⟩
   | tmp t =>
    simp only [Option.bind_eq_bind, Option.bind_eq_some_iff, Option.some.injEq] at hc
    obtain ⟨x', hx, args', ha, rfl⟩ := hc
    exact ⟨gen hx ha he, fun hp => by simp [MO.isP] at hp⟩
   | const t =>
    simp only [Option.bind_eq_bind, Option.bind_eq_some_iff, Option.some.injEq] at hc
    obtain ⟨x', hx, args', ha, rfl⟩ := hc
    exact ⟨gen hx ha he, fun hp => by simp [MO.isP] at hp⟩
   | global t =>
    simp only [Option.bind_eq_bind, Option.bind_eq_some_iff, Option.some.injEq] at hc
    obtain ⟨x', hx, args', ha, rfl⟩ := hc
    exact ⟨gen hx ha he, fun hp => by simp [MO.isP] at hp⟩
  | builtin b =>
   simp only at hc
   split at hc
   ·rename_i x t ha hat
    split at hc
    case h_3 => cases hc
    ·rename_i e ht
     rw [Option.map_eq_some_iff] at hc
     obtain ⟨x', hx, rfl⟩ := hc
     exact pe (pure_len rfl rfl (by apply Array.ext'; exact ha) (by apply Array.ext'; exact hat) ht hx hs he)
    ·rename_i ht
     rw [Option.map_eq_some_iff] at hc
     obtain ⟨x', hx, rfl⟩ := hc
     exact pe (pure_sln rfl rfl (by apply Array.ext'; exact ha) (by apply Array.ext'; exact hat) ht hx hs he)
   ·rename_i x y t u ha hat
    split at hc
    case h_2 => cases hc
    rename_i e e' ht htx
    simp only [Option.bind_eq_bind, Option.bind_eq_some_iff] at hc
    obtain ⟨i, hi, z, hz, hc⟩ := hc
    split at hc
    case isFalse => cases hc
    rename_i hcond
    simp only [Option.bind_eq_some_iff, Option.some.injEq] at hc
    obtain ⟨x', hx, y', hy, rfl⟩ := hc
    exact ⟨(eff_app rfl rfl (by apply Array.ext'; exact ha) (by apply Array.ext'; exact hat) ht htx hi hz hcond.1 hcond.2.2.1 hcond.2.2.2 hx hy hs hr he).ok hnd, fun hp => by simp [MO.isP] at hp⟩
   ·rename_i x y t u ha hat
    split at hc
    case h_2 => cases hc
    rename_i e ht
    split at hc
    case isFalse => cases hc
    rename_i hz
    simp only [Option.bind_eq_bind, Option.bind_eq_some_iff, Option.some.injEq] at hc
    obtain ⟨x', hx, y', hy, rfl⟩ := hc
    exact ⟨(eff_cpy rfl rfl (by apply Array.ext'; exact ha) (by apply Array.ext'; exact hat) ht hz hx hy hs hr he).ok hnd, fun hp => by simp [MO.isP] at hp⟩
   ·rename_i x y ha
    simp only [Option.bind_eq_bind, Option.bind_eq_some_iff, Option.some.injEq] at hc
    obtain ⟨x', hx, y', hy, rfl⟩ := hc
    exact pe (pure_mx rfl rfl (by apply Array.ext'; exact ha) hx hy hs he)
   ·rename_i x y ha
    simp only [Option.bind_eq_bind, Option.bind_eq_some_iff, Option.some.injEq] at hc
    obtain ⟨x', hx, y', hy, rfl⟩ := hc
    exact pe (pure_mn rfl rfl (by apply Array.ext'; exact ha) hx hy hs he)
   ·cases hc
end Go.Proofs.YtnmgpbihknjdjaaDoor
