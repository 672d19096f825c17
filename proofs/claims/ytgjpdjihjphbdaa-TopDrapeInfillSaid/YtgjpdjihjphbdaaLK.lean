/- Further rules of evaluation with open values: cases on what is undecided, loops with slots that stay. -/
import Derived.Test.YtgjpdjihjphbdaaLJ
namespace Go.Proofs.Ytgjpdjihjphbdaa
open Go.RowKit
set_option linter.unusedVariables false

theorem SRel.know {n : Nat} {A : Sl} {s : List MV} (hs : SRel n A s) {u : Nat} {v : MV} (h : look A u = some v) : SRel n ((u, v) :: A) s :=
  ⟨hs.len, fun t x ht => by
    rw [look_cons] at ht
    split at ht
    · rename_i e
      cases ht
      subst e
      exact hs.get _ _ h
    · exact hs.get t x ht⟩
section
variable {O : Oracle} {I : Iter} {N n : Nat} {lk : Nat → Bool} {A : Sl} {h : MHeap} {Q : MX2 → Sl → MHeap → Prop} {t : Nat} {os : List GO}
theorem Ef.know {mc : MC} {u : Nat} {v : MV} (hu : look A u = some v) (hE : Ef O I N n lk mc ((u, v) :: A) h Q) : Ef O I N n lk mc A h Q := .mk fun s hs => hE.run s (hs.know hu)

/-- Cases at a branch. -/
theorem ef_condb {u : Nat} {a b : MC} {x : Bool} (hc : look A u = some (.lit (.bool x))) (h1 : x = true → Ef O I N n lk a ((u, .lit (.bool true)) :: A) h Q) (h2 : x = false → Ef O I N n lk b ((u, .lit (.bool false)) :: A) h Q) : Ef O I N n lk (.cond (.s u) a b) A h Q := by
  cases x
  · exact .know hc (ef_condf (t := false) look_here rfl (h2 rfl))
  · exact .know hc (ef_condt (t := true) look_here rfl (h1 rfl))
theorem ef_condp {u : Nat} {a b : MC} {p : Prop} {inst : Decidable p} (hc : look A u = some (.lit (.bool (@decide p inst)))) (h1 : p → Ef O I N n lk a ((u, .lit (.bool true)) :: A) h Q) (h2 : ¬ p → Ef O I N n lk b ((u, .lit (.bool false)) :: A) h Q) : Ef O I N n lk (.cond (.s u) a b) A h Q :=
  ef_condb hc (fun e => h1 (of_decide_eq_true e)) fun e => h2 (of_decide_eq_false e)
/-- Cases at a guard. -/
theorem ef_gbt {u : Nat} {op : MO} {x : Bool} (hg : look A u = some (.lit (.bool x))) (ht : Nat.blt t n = true) (h1 : x = true → Ef O I N n lk (.reg (⟨none, some t, op⟩ :: os)) ((u, .lit (.bool true)) :: A) h Q)
    (h2 : x = false → Ef O I N n lk (.reg os) ((t, .lit undef) :: (u, .lit (.bool false)) :: A) h Q) : Ef O I N n lk (.reg (⟨some (u, true), some t, op⟩ :: os)) A h Q := by
  cases x
  · exact .know hg (ef_gn look_here rfl ht (h2 rfl))
  · exact .know hg (ef_gy look_here rfl (h1 rfl))
theorem ef_gbf {u : Nat} {op : MO} {x : Bool} (hg : look A u = some (.lit (.bool x))) (ht : Nat.blt t n = true) (h1 : x = false → Ef O I N n lk (.reg (⟨none, some t, op⟩ :: os)) ((u, .lit (.bool false)) :: A) h Q)
    (h2 : x = true → Ef O I N n lk (.reg os) ((t, .lit undef) :: (u, .lit (.bool true)) :: A) h Q) : Ef O I N n lk (.reg (⟨some (u, false), some t, op⟩ :: os)) A h Q := by
  cases x
  · exact .know hg (ef_gy look_here rfl (h1 rfl))
  · exact .know hg (ef_gn look_here rfl ht (h2 rfl))
theorem ef_gpt {u : Nat} {op : MO} {p : Prop} {inst : Decidable p} (hg : look A u = some (.lit (.bool (@decide p inst)))) (ht : Nat.blt t n = true) (h1 : p → Ef O I N n lk (.reg (⟨none, some t, op⟩ :: os)) ((u, .lit (.bool true)) :: A) h Q)
    (h2 : ¬ p → Ef O I N n lk (.reg os) ((t, .lit undef) :: (u, .lit (.bool false)) :: A) h Q) : Ef O I N n lk (.reg (⟨some (u, true), some t, op⟩ :: os)) A h Q :=
  ef_gbt hg ht (fun e => h1 (of_decide_eq_true e)) fun e => h2 (of_decide_eq_false e)
theorem ef_gpf {u : Nat} {op : MO} {p : Prop} {inst : Decidable p} (hg : look A u = some (.lit (.bool (@decide p inst)))) (ht : Nat.blt t n = true) (h1 : ¬ p → Ef O I N n lk (.reg (⟨none, some t, op⟩ :: os)) ((u, .lit (.bool false)) :: A) h Q)
    (h2 : p → Ef O I N n lk (.reg os) ((t, .lit undef) :: (u, .lit (.bool true)) :: A) h Q) : Ef O I N n lk (.reg (⟨some (u, false), some t, op⟩ :: os)) A h Q :=
  ef_gbf hg ht (fun e => h1 (of_decide_eq_false e)) fun e => h2 (of_decide_eq_true e)

/-- A loop: hd tells the slots that change, fx those that stay. -/
theorem ef_loopf {α : Type} {keep : List Nat} {b : MC} (Inv : α → Prop) (hd : α → Sl) (fx : Sl) (hp : α → MHeap) (ms : α → Nat) (a0 : α) (ks : List Nat) (hks : ∀ a, (hd a).map (·.1) = ks) (hA : Hold A (hd a0)) (hF : Hold A fx) (hk : (ks ++ fx.map (·.1)).all (fun t => keep.contains t) = true) (hH : hp a0 = h) (h0 : Inv a0) (hN : ms a0 < N)
    (hb : ∀ a, Inv a → Ef O I N n lk b (hd a ++ fx) (hp a) (loopQ (fun A' h' => ∃ a', Inv a' ∧ ms a' < ms a ∧ (Hold A' (hd a') ∧ Hold A' fx) ∧ headH keep h.length A' h' ∧ h'.take h.length = hp a') Q)) : Ef O I N n lk (.loop keep b) A h Q := by
  have happ : ∀ (A : Sl) (X Y : Sl), Hold A X → Hold A Y → Hold A (X ++ Y) := fun A X Y h1 h2 p hp => by
    rcases List.mem_append.1 hp with hp | hp
    · exact h1 p hp
    · exact h2 p hp
  refine ef_loop Inv (fun a => hd a ++ fx) hp ms a0 (ks ++ fx.map (·.1)) (fun a => by rw [List.map_append, hks a]) hk h0 hN (happ _ _ _ hA hF) hH fun a ha => ?_
  refine (hb a ha).mono fun x A1 h1 hq => ?_
  cases hq with
  | normal _ _ hq =>
    obtain ⟨a', j1, j2, ⟨j3, j4⟩, j5, j6⟩ := hq
    exact .normal _ _ ⟨a', j1, j2, happ _ _ _ j3 j4, j5, j6⟩
  | ret _ _ hq => exact .ret _ _ hq
  | exit id _ _ hq => exact .exit id _ _ hq
/-- A loop whose memory may grow. -/
theorem ef_loopg {α : Type} {keep : List Nat} {b : MC} (Inv : α → Prop) (hd : α → Sl) (fx : Sl) (hp : α → MHeap) (ms : α → Nat) (a0 : α) (ks : List Nat) (hks : ∀ a, (hd a).map (·.1) = ks) (hA : Hold A (hd a0)) (hF : Hold A fx) (hk : (ks ++ fx.map (·.1)).all (fun t => keep.contains t) = true) (hkn : keep.all (fun t => Nat.blt t n) = true) (hH : hp a0 = h) (h0 : Inv a0) (hN : ms a0 < N)
    (hb : ∀ a, Inv a → Ef O I N n lk b (hd a ++ fx) (hp a) (loopQ (fun A' h' => ∃ a', Inv a' ∧ ms a' < ms a ∧ (Hold A' (hd a') ∧ Hold A' fx) ∧ HeadIs keep h.length A' h' (hp a')) Q)) : Ef O I N n lk (.loop keep b) A h Q := .mk fun s hs => by
  have happ : ∀ (A : Sl) (X Y : Sl), Hold A X → Hold A Y → Hold A (X ++ Y) := fun A X Y h1 h2 p hp => by
    rcases List.mem_append.1 hp with hp | hp
    · exact h1 p hp
    · exact h2 p hp
  have key : ∀ (M : Nat) (a : α) (A1 : Sl) (s1 : List MV) (h1 : MHeap), Inv a → ms a < M → SRel n A1 s1 → Hold A1 (hd a ++ fx) → HeadIs keep h.length A1 h1 (hp a) →
      ∃ x s' h', rounds (fun st' => evC O I N b lk (headM keep h.length st')) M ⟨s1, h1⟩ = some (x, ⟨s', h'⟩) ∧ ∃ A', SRel n A' s' ∧ Q x A' h' := by
    intro M
    induction M with
    | zero => intro a A1 s1 h1 _ hM; omega
    | succ M ih =>
      intro a A1 s1 h1 hI hM hs1 hA1 hh1
      have e1 := headM_is hs1 hkn hh1
      have hS : SRel n (hd a ++ fx) (keepS keep 0 s1) := ⟨by rw [keepS_len', hs1.len], fun t v ht => by
        have hmem : t ∈ keep := by
          have := look_mem ht
          rw [List.map_append, hks] at this
          simpa using List.all_eq_true.1 hk t this
        rw [keepS_getD hmem]
        exact hs1.get t v (hA1.sub t v ht)⟩
      obtain ⟨x, s', h', k1, A', k2, k3⟩ := (hb a hI).run (keepS keep 0 s1) hS
      cases k3 with
      | normal _ _ k3 =>
        obtain ⟨a', j1, j2, ⟨j3, j4⟩, j5⟩ := k3
        obtain ⟨x, s2, h2, i1, i2⟩ := ih a' A' s' h' j1 (by omega) k2 (happ _ _ _ j3 j4) j5
        exact ⟨x, s2, h2, by simp only [rounds, e1, k1]; exact i1, i2⟩
      | exit id _ _ k3 => exact ⟨_, s', h', by simp only [rounds, e1, k1], A', k2, k3⟩
      | ret _ _ k3 => exact ⟨_, s', h', by simp only [rounds, e1, k1], A', k2, k3⟩
  obtain ⟨x, s', h', k1, k2⟩ := key N a0 A s h h0 hN hs (happ _ _ _ hA hF) (by rw [hH]; exact .all (Nat.le_refl _))
  exact ⟨x, s', h', by simp only [evC]; exact k1, k2⟩

/-- One more element at the end of a slice of the call's own. -/
theorem ef_push {sz t1 t2 : Nat} {p : MX} {x : MX} {v z : MV} {id k g : Nat} {o : MObj} (ht1 : Nat.blt t1 n = true) (ht2 : Nat.blt t2 n = true) (hx : XV A x v) (hs : XV ((t1, .arr h.length 0 1 0) :: A) p (.arr id 0 k g)) (ho : h[id]? = some o) (hg : o.g = g) (hm : k = o.es.length) (hz : o.sz = sz) (hl : o.es.length + 1 ≤ 1000000) (hv : v.cells.length = sz) (hc : v.cOk = true) (hk : v.sOk sz = true) (hlk : lk id = false)
    (hE : Ef O I N n lk (.reg os) ((t2, .arr id 0 (k + 1) (g + 1)) :: (t1, .arr h.length 0 1 0) :: A) ((h ++ [(⟨0, false, sz, [v]⟩ : MObj)]).set id ⟨g + 1, false, sz, o.es ++ [v]⟩) Q) : Ef O I N n lk (.reg (⟨none, some t1, .bsl z sz 1 [(0, x)]⟩ :: ⟨none, some t2, .app sz p (.s t1)⟩ :: os)) A h Q := by
  subst hg hz hm
  refine ef_bsl (ht := ht1) (vs := [v]) (es := [v]) (XVs.cons hx XVs.nil) ?_ ?_
  · simp only [List.zip_cons_cons, List.zip_nil_right, List.map_cons, List.map_nil, List.replicate_one, setAtM]
    rw [if_pos ⟨by simp, hv, hc⟩]
    rfl
  · have hlt := (List.getElem?_eq_some_iff.1 ho).1
    refine ef_app (ht := ht2) (v := .arr h.length 0 1 0) (e := v) (xs := []) (o := o) hs look_here ?_ ?_ rfl (by omega) rfl (by simpa using hl) (by simpa using hk) hlk ?_
    · simp [MV.elems]
    · rw [List.getElem?_append_left hlt]; exact ho
    · simpa using hE
/-- The first element of a nil slice. -/
theorem ef_push0 {sz t1 t2 : Nat} {p : MX} {x : MX} {v z : MV} (ht1 : Nat.blt t1 n = true) (ht2 : Nat.blt t2 n = true) (hx : XV A x v) (hs : XV ((t1, .arr h.length 0 1 0) :: A) p (.lit (.slice none 0 0))) (hv : v.cells.length = sz) (hc : v.cOk = true) (hk : v.sOk sz = true)
    (hE : Ef O I N n lk (.reg os) ((t2, .arr (h.length + 1) 0 1 0) :: (t1, .arr h.length 0 1 0) :: A) (h ++ [⟨0, false, sz, [v]⟩, ⟨0, false, sz, [v]⟩]) Q) : Ef O I N n lk (.reg (⟨none, some t1, .bsl z sz 1 [(0, x)]⟩ :: ⟨none, some t2, .app sz p (.s t1)⟩ :: os)) A h Q := by
  refine ef_bsl (ht := ht1) (vs := [v]) (es := [v]) (XVs.cons hx XVs.nil) ?_ ?_
  · simp only [List.zip_cons_cons, List.zip_nil_right, List.map_cons, List.map_nil, List.replicate_one, setAtM]
    rw [if_pos ⟨by simp, hv, hc⟩]
    rfl
  · refine ef_appn (ht := ht2) (v := .arr h.length 0 1 0) (e := v) (xs := []) hs look_here ?_ (by simp) (by simpa using hk) ?_
    · simp [MV.elems]
    · simpa using hE
end
section
variable {O : Oracle} {N n : Nat} {A : Sl} {h : MHeap} {ln : Nat} {xs : List (List MV)} {stop : Bool} {Q : QI}
theorem EfI.know {mc : MC} {u : Nat} {v : MV} (hu : look A u = some v) (hE : EfI O N n mc ((u, v) :: A) h ln xs stop Q) : EfI O N n mc A h ln xs stop Q := .mk fun s hs => hE.run s (hs.know hu)
theorem efi_condb {u : Nat} {a b : MC} {x : Bool} (hc : look A u = some (.lit (.bool x))) (h1 : x = true → EfI O N n a ((u, .lit (.bool true)) :: A) h ln xs stop Q) (h2 : x = false → EfI O N n b ((u, .lit (.bool false)) :: A) h ln xs stop Q) : EfI O N n (.cond (.s u) a b) A h ln xs stop Q := by
  cases x
  · exact .know hc (efi_condf (t := false) look_here rfl (h2 rfl))
  · exact .know hc (efi_condt (t := true) look_here rfl (h1 rfl))
end
theorem takeF {l r : MHeap} {n : Nat} (hl : n = l.length) (h : l = r) : l.take n = r := by subst hl h; exact List.take_length
/-- Comparisons that are not decided. -/
theorem cmpd_lss {k : IntKind} {a b : Int} : binI .lss k a b = some (.bool (decide (a < b))) := rfl
theorem cmpd_leq {k : IntKind} {a b : Int} : binI .leq k a b = some (.bool (decide (a ≤ b))) := rfl
theorem cmpd_gtr {k : IntKind} {a b : Int} : binI .gtr k a b = some (.bool (decide (b < a))) := rfl
theorem cmpd_geq {k : IntKind} {a b : Int} : binI .geq k a b = some (.bool (decide (b ≤ a))) := rfl
theorem cmpd_eql {k : IntKind} {a b : Int} : binI .eql k a b = some (.bool (decide (a = b))) := rfl
theorem cmpd_neq {k : IntKind} {a b : Int} : binI .neq k a b = some (.bool (decide (a ≠ b))) := by simp only [binI, Option.some.injEq, Value.bool.injEq]; rw [Bool.eq_iff_iff]; simp
end Go.Proofs.Ytgjpdjihjphbdaa

namespace Go.Proofs.Ytgjpdjihjphbdaa
open Go.RowKit
/-- A slice and a literal out of cells, handed back. -/
theorem fin_cells {x : MX2} {A : Sl} {h : MHeap} {t u id k g it iu : Nat} {ot ou o : MObj} {es : List MV} {sz : Nat} {v : Value} {r1 : List MV} {r2 : List MV} (hx : outX x = true) (ht : look A t = some (.ptr it 0 0 0)) (hot : h[it]? = some ot) (h1 : ot.g = 0) (h2 : ot.es = .arr id 0 k g :: r1) (hu : look A u = some (.ptr iu 0 0 0)) (hou : h[iu]? = some ou) (h3 : ou.g = 0) (h4 : ou.es = .lit v :: r2) (h5 : ∀ vs, v ≠ .agg vs)
    (ho : h[id]? = some o) (hg : o.g = g) (hk : k = es.length) (hl : ltL 0 es = true) (he : o.es = es) (hz : o.sz = sz) (hn : o.nl = false) :
    FinF [.cell t none, .cell u none] (.tup [.arr 0 0 k 0, .lit v]) [⟨0, false, sz, es⟩] x A h := by
  subst hz hk hg he
  refine ⟨hx, [.arr id 0 o.es.length o.g, .lit v], [.arr 0 0 o.es.length 0, .lit v], ⟨_, _, rfl, ⟨it, 0, 0, 0, ot, _, ht, hot, h1, by rw [h2]; rfl, rfl⟩, _, [], rfl, ⟨iu, 0, 0, 0, ou, _, hu, hou, h3, by rw [h4]; rfl, rfl⟩, rfl⟩, ?_, ?_, rfl⟩
  · simp [impIds]
  · simp [impIds, expL, ho, hl, frz, MV.lt, hn]
theorem fin_cells0 {x : MX2} {A : Sl} {h : MHeap} {t u it iu : Nat} {ot ou : MObj} {v w : Value} {r1 r2 : List MV} {m : MV} (hx : outX x = true) (ht : look A t = some (.ptr it 0 0 0)) (hot : h[it]? = some ot) (h1 : ot.g = 0) (h2 : ot.es = .lit w :: r1) (hu : look A u = some (.ptr iu 0 0 0)) (hou : h[iu]? = some ou) (h3 : ou.g = 0) (h4 : ou.es = .lit v :: r2) (hm : MV.tup [.lit w, .lit v] = m) :
    FinF [.cell t none, .cell u none] m [] x A h := by
  subst hm
  refine ⟨hx, [.lit w, .lit v], [.lit w, .lit v], ⟨_, _, rfl, ⟨it, 0, 0, 0, ot, _, ht, hot, h1, by rw [h2]; rfl, rfl⟩, _, [], rfl, ⟨iu, 0, 0, 0, ou, _, hu, hou, h3, by rw [h4]; rfl, rfl⟩, rfl⟩, ?_, ?_, rfl⟩
  · simp [impIds]
  · simp [impIds, expL, frz, MV.lt]
end Go.Proofs.Ytgjpdjihjphbdaa
