/- Iterators with open values: rules; ranges over them. -/
import Derived.Test.YtgjpdjihjphbdaaLE
namespace Go.Proofs.Ytgjpdjihjphbdaa
open Go.RowKit
set_option linter.unusedVariables false

theorem bindL_all {α β : Type} {f : α → Option (List β)} {P : β → Prop} : ∀ {l : List α}, (∀ a ∈ l, ∃ r, f a = some r ∧ ∀ x ∈ r, P x) → ∃ m, bindL f l = some m ∧ ∀ x ∈ m, P x
  | [], _ => ⟨[], rfl, fun x hx => by cases hx⟩
  | a :: l, h => by
    obtain ⟨r, h1, h2⟩ := h a List.mem_cons_self
    obtain ⟨m, h3, h4⟩ := bindL_all (l := l) fun b hb => h b (List.mem_cons_of_mem _ hb)
    refine ⟨r ++ m, by simp only [bindL, h1, h3], fun x hx => ?_⟩
    rcases List.mem_append.1 hx with hx | hx
    · exact h2 x hx
    · exact h4 x hx
theorem bindL_cnt {α β : Type} {f : α → Option (List β)} {sa : α → Bool} {sb : β → Bool} (hf : ∀ a r, f a = some r → (r.filter fun x => !sb x).length = if sa a then 0 else 1) :
    ∀ (l : List α) (m : List β), bindL f l = some m → (m.filter fun x => !sb x).length = (l.filter fun x => !sa x).length
  | [], m, h => by simp only [bindL, Option.some.injEq] at h; subst h; rfl
  | a :: l, m, h => by
    simp only [bindL] at h
    split at h
    case h_2 => cases h
    rename_i r hr
    split at h
    case h_2 => cases h
    rename_i m' hm
    cases h
    have h1 := hf a r hr
    have h2 := bindL_cnt hf l m' hm
    rw [List.filter_append, List.length_append, h1, h2, List.filter_cons]
    cases sa a <;> simp <;> omega
abbrev liveI (l : List (MX2 × ISt)) : Nat := (l.filter fun o => !o.2.stop).length
theorem contI_one {f : ISt → Option (List (MX2 × ISt))} (hf : ∀ st outs, f st = some outs → liveI outs = if st.stop then 0 else 1) (p : MX2 × ISt) (outs : List (MX2 × ISt)) (h : contI f p = some outs) : liveI outs = if p.2.stop then 0 else 1 := by
  obtain ⟨x, st⟩ := p
  cases x with
  | normal => exact hf _ _ h
  | exit id =>
    simp only [contI, Option.some.injEq] at h
    subst h
    simp only [liveI, List.filter_cons, List.filter_nil]
    cases st.stop <;> rfl
  | ret =>
    simp only [contI, Option.some.injEq] at h
    subst h
    simp only [liveI, List.filter_cons, List.filter_nil]
    cases st.stop <;> rfl
theorem roundsI_one {f : ISt → Option (List (MX2 × ISt))} (hf : ∀ st outs, f st = some outs → liveI outs = if st.stop then 0 else 1) : ∀ n st outs, roundsI f n st = some outs → liveI outs = if st.stop then 0 else 1 := by
  intro n
  induction n with
  | zero => intro st outs h; simp [roundsI] at h
  | succ n ih =>
    intro st outs h
    simp only [roundsI] at h
    split at h
    case h_2 => cases h
    rename_i l hl
    have := bindL_cnt (sa := fun p : MX2 × ISt => p.2.stop) (sb := fun p : MX2 × ISt => p.2.stop) (contI_one ih) l outs h
    exact this.trans (hf _ _ hl)
theorem evGI_one {O : Oracle} {o : GO} {st : ISt} {l : List ISt} (h : evGI O o st = some l) : (l.filter fun s => !s.stop).length = if st.stop then 0 else 1 := by
  unfold evGI at h
  split at h
  · split at h
    case isFalse => cases h
    rename_i hs
    cases h
    rw [hs.1]
    rfl
  · rw [Option.map_eq_some_iff] at h
    obtain ⟨st', _, rfl⟩ := h
    simp only [List.filter_cons, List.filter_nil]
    cases st.stop <;> rfl
theorem evRI_one {O : Oracle} : ∀ (gl : List GO) (st : ISt) (l : List ISt), evRI O gl st = some l → (l.filter fun s => !s.stop).length = if st.stop then 0 else 1
  | [], st, l, h => by
    simp only [evRI, Option.some.injEq] at h
    subst h
    simp only [List.filter_cons, List.filter_nil]
    cases st.stop <;> rfl
  | o :: gl, st, l, h => by
    simp only [evRI] at h
    split at h
    case h_2 => cases h
    rename_i l1 h1
    exact (bindL_cnt (sa := ISt.stop) (sb := ISt.stop) (evRI_one gl) l1 l h).trans (evGI_one h1)
theorem evI_one {O : Oracle} {N : Nat} : ∀ (mc : MC) (st : ISt) (outs : List (MX2 × ISt)), evI O N mc st = some outs → liveI outs = if st.stop then 0 else 1 := by
  have one : ∀ (x : MX2) (st : ISt), liveI [(x, st)] = if st.stop then 0 else 1 := fun x st => by
    simp only [liveI, List.filter_cons, List.filter_nil]
    cases st.stop <;> rfl
  intro mc
  induction mc with
  | skip => intro st outs h; simp only [evI, Option.some.injEq] at h; subst h; exact one _ _
  | ret => intro st outs h; simp only [evI, Option.some.injEq] at h; subst h; exact one _ _
  | exit id => intro st outs h; simp only [evI, Option.some.injEq] at h; subst h; exact one _ _
  | bad => intro st outs h; simp [evI] at h
  | rf => intro st outs h; simp [evI] at h
  | reg gl =>
    intro st outs h
    simp only [evI] at h
    split at h
    · rw [Option.map_eq_some_iff] at h
      obtain ⟨l, h1, rfl⟩ := h
      have := evRI_one gl st l h1
      rw [← this, liveI, List.filter_map, List.length_map]
      rfl
    · rw [Option.map_eq_some_iff] at h
      obtain ⟨st', h1, rfl⟩ := h
      exact one _ _
  | seq a b iha ihb =>
    intro st outs h
    simp only [evI] at h
    split at h
    case h_2 => cases h
    rename_i l hl
    exact (bindL_cnt (sa := fun p : MX2 × ISt => p.2.stop) (sb := fun p : MX2 × ISt => p.2.stop) (contI_one ihb) l outs h).trans (iha _ _ hl)
  | cond c a b iha ihb =>
    intro st outs h
    simp only [evI] at h
    split at h
    case h_2 => cases h
    split at h
    · exact iha _ _ h
    · exact ihb _ _ h
  | block id b ih =>
    intro st outs h
    simp only [evI, Option.map_eq_some_iff] at h
    obtain ⟨l, h1, rfl⟩ := h
    rw [← ih _ _ h1, liveI, List.filter_map, List.length_map]
    congr 2
    funext o
    have : (leaveB id o).2 = o.2 := by unfold leaveB; split; split <;> rfl; rfl
    simp only [Function.comp_apply, this]
  | loop keep b ih =>
    intro st outs h
    simp only [evI] at h
    exact roundsI_one ih _ _ _ h

abbrev QI := MX2 → Sl → MHeap → Nat → List (List MV) → Bool → Prop
/-- How an iterator's code goes on. -/
structure EfI (O : Oracle) (N n : Nat) (mc : MC) (A : Sl) (h : MHeap) (ln : Nat) (xs : List (List MV)) (stop : Bool) (Q : QI) : Prop where
  run : ∀ s, SRel n A s → ∃ outs, evI O N mc ⟨s, h, ln, xs, stop⟩ = some outs ∧ ∀ o ∈ outs, ∃ A', SRel n A' o.2.s ∧ Q o.1 A' o.2.h o.2.ln o.2.xs o.2.stop
/-- How a region of it with a yield goes on. -/
structure EfY (O : Oracle) (N n : Nat) (gl : List GO) (A : Sl) (h : MHeap) (ln : Nat) (xs : List (List MV)) (stop : Bool) (Q : Sl → MHeap → Nat → List (List MV) → Bool → Prop) : Prop where
  run : ∀ s, SRel n A s → ∃ l, evRI O gl ⟨s, h, ln, xs, stop⟩ = some l ∧ ∀ o ∈ l, ∃ A', SRel n A' o.s ∧ Q A' o.h o.ln o.xs o.stop

section
variable {O : Oracle} {N n : Nat} {A : Sl} {h : MHeap} {ln : Nat} {xs : List (List MV)} {stop : Bool} {Q : QI}

inductive seqI (O : Oracle) (N n : Nat) (b : MC) (Q : QI) : QI
  | normal (A : Sl) (h : MHeap) (ln : Nat) (xs : List (List MV)) (stop : Bool) : EfI O N n b A h ln xs stop Q → seqI O N n b Q .normal A h ln xs stop
  | ret (A : Sl) (h : MHeap) (ln : Nat) (xs : List (List MV)) (stop : Bool) : Q .ret A h ln xs stop → seqI O N n b Q .ret A h ln xs stop
  | exit (id : Nat) (A : Sl) (h : MHeap) (ln : Nat) (xs : List (List MV)) (stop : Bool) : Q (.exit id) A h ln xs stop → seqI O N n b Q (.exit id) A h ln xs stop
inductive blockI (id : Nat) (Q : QI) : QI
  | normal (A : Sl) (h : MHeap) (ln : Nat) (xs : List (List MV)) (stop : Bool) : Q .normal A h ln xs stop → blockI id Q .normal A h ln xs stop
  | ret (A : Sl) (h : MHeap) (ln : Nat) (xs : List (List MV)) (stop : Bool) : Q .ret A h ln xs stop → blockI id Q .ret A h ln xs stop
  | here (A : Sl) (h : MHeap) (ln : Nat) (xs : List (List MV)) (stop : Bool) : Q .normal A h ln xs stop → blockI id Q (.exit id) A h ln xs stop
  | there (k : Nat) (A : Sl) (h : MHeap) (ln : Nat) (xs : List (List MV)) (stop : Bool) : k ≠ id → Q (.exit k) A h ln xs stop → blockI id Q (.exit k) A h ln xs stop
inductive loopI (R : Sl → MHeap → Nat → List (List MV) → Bool → Prop) (Q : QI) : QI
  | normal (A : Sl) (h : MHeap) (ln : Nat) (xs : List (List MV)) (stop : Bool) : R A h ln xs stop → loopI R Q .normal A h ln xs stop
  | ret (A : Sl) (h : MHeap) (ln : Nat) (xs : List (List MV)) (stop : Bool) : Q .ret A h ln xs stop → loopI R Q .ret A h ln xs stop
  | exit (id : Nat) (A : Sl) (h : MHeap) (ln : Nat) (xs : List (List MV)) (stop : Bool) : Q (.exit id) A h ln xs stop → loopI R Q (.exit id) A h ln xs stop
theorem blockI_there {id k : Nat} (hk : Nat.beq k id = false) (hE : Q (.exit k) A h ln xs stop) : blockI id Q (.exit k) A h ln xs stop :=
  .there k _ _ _ _ _ (fun e => by subst e; have h2 : Nat.beq k k = true := Nat.beq_refl k; rw [h2] at hk; cases hk) hE

theorem efi_one {mc : MC} {x : MX2} (he : ∀ s, evI O N mc ⟨s, h, ln, xs, stop⟩ = some [(x, ⟨s, h, ln, xs, stop⟩)]) (hQ : Q x A h ln xs stop) : EfI O N n mc A h ln xs stop Q := .mk fun s hs =>
  ⟨_, he s, fun o ho => by rcases List.mem_cons.1 ho with rfl | ho; exact ⟨A, hs, hQ⟩; cases ho⟩
theorem efi_skip (hQ : Q .normal A h ln xs stop) : EfI O N n .skip A h ln xs stop Q := efi_one (fun s => rfl) hQ
theorem efi_ret (hQ : Q .ret A h ln xs stop) : EfI O N n .ret A h ln xs stop Q := efi_one (fun s => rfl) hQ
theorem efi_exit {id : Nat} (hQ : Q (.exit id) A h ln xs stop) : EfI O N n (.exit id) A h ln xs stop Q := efi_one (fun s => rfl) hQ
theorem efi_seq {a b : MC} (hE : EfI O N n a A h ln xs stop (seqI O N n b Q)) : EfI O N n (.seq a b) A h ln xs stop Q := .mk fun s hs => by
  obtain ⟨l, h1, h2⟩ := hE.run s hs
  simp only [evI, h1]
  refine bindL_all fun o ho => ?_
  obtain ⟨A', h3, h4⟩ := h2 o ho
  obtain ⟨x, s', h', ln', xs', stop'⟩ := o
  dsimp only at h3 h4
  cases h4 with
  | normal _ _ _ _ _ h4 => exact h4.run s' h3
  | ret _ _ _ _ _ h4 => exact ⟨_, rfl, fun o ho => by rcases List.mem_cons.1 ho with rfl | ho; exact ⟨A', h3, h4⟩; cases ho⟩
  | exit id _ _ _ _ _ h4 => exact ⟨_, rfl, fun o ho => by rcases List.mem_cons.1 ho with rfl | ho; exact ⟨A', h3, h4⟩; cases ho⟩
theorem efi_block {id : Nat} {b : MC} (hE : EfI O N n b A h ln xs stop (blockI id Q)) : EfI O N n (.block id b) A h ln xs stop Q := .mk fun s hs => by
  obtain ⟨l, h1, h2⟩ := hE.run s hs
  refine ⟨l.map (leaveB id), by simp only [evI, h1, Option.map_some], fun o ho => ?_⟩
  obtain ⟨p, hp, rfl⟩ := List.mem_map.1 ho
  obtain ⟨A', h3, h4⟩ := h2 p hp
  obtain ⟨x, s', h', ln', xs', stop'⟩ := p
  dsimp only at h3 h4
  cases h4 with
  | normal _ _ _ _ _ h4 => exact ⟨A', h3, h4⟩
  | ret _ _ _ _ _ h4 => exact ⟨A', h3, h4⟩
  | here _ _ _ _ _ h4 => exact ⟨A', by simpa [leaveB] using h3, by simpa [leaveB] using h4⟩
  | there k _ _ _ _ _ hk h4 => exact ⟨A', by simpa [leaveB, hk] using h3, by simpa [leaveB, hk] using h4⟩
theorem efi_condt {c : MX} {a b : MC} {t : Bool} (hc : XV A c (.lit (.bool t))) (ht : t = true) (hE : EfI O N n a A h ln xs stop Q) : EfI O N n (.cond c a b) A h ln xs stop Q := .mk fun s hs => by
  subst ht
  obtain ⟨l, h1, h2⟩ := hE.run s hs
  exact ⟨l, by simp only [evI, hs.x hc, if_true, h1], h2⟩
theorem efi_condf {c : MX} {a b : MC} {t : Bool} (hc : XV A c (.lit (.bool t))) (ht : t = false) (hE : EfI O N n b A h ln xs stop Q) : EfI O N n (.cond c a b) A h ln xs stop Q := .mk fun s hs => by
  subst ht
  obtain ⟨l, h1, h2⟩ := hE.run s hs
  exact ⟨l, by simp only [evI, hs.x hc, Bool.false_eq_true, if_false, h1], h2⟩
theorem efi_reg {gl : List GO} (hy : hasY gl = false) (hE : Ef O noI N n (lkn ln) (.reg gl) A h fun x A' h' => Q .normal A' h' ln xs stop) : EfI O N n (.reg gl) A h ln xs stop Q := .mk fun s hs => by
  obtain ⟨x, s', h', h1, A', h2, h3⟩ := hE.run s hs
  simp only [evC, Option.map_eq_some_iff] at h1
  obtain ⟨st, h4, h5⟩ := h1
  cases h5
  exact ⟨[(.normal, ⟨s', h', ln, xs, stop⟩)], by simp only [evI, hy, Bool.false_eq_true, if_false, h4, Option.map_some], fun o ho => by rcases List.mem_cons.1 ho with rfl | ho; exact ⟨A', h2, h3⟩; cases ho⟩
theorem efi_regy {gl : List GO} (hy : hasY gl = true) (hE : EfY O N n gl A h ln xs stop (Q .normal)) : EfI O N n (.reg gl) A h ln xs stop Q := .mk fun s hs => by
  obtain ⟨l, h1, h2⟩ := hE.run s hs
  refine ⟨l.map fun st => (.normal, st), by simp only [evI, hy, if_true, h1, Option.map_some], fun o ho => ?_⟩
  obtain ⟨p, hp, rfl⟩ := List.mem_map.1 ho
  exact h2 p hp
variable {QY : Sl → MHeap → Nat → List (List MV) → Bool → Prop}
theorem efy_nil (hQ : QY A h ln xs stop) : EfY O N n [] A h ln xs stop QY := .mk fun s hs => ⟨_, rfl, fun o ho => by rcases List.mem_cons.1 ho with rfl | ho; exact ⟨A, hs, hQ⟩; cases ho⟩
theorem isY_none {s : List MV} {op : MO} (h : isCv op = false) : isY s op = none := by
  cases op <;> first | rfl | (simp [isCv] at h)
theorem efy_op {g : GO} {gl : List GO} (hc : isCv g.op = false) (hE : Ef O noI N n (lkn ln) (.reg [g]) A h fun x A' h' => EfY O N n gl A' h' ln xs stop QY) : EfY O N n (g :: gl) A h ln xs stop QY := .mk fun s hs => by
  obtain ⟨x, s', h', h1, A', h2, h3⟩ := hE.run s hs
  simp only [evC, Option.map_eq_some_iff, evR] at h1
  obtain ⟨st, h4, h5⟩ := h1
  cases h5
  have h6 : evG (lkn ln) O g ⟨s, h⟩ = some ⟨s', h'⟩ := by
    cases hg : evG (lkn ln) O g ⟨s, h⟩ with
    | none => rw [hg] at h4; cases h4
    | some st => rw [hg] at h4; exact h4
  obtain ⟨l, h7, h8⟩ := h3.run s' h2
  have h9 : evGI O g ⟨s, h, ln, xs, stop⟩ = some [⟨s', h', ln, xs, stop⟩] := by
    unfold evGI
    rw [isY_none hc]
    simp only [h6, Option.map_some]
    split
    · rename_i hh; cases hh
    · rfl
  refine ⟨l, ?_, h8⟩
  simp only [evRI, h9, bindL, h7, List.append_nil]
theorem efy_yield {t : Nat} {gd : Option (Nat × Bool)} {x : MX} {as_ : List MX} {ms : List MV} {gl : List GO} (hg : match gd with | none => True | some (u, b) => look A u = some (.lit (.bool b))) (ht : Nat.blt t n = true) (hx : XV A x .yld) (ha : XVs A as_ ms) (hcl : ms.all MV.cl = true)
    (hT : EfY O N n gl ((t, .lit (.bool true)) :: A) h h.length (xs ++ [ms]) false QY) (hF : EfY O N n gl ((t, .lit (.bool false)) :: A) h h.length xs true QY) : EfY O N n (⟨gd, some t, .callv x as_⟩ :: gl) A h ln xs false QY := .mk fun s hs => by
  have hw : wantM s gd = some true := by
    cases gd with
    | none => rfl
    | some p => obtain ⟨u, b⟩ := p; dsimp only at hg; rw [wantM_x hs hg]; simp
  have hY : isY s (.callv x as_) = some ms := by simp only [isY, hs.x hx, hs.xs ha]
  have ht' : t < n := by simpa [Nat.blt_eq] using ht
  obtain ⟨l1, a1, a2⟩ := hT.run _ (hs.put ht' _)
  obtain ⟨l2, b1, b2⟩ := hF.run _ (hs.put ht' _)
  refine ⟨l1 ++ l2, ?_, fun o ho => ?_⟩
  · simp only [evRI, evGI, hw, hY, hcl, and_self, if_true, bindL, putM, a1, b1, List.append_nil]
  · rcases List.mem_append.1 ho with ho | ho
    · exact a2 o ho
    · exact b2 o ho
theorem efy_skip {t u : Nat} {b x : Bool} {op : MO} {gl : List GO} (hg : look A u = some (.lit (.bool x))) (hx : x = !b) (ht : Nat.blt t n = true) (hE : EfY O N n gl ((t, .lit undef) :: A) h ln xs stop QY) : EfY O N n (⟨some (u, b), some t, op⟩ :: gl) A h ln xs stop QY := .mk fun s hs => by
  have hw : wantM s (some (u, b)) = some false := by rw [wantM_x hs hg, hx]; cases b <;> rfl
  obtain ⟨l, a1, a2⟩ := hE.run _ (hs.put (show t < n by simpa [Nat.blt_eq] using ht) _)
  refine ⟨l, ?_, a2⟩
  have h9 : evGI O ⟨some (u, b), some t, op⟩ ⟨s, h, ln, xs, stop⟩ = some [⟨s.set t (.lit undef), h, ln, xs, stop⟩] := by
    simp only [evGI, hw, evG, Bool.false_eq_true, if_false, putM, Option.map_some]
  simp only [evRI, h9, bindL, a1, List.append_nil]

theorem efi_loop {α : Type} {keep : List Nat} {b : MC} (Inv : α → Prop) (hd : α → Sl) (hp : α → MHeap) (lf : α → Nat) (xf : α → List (List MV)) (ms : α → Nat) (a0 : α) (h0 : Inv a0) (hN : ms a0 < N) (hA : Hold A (hd a0)) (hH : hp a0 = h) (hL : lf a0 = ln) (hX : xf a0 = xs)
    (hb : ∀ a, Inv a → EfI O N n b (hd a) (hp a) (lf a) (xf a) false (loopI (fun A' h' ln' xs' stop' => stop' = false ∧ ∃ a', Inv a' ∧ ms a' < ms a ∧ Hold A' (hd a') ∧ h' = hp a' ∧ ln' = lf a' ∧ xs' = xf a') Q)) : EfI O N n (.loop keep b) A h ln xs false Q := .mk fun s hs => by
  have key : ∀ (M : Nat) (a : α) (A1 : Sl) (s1 : List MV), Inv a → ms a < M → SRel n A1 s1 → Hold A1 (hd a) →
      ∃ outs, roundsI (evI O N b) M ⟨s1, hp a, lf a, xf a, false⟩ = some outs ∧ ∀ o ∈ outs, ∃ A', SRel n A' o.2.s ∧ Q o.1 A' o.2.h o.2.ln o.2.xs o.2.stop := by
    intro M
    induction M with
    | zero => intro a A1 s1 _ hM; omega
    | succ M ih =>
      intro a A1 s1 hI hM hs1 hA1
      obtain ⟨l, h1, h2⟩ := (hb a hI).run s1 ⟨hs1.len, fun t v ht => hs1.get t v (hA1.sub t v ht)⟩
      simp only [roundsI, h1]
      refine bindL_all fun o ho => ?_
      obtain ⟨A', h3, h4⟩ := h2 o ho
      obtain ⟨x, s', h', ln', xs', stop'⟩ := o
      dsimp only at h3 h4
      cases h4 with
      | normal _ _ _ _ _ h4 =>
        obtain ⟨rfl, a', j1, j2, j3, rfl, rfl, rfl⟩ := h4
        exact ih a' A' s' j1 (by omega) h3 j3
      | ret _ _ _ _ _ h4 => exact ⟨_, rfl, fun o ho => by rcases List.mem_cons.1 ho with rfl | ho; exact ⟨A', h3, h4⟩; cases ho⟩
      | exit id _ _ _ _ _ h4 => exact ⟨_, rfl, fun o ho => by rcases List.mem_cons.1 ho with rfl | ho; exact ⟨A', h3, h4⟩; cases ho⟩
  subst hH hL hX
  exact key N a0 A s h0 hN hs hA

/-- What an iterator has yielded in the end. -/
def finI (full : List (List MV)) : QI := fun x A h ln xs stop => outX x = true ∧ (stop = false → xs = full)
theorem finI_go {full : List (List MV)} {x : MX2} (hx : outX x = true) (he : xs = full) : finI full x A h ln xs false := ⟨hx, fun _ => he⟩
theorem finI_stop {full : List (List MV)} {x : MX2} (hx : outX x = true) : finI full x A h ln xs true := ⟨hx, fun h => by cases h⟩
theorem itM_of {q : Nat} {caps cs : List MV} {full : List (List MV)} {b : MC} (hc : caps.mapM (frz 0 ((List.range h.length).filter fun i => !(caps.flatMap (MV.ids h 6)).contains i) h 8) = some cs) (hn : cs.length + 1 ≤ n)
    (hE : EfI O N n b (argsL 0 (cs.take q ++ [.yld] ++ cs.drop q)) [] 0 [] false (finI full)) (hcl : (full.all fun x => x.all MV.cl) = true) : itM O N ⟨n, [], b⟩ q caps h = some full := by
  have hlen : (cs.take q ++ [MV.yld] ++ cs.drop q).length = cs.length + 1 := by simp; omega
  obtain ⟨outs, h1, h2⟩ := hE.run (cs.take q ++ [.yld] ++ cs.drop q ++ List.replicate (n - (cs.length + 1)) (.lit undef)) ⟨by rw [List.length_append, hlen, List.length_replicate]; omega, fun t v ht => by
    obtain ⟨_, h1⟩ := look_args _ _ _ _ ht
    rw [Nat.sub_zero] at h1
    have hl := (List.getElem?_eq_some_iff.1 h1).1
    rw [List.getD_eq_getElem?_getD, List.getElem?_append_left hl, h1]
    rfl⟩
  have h3 := evI_one _ _ _ h1
  simp only [liveI, Bool.false_eq_true, if_false] at h3
  have h4 : (outs.all fun o => outX o.1) = true := List.all_eq_true.2 fun o ho => by obtain ⟨A', _, h5⟩ := h2 o ho; exact h5.1
  obtain ⟨o, h5⟩ := List.length_eq_one_iff.1 h3
  have h6 : o ∈ outs.filter fun o => !o.2.stop := by rw [h5]; simp
  obtain ⟨h7, h8⟩ := List.mem_filter.1 h6
  obtain ⟨A', _, h9⟩ := h2 o h7
  have h10 : o.2.xs = full := h9.2 (by simpa using h8)
  unfold itM
  simp only [hc, h1, h4, if_true, h5, h10, hcl]

/-- Slots that a round sets. -/
def putA : Sl → List Nat → List MV → Sl
  | A, p :: ps, v :: vs => putA ((p, v) :: A) ps vs
  | A, _, _ => A
theorem SRel.putsA : ∀ {ps : List Nat} {vs : List MV} {A : Sl} {s : List MV}, SRel n A s → (ps.all fun p => Nat.blt p n) = true → SRel n (putA A ps vs) (putAll s ps vs)
  | [], vs, A, s, hs, _ => by cases vs <;> exact hs
  | p :: ps, [], A, s, hs, _ => hs
  | p :: ps, v :: vs, A, s, hs, hp => by
    simp only [List.all_cons, Bool.and_eq_true] at hp
    show SRel n (putA ((p, v) :: A) ps vs) (Go.Proofs.Ytgjpdjihjphbdaa.putAll (s.set p v) ps vs)
    exact SRel.putsA (hs.put (by simpa [Nat.blt_eq] using hp.1) v) hp.2
end

section
variable {O : Oracle} {I : Iter} {N n : Nat} {lk : Nat → Bool} {A : Sl} {h : MHeap} {Q : MX2 → Sl → MHeap → Prop}
inductive preQ (O : Oracle) (I : Iter) (N n : Nat) (lk : Nat → Bool) (b : MC) (R : MX2 → Sl → MHeap → Prop) : MX2 → Sl → MHeap → Prop
  | normal (A : Sl) (h : MHeap) : Ef O I N n lk b A h R → preQ O I N n lk b R .normal A h
inductive rfQ (A0 : Sl) (R : MHeap → Prop) (Q : MX2 → Sl → MHeap → Prop) : MX2 → Sl → MHeap → Prop
  | normal (A : Sl) (h : MHeap) : R h → rfQ A0 R Q .normal A h
  | ret (A : Sl) (h : MHeap) : Q .ret A0 h → rfQ A0 R Q .ret A h
  | exit (id : Nat) (A : Sl) (h : MHeap) : Q (.exit id) A0 h → rfQ A0 R Q (.exit id) A h
/-- What the head of a loop leaves of memory: all of it, a part, all of it as something speaks of what is beyond. -/
inductive HeadIs (keep : List Nat) (m : Nat) (A : Sl) (h : MHeap) : MHeap → Prop
  | all : h.length ≤ m → HeadIs keep m A h h
  | cut : (∀ t ∈ keep, ∃ v, look A t = some v ∧ v.lt m = true) → hltL m (h.take m) = true → HeadIs keep m A h (h.take m)
  | slot (t : Nat) (v : MV) : t ∈ keep → look A t = some v → v.lt m = false → HeadIs keep m A h h
  | cell : hltL m (h.take m) = false → HeadIs keep m A h h
theorem headM_is {keep : List Nat} {m : Nat} {s : List MV} {h1 : MHeap} (hs : SRel n A s) (hn : keep.all (fun t => Nat.blt t n) = true) (hh : HeadIs keep m A h h1) : headM keep m ⟨s, h⟩ = ⟨keepS keep 0 s, h1⟩ := by
  cases hh with
  | all hl => unfold headM; dsimp only; rw [if_pos hl]
  | cut h1 h2 => exact headM_take hs (.inr ⟨h1, h2⟩)
  | slot t v ht hv hl =>
    unfold headM
    dsimp only
    split
    · rfl
    · rw [if_neg]
      intro hc
      rw [Bool.and_eq_true] at hc
      have htn : t < n := by have := List.all_eq_true.1 hn t ht; simpa [Nat.blt_eq] using this
      have hl1 : t < s.length := by rw [hs.len]; exact htn
      have e1 := hs.get t v hv
      have h3 : (keepS keep 0 s)[t]? = some v := by
        rw [keepS_get', List.getElem?_eq_getElem hl1]
        rw [List.getD_eq_getElem?_getD, List.getElem?_eq_getElem hl1] at e1
        simp only [Option.getD_some] at e1
        simp [ht, e1]
      have := ltL_iff'.1 hc.1 v (List.mem_of_getElem? h3)
      rw [hl] at this
      cases this
  | cell h2 =>
    unfold headM
    dsimp only
    split
    · rfl
    · rw [if_neg]
      rw [h2]
      simp
/-- A range over an iterator: hp tells memory behind i rounds, hq memory at the head of a round; slots are as before. -/
theorem ef_rf {α : Type} {keep : List Nat} {f : MX} {ps : List Nat} {pa b : MC} {g k : Nat} {caps : List MV} {xs : List (List MV)} {ids : List Nat} (Inv : Nat → α → Prop) (B : Sl) (hp hq : α → MHeap) (a0 : α)
    (hf : XV A f (.fn g k caps)) (hI : I g k caps h = some xs) (hl : (xs.all fun x => x.length == ps.length) = true) (hids : caps.flatMap (MV.ids h 6) = ids) (hB : Hold A B) (hk : (B.map (·.1)).all (fun t => keep.contains t) = true) (hps : (ps.all fun p => Nat.blt p n) = true)
    (hkn : keep.all (fun t => Nat.blt t n) = true) (h0 : Inv 0 a0) (hH : hp a0 = h) (hh : ∀ i a, Inv i a → HeadIs keep h.length A (hp a) (hq a))
    (hb : ∀ i a x, xs[i]? = some x → Inv i a → Ef O I N n (fun id => lk id || ids.contains id) pa (putA B ps x) (hq a) (preQ O I N n (fun id => lk id || ids.contains id) b (rfQ A (fun h' => ∃ a', Inv (i + 1) a' ∧ h' = hp a') Q)))
    (hQ : ∀ a, Inv xs.length a → Q .normal A (hp a)) : Ef O I N n lk (.rf keep f ps pa b) A h Q := .mk fun s hs => by
  subst hids
  obtain ⟨F, hF⟩ : ∃ F : List MV → MHeap → Option (MX2 × MHeap), F = (fun x h' => match evC O I N pa (fun id => lk id || (caps.flatMap (MV.ids h 6)).contains id) ⟨putAll (headM keep h.length ⟨s, h'⟩).s ps x, (headM keep h.length ⟨s, h'⟩).h⟩ with
          | some (.normal, st2) => match evC O I N b (fun id => lk id || (caps.flatMap (MV.ids h 6)).contains id) st2 with
            | some (y, st3) => some (y, st3.h)
            | none => none
          | _ => none) := ⟨_, rfl⟩
  have key : ∀ (ys : List (List MV)) (i : Nat) (a : α), xs.drop i = ys → i ≤ xs.length → Inv i a → ∃ x h', overH F ys (hp a) = some (x, h') ∧ Q x A h' := by
    intro ys
    induction ys with
    | nil =>
      intro i a hd hi hI
      have : i = xs.length := by
        have := congrArg List.length hd
        simp at this
        omega
      subst this
      exact ⟨_, _, rfl, hQ a hI⟩
    | cons y ys ih =>
      intro i a hd hi hIa
      have hy : xs[i]? = some y := by
        have : (xs.drop i)[0]? = some y := by rw [hd]; rfl
        rw [List.getElem?_drop] at this
        simpa using this
      have hd' : xs.drop (i + 1) = ys := by
        rw [← List.tail_drop, hd]; rfl
      have hlt := (List.getElem?_eq_some_iff.1 hy).1
      have e1 := headM_is hs hkn (hh i a hIa)
      have hsB : SRel n B (keepS keep 0 s) := ⟨by rw [keepS_len', hs.len], fun t v ht => by
        have hmem : t ∈ keep := by
          have := look_mem ht
          simpa using List.all_eq_true.1 hk t this
        rw [keepS_getD hmem]
        exact hs.get t v (hB.sub t v ht)⟩
      obtain ⟨x1, s1, h1, j1, A1, j2, j3⟩ := (hb i a y hy hIa).run _ (hsB.putsA (vs := y) hps)
      cases j3 with
      | normal _ _ j3 =>
        obtain ⟨x2, s2, h2, m1, A2, m2, m3⟩ := j3.run s1 j2
        have e2 : F y (hp a) = some (x2, h2) := by
          rw [hF]
          dsimp only
          rw [e1]
          simp only [j1, m1]
        cases m3 with
        | normal _ _ m3 =>
          obtain ⟨a', n1, rfl⟩ := m3
          obtain ⟨x, h', o1, o2⟩ := ih (i + 1) a' hd' (by omega) n1
          exact ⟨x, h', by simp only [overH, e2]; exact o1, o2⟩
        | ret _ _ m3 => exact ⟨_, _, by simp only [overH, e2], m3⟩
        | exit id _ _ m3 => exact ⟨_, _, by simp only [overH, e2], m3⟩
  obtain ⟨x, h', k1, k2⟩ := key xs 0 a0 rfl (by omega) h0
  rw [hH] at k1
  refine ⟨x, s, h', ?_, A, hs, k2⟩
  simp only [evC, hs.x hf, hI, hl, if_true]
  rw [hF] at k1
  exact congrArg (Option.map fun r => (r.1, (⟨s, r.2⟩ : MSt))) k1
theorem ids_lt0 {h : MHeap} : ∀ (f : Nat) (v : MV), v.lt 0 = true → MV.ids h f v = []
  | 0, v, _ => rfl
  | f + 1, v, hv => by
    have key : ∀ cs : List MV, ltL 0 cs = true → cs.flatMap (MV.ids h f) = [] := fun cs hc => by
      rw [List.flatMap_eq_nil_iff]
      intro c hcm
      exact ids_lt0 f c (ltL_iff'.1 hc c hcm)
    cases v <;> simp only [MV.ids, MV.lt] at hv ⊢
    case agg cs => exact key cs hv
    case tup cs => exact key cs hv
    case sl cs => exact key cs hv
    case fn _ _ cs => exact key cs hv
    case rp e _ => exact ids_lt0 f e hv
    all_goals simp at hv
theorem idsL_lt0 {h : MHeap} {f : Nat} {vs : List MV} (hv : ltL 0 vs = true) : vs.flatMap (MV.ids h f) = [] := by
  rw [List.flatMap_eq_nil_iff]
  intro c hcm
  exact ids_lt0 f c (ltL_iff'.1 hv c hcm)
end
end Go.Proofs.Ytgjpdjihjphbdaa
