/- Chapter 9: shadows that have bodies, their volumes. -/
import Derived.Test.YtnmgpbihknjdjaaDoorMirrorProofsPd
set_option linter.unusedVariables false
set_option linter.unusedSimpArgs false
/- Iterators with open values: rules; ranges over them. -/
namespace Go.Proofs.YtnmgpbihknjdjaaDoor
open Go.RowKit
set_option linter.unusedVariables false
theorem bindL_all {α β : Type} {f : α → Option (List β)} {P : β → Prop} : ∀ {l : List α}, (∀ a ∈ l, ∃ r, f a = some r ∧ ∀ x ∈ r, P x) → ∃ m, bindL f l = some m ∧ ∀ x ∈ m, P x
 | [], _ => ⟨[], rfl, fun x hx => by cases hx⟩
 | a :: l, h => by
  obtain ⟨r, h1, h2⟩ := h a List.mem_cons_self
  obtain ⟨m, h3, h4⟩ := bindL_all (l := l) fun b hb => h b (List.mem_cons_of_mem _ hb)
  refine ⟨r ++ m, by simp only [bindL, h1, h3], fun x hx => ?_⟩
  rcases List.mem_append.1 hx with hx | hx
  ·exact h2 x hx
  ·exact h4 x hx
theorem bindL_cnt {α β : Type} {f : α → Option (List β)} {sa : α → Bool} {sb : β → Bool} (hf : ∀ a r, f a = some r → (r.filter fun x => !sb x).length = if sa a then 0 else 1) :
  ∀ (l : List α) (m : List β), bindL f l = some m → (m.filter fun x => !sb x).length = (l.filter fun x => !sa x).length
 | [], m, h => by simp only [bindL, Option.some.injEq] at h; subst h; rfl
 | a :: l, m, h => by
  simp only [bindL] at h
  split at h
  case h_2 => cases h
  rename_i r hr
  split at h
  case h_2 => cases h
  rename_i m' hm
  cases h
  have h1 := hf a r hr
  have h2 := bindL_cnt hf l m' hm
  rw [List.filter_append, List.length_append, h1, h2, List.filter_cons]
  cases sa a <;> simp <;> omega
abbrev liveI (l : List (MX2 × ISt)) : Nat := (l.filter fun o => !o.2.stop).length
theorem contI_one {f : ISt → Option (List (MX2 × ISt))} (hf : ∀ st outs, f st = some outs → liveI outs = if st.stop then 0 else 1) (p : MX2 × ISt) (outs : List (MX2 × ISt)) (h : contI f p = some outs) : liveI outs = if p.2.stop then 0 else 1 := by
 obtain ⟨x, st⟩ := p
 cases x with
 | normal => exact hf _ _ h
 | exit id =>
  simp only [contI, Option.some.injEq] at h
  subst h
  simp only [liveI, List.filter_cons, List.filter_nil]
  cases st.stop <;> rfl
 | ret =>
  simp only [contI, Option.some.injEq] at h
  subst h
  simp only [liveI, List.filter_cons, List.filter_nil]
  cases st.stop <;> rfl
theorem roundsI_one {f : ISt → Option (List (MX2 × ISt))} (hf : ∀ st outs, f st = some outs → liveI outs = if st.stop then 0 else 1) : ∀ n st outs, roundsI f n st = some outs → liveI outs = if st.stop then 0 else 1 := by
 intro n
 induction n with
 | zero => intro st outs h; simp [roundsI] at h
 | succ n ih =>
  intro st outs h
  simp only [roundsI] at h
  split at h
  case h_2 => cases h
  rename_i l hl
  have := bindL_cnt (sa := fun p : MX2 × ISt => p.2.stop) (sb := fun p : MX2 × ISt => p.2.stop) (contI_one ih) l outs h
  exact this.trans (hf _ _ hl)
theorem evGI_one {O : Oracle} {o : GO} {st : ISt} {l : List ISt} (h : evGI O o st = some l) : (l.filter fun s => !s.stop).length = if st.stop then 0 else 1 := by
 unfold evGI at h
 split at h
 ·split at h
  case isFalse => cases h
  rename_i hs
  cases h
  rw [hs.1]
  rfl
 ·rw [Option.map_eq_some_iff] at h
  obtain ⟨st', _, rfl⟩ := h
  simp only [List.filter_cons, List.filter_nil]
  cases st.stop <;> rfl
theorem evRI_one {O : Oracle} : ∀ (gl : List GO) (st : ISt) (l : List ISt), evRI O gl st = some l → (l.filter fun s => !s.stop).length = if st.stop then 0 else 1
 | [], st, l, h => by
  simp only [evRI, Option.some.injEq] at h
  subst h
  simp only [List.filter_cons, List.filter_nil]
  cases st.stop <;> rfl
 | o :: gl, st, l, h => by
  simp only [evRI] at h
  split at h
  case h_2 => cases h
  rename_i l1 h1
  exact (bindL_cnt (sa := ISt.stop) (sb := ISt.stop) (evRI_one gl) l1 l h).trans (evGI_one h1)
theorem evI_one {O : Oracle} {N : Nat} : ∀ (mc : MC) (st : ISt) (outs : List (MX2 × ISt)), evI O N mc st = some outs → liveI outs = if st.stop then 0 else 1 := by
 have one : ∀ (x : MX2) (st : ISt), liveI [(x, st)] = if st.stop then 0 else 1 := fun x st => by
  simp only [liveI, List.filter_cons, List.filter_nil]
  cases st.stop <;> rfl
 intro mc
 induction mc with
 | skip => intro st outs h; simp only [evI, Option.some.injEq] at h; subst h; exact one _ _
 | ret => intro st outs h; simp only [evI, Option.some.injEq] at h; subst h; exact one _ _
 | exit id => intro st outs h; simp only [evI, Option.some.injEq] at h; subst h; exact one _ _
 | bad => intro st outs h; simp [evI] at h
 | rf => intro st outs h; simp [evI] at h
 | give => intro st outs h; simp [evI] at h
 | mr => intro st outs h; simp [evI] at h
 | mrk => intro st outs h; simp [evI] at h
 | reg gl =>
  intro st outs h
  simp only [evI] at h
  split at h
  ·rw [Option.map_eq_some_iff] at h
   obtain ⟨l, h1, rfl⟩ := h
   have := evRI_one gl st l h1
   rw [← this, liveI, List.filter_map, List.length_map]
   rfl
  ·rw [Option.map_eq_some_iff] at h
   obtain ⟨st', h1, rfl⟩ := h
   exact one _ _
 | seq a b iha ihb =>
  intro st outs h
  simp only [evI] at h
  split at h
  case h_2 => cases h
  rename_i l hl
  exact (bindL_cnt (sa := fun p : MX2 × ISt => p.2.stop) (sb := fun p : MX2 × ISt => p.2.stop) (contI_one ihb) l outs h).trans (iha _ _ hl)
 | cond c a b iha ihb =>
  intro st outs h
  simp only [evI] at h
  split at h
  case h_2 => cases h
  split at h
  ·exact iha _ _ h
  ·exact ihb _ _ h
 | block id b ih =>
  intro st outs h
  simp only [evI, Option.map_eq_some_iff] at h
  obtain ⟨l, h1, rfl⟩ := h
  rw [← ih _ _ h1, liveI, List.filter_map, List.length_map]
  congr 2
  funext o
  have : (leaveB id o).2 = o.2 := by unfold leaveB; split; split <;> rfl; rfl
  simp only [Function.comp_apply, this]
 | loop keep b ih =>
  intro st outs h
  simp only [evI] at h
  exact roundsI_one ih _ _ _ h
abbrev QI := MX2 → Sl → MHeap → Nat → List (List MV) → Bool → Prop
structure EfI (O : Oracle) (N n : Nat) (mc : MC) (A : Sl) (h : MHeap) (ln : Nat) (xs : List (List MV)) (stop : Bool) (Q : QI) : Prop where
 run : ∀ s, SRel n A s → ∃ outs, evI O N mc ⟨s, h, ln, xs, stop⟩ = some outs ∧ ∀ o ∈ outs, ∃ A', SRel n A' o.2.s ∧ Q o.1 A' o.2.h o.2.ln o.2.xs o.2.stop
structure EfY (O : Oracle) (N n : Nat) (gl : List GO) (A : Sl) (h : MHeap) (ln : Nat) (xs : List (List MV)) (stop : Bool) (Q : Sl → MHeap → Nat → List (List MV) → Bool → Prop) : Prop where
 run : ∀ s, SRel n A s → ∃ l, evRI O gl ⟨s, h, ln, xs, stop⟩ = some l ∧ ∀ o ∈ l, ∃ A', SRel n A' o.s ∧ Q A' o.h o.ln o.xs o.stop
section
variable {O : Oracle} {N n : Nat} {A : Sl} {h : MHeap} {ln : Nat} {xs : List (List MV)} {stop : Bool} {Q : QI}
inductive seqI (O : Oracle) (N n : Nat) (b : MC) (Q : QI) : QI
 | normal (A : Sl) (h : MHeap) (ln : Nat) (xs : List (List MV)) (stop : Bool) : EfI O N n b A h ln xs stop Q → seqI O N n b Q .normal A h ln xs stop
 | ret (A : Sl) (h : MHeap) (ln : Nat) (xs : List (List MV)) (stop : Bool) : Q .ret A h ln xs stop → seqI O N n b Q .ret A h ln xs stop
 | exit (id : Nat) (A : Sl) (h : MHeap) (ln : Nat) (xs : List (List MV)) (stop : Bool) : Q (.exit id) A h ln xs stop → seqI O N n b Q (.exit id) A h ln xs stop
inductive blockI (id : Nat) (Q : QI) : QI
 | normal (A : Sl) (h : MHeap) (ln : Nat) (xs : List (List MV)) (stop : Bool) : Q .normal A h ln xs stop → blockI id Q .normal A h ln xs stop
 | ret (A : Sl) (h : MHeap) (ln : Nat) (xs : List (List MV)) (stop : Bool) : Q .ret A h ln xs stop → blockI id Q .ret A h ln xs stop
 | here (A : Sl) (h : MHeap) (ln : Nat) (xs : List (List MV)) (stop : Bool) : Q .normal A h ln xs stop → blockI id Q (.exit id) A h ln xs stop
 | there (k : Nat) (A : Sl) (h : MHeap) (ln : Nat) (xs : List (List MV)) (stop : Bool) : k ≠ id → Q (.exit k) A h ln xs stop → blockI id Q (.exit k) A h ln xs stop
inductive loopI (R : Sl → MHeap → Nat → List (List MV) → Bool → Prop) (Q : QI) : QI
 | normal (A : Sl) (h : MHeap) (ln : Nat) (xs : List (List MV)) (stop : Bool) : R A h ln xs stop → loopI R Q .normal A h ln xs stop
 | ret (A : Sl) (h : MHeap) (ln : Nat) (xs : List (List MV)) (stop : Bool) : Q .ret A h ln xs stop → loopI R Q .ret A h ln xs stop
 | exit (id : Nat) (A : Sl) (h : MHeap) (ln : Nat) (xs : List (List MV)) (stop : Bool) : Q (.exit id) A h ln xs stop → loopI R Q (.exit id) A h ln xs stop
theorem efi_one {mc : MC} {x : MX2} (he : ∀ s, evI O N mc ⟨s, h, ln, xs, stop⟩ = some [(x, ⟨s, h, ln, xs, stop⟩)]) (hQ : Q x A h ln xs stop) : EfI O N n mc A h ln xs stop Q := .mk fun s hs =>
 ⟨_, he s, fun o ho => by rcases List.mem_cons.1 ho with rfl | ho; exact ⟨A, hs, hQ⟩; cases ho⟩
theorem efi_skip (hQ : Q .normal A h ln xs stop) : EfI O N n .skip A h ln xs stop Q := efi_one (fun s => rfl) hQ
theorem efi_ret (hQ : Q .ret A h ln xs stop) : EfI O N n .ret A h ln xs stop Q := efi_one (fun s => rfl) hQ
theorem efi_exit {id : Nat} (hQ : Q (.exit id) A h ln xs stop) : EfI O N n (.exit id) A h ln xs stop Q := efi_one (fun s => rfl) hQ
theorem efi_seq {a b : MC} (hE : EfI O N n a A h ln xs stop (seqI O N n b Q)) : EfI O N n (.seq a b) A h ln xs stop Q := .mk fun s hs => by
 obtain ⟨l, h1, h2⟩ := hE.run s hs
 simp only [evI, h1]
 refine bindL_all fun o ho => ?_
 obtain ⟨A', h3, h4⟩ := h2 o ho
 obtain ⟨x, s', h', ln', xs', stop'⟩ := o
 dsimp only at h3 h4
 cases h4 with
 | normal _ _ _ _ _ h4 => exact h4.run s' h3
 | ret _ _ _ _ _ h4 => exact ⟨_, rfl, fun o ho => by rcases List.mem_cons.1 ho with rfl | ho; exact ⟨A', h3, h4⟩; cases ho⟩
 | exit id _ _ _ _ _ h4 => exact ⟨_, rfl, fun o ho => by rcases List.mem_cons.1 ho with rfl | ho; exact ⟨A', h3, h4⟩; cases ho⟩
theorem efi_block {id : Nat} {b : MC} (hE : EfI O N n b A h ln xs stop (blockI id Q)) : EfI O N n (.block id b) A h ln xs stop Q := .mk fun s hs => by
 obtain ⟨l, h1, h2⟩ := hE.run s hs
 refine ⟨l.map (leaveB id), by simp only [evI, h1, Option.map_some], fun o ho => ?_⟩
 obtain ⟨p, hp, rfl⟩ := List.mem_map.1 ho
 obtain ⟨A', h3, h4⟩ := h2 p hp
 obtain ⟨x, s', h', ln', xs', stop'⟩ := p
 dsimp only at h3 h4
 cases h4 with
 | normal _ _ _ _ _ h4 => exact ⟨A', h3, h4⟩
 | ret _ _ _ _ _ h4 => exact ⟨A', h3, h4⟩
 | here _ _ _ _ _ h4 => exact ⟨A', by simpa [leaveB] using h3, by simpa [leaveB] using h4⟩
 | there k _ _ _ _ _ hk h4 => exact ⟨A', by simpa [leaveB, hk] using h3, by simpa [leaveB, hk] using h4⟩
theorem efi_condt {c : MX} {a b : MC} {t : Bool} (hc : XV A c (.lit (.bool t))) (ht : t = true) (hE : EfI O N n a A h ln xs stop Q) : EfI O N n (.cond c a b) A h ln xs stop Q := .mk fun s hs => by
 subst ht
 obtain ⟨l, h1, h2⟩ := hE.run s hs
 exact ⟨l, by simp only [evI, hs.x hc, if_true, h1], h2⟩
theorem efi_condf {c : MX} {a b : MC} {t : Bool} (hc : XV A c (.lit (.bool t))) (ht : t = false) (hE : EfI O N n b A h ln xs stop Q) : EfI O N n (.cond c a b) A h ln xs stop Q := .mk fun s hs => by
 subst ht
 obtain ⟨l, h1, h2⟩ := hE.run s hs
 exact ⟨l, by simp only [evI, hs.x hc, Bool.false_eq_true, if_false, h1], h2⟩
theorem efi_reg {gl : List GO} (hy : hasY gl = false) (hE : Ef O noI N n (lkn ln) (.reg gl) A h fun x A' h' => Q .normal A' h' ln xs stop) : EfI O N n (.reg gl) A h ln xs stop Q := .mk fun s hs => by
 obtain ⟨x, s', h', h1, A', h2, h3⟩ := hE.run s hs
 simp only [evC, Option.map_eq_some_iff] at h1
 obtain ⟨st, h4, h5⟩ := h1
 cases h5
 exact ⟨[(.normal, ⟨s', h', ln, xs, stop⟩)], by simp only [evI, hy, Bool.false_eq_true, if_false, h4, Option.map_some], fun o ho => by rcases List.mem_cons.1 ho with rfl | ho; exact ⟨A', h2, h3⟩; cases ho⟩
theorem efi_regy {gl : List GO} (hy : hasY gl = true) (hE : EfY O N n gl A h ln xs stop (Q .normal)) : EfI O N n (.reg gl) A h ln xs stop Q := .mk fun s hs => by
 obtain ⟨l, h1, h2⟩ := hE.run s hs
 refine ⟨l.map fun st => (.normal, st), by simp only [evI, hy, if_true, h1, Option.map_some], fun o ho => ?_⟩
 obtain ⟨p, hp, rfl⟩ := List.mem_map.1 ho
 exact h2 p hp
variable {QY : Sl → MHeap → Nat → List (List MV) → Bool → Prop}
theorem efy_nil (hQ : QY A h ln xs stop) : EfY O N n [] A h ln xs stop QY := .mk fun s hs => ⟨_, rfl, fun o ho => by rcases List.mem_cons.1 ho with rfl | ho; exact ⟨A, hs, hQ⟩; cases ho⟩
theorem isY_none {s : List MV} {op : MO} (h : isCv op = false) : isY s op = none := by
 cases op <;> first | rfl | (simp [isCv] at h)
theorem efy_op {g : GO} {gl : List GO} (hc : isCv g.op = false) (hE : Ef O noI N n (lkn ln) (.reg [g]) A h fun x A' h' => EfY O N n gl A' h' ln xs stop QY) : EfY O N n (g :: gl) A h ln xs stop QY := .mk fun s hs => by
 obtain ⟨x, s', h', h1, A', h2, h3⟩ := hE.run s hs
 simp only [evC, Option.map_eq_some_iff, evR] at h1
 obtain ⟨st, h4, h5⟩ := h1
 cases h5
 have h6 : evG (lkn ln) O g ⟨s, h⟩ = some ⟨s', h'⟩ := by
  cases hg : evG (lkn ln) O g ⟨s, h⟩ with
  | none => rw [hg] at h4; cases h4
  | some st => rw [hg] at h4; exact h4
 obtain ⟨l, h7, h8⟩ := h3.run s' h2
 have h9 : evGI O g ⟨s, h, ln, xs, stop⟩ = some [⟨s', h', ln, xs, stop⟩] := by
  unfold evGI
  rw [isY_none hc]
  simp only [h6, Option.map_some]
  split
  ·rename_i hh; cases hh
  ·rfl
 refine ⟨l, ?_, h8⟩
 simp only [evRI, h9, bindL, h7, List.append_nil]
theorem efy_yield {t : Nat} {gd : Option (Nat × Bool)} {x : MX} {as_ : List MX} {ms : List MV} {gl : List GO} (hg : match gd with | none => True | some (u, b) => look A u = some (.lit (.bool b))) (ht : Nat.blt t n = true) (hx : XV A x .yld) (ha : XVs A as_ ms) (hcl : ms.all MV.cl = true)
  (hT : EfY O N n gl ((t, .lit (.bool true)) :: A) h h.length (xs ++ [ms]) false QY) (hF : EfY O N n gl ((t, .lit (.bool false)) :: A) h h.length xs true QY) : EfY O N n (⟨gd, some t, .callv x as_⟩ :: gl) A h ln xs false QY := .mk fun s hs => by
 have hw : wantM s gd = some true := by
  cases gd with
  | none => rfl
  | some p => obtain ⟨u, b⟩ := p; dsimp only at hg; rw [wantM_x hs hg]; simp
 have hY : isY s (.callv x as_) = some ms := by simp only [isY, hs.x hx, hs.xs ha]
 have ht' : t < n := by simpa [Nat.blt_eq] using ht
 obtain ⟨l1, a1, a2⟩ := hT.run _ (hs.put ht' _)
 obtain ⟨l2, b1, b2⟩ := hF.run _ (hs.put ht' _)
 refine ⟨l1 ++ l2, ?_, fun o ho => ?_⟩
 ·simp only [evRI, evGI, hw, hY, hcl, and_self, if_true, bindL, putM, a1, b1, List.append_nil]
 ·rcases List.mem_append.1 ho with ho | ho
  ·exact a2 o ho
  ·exact b2 o ho
theorem efy_skip {t u : Nat} {b x : Bool} {op : MO} {gl : List GO} (hg : look A u = some (.lit (.bool x))) (hx : x = !b) (ht : Nat.blt t n = true) (hE : EfY O N n gl ((t, .lit undef) :: A) h ln xs stop QY) : EfY O N n (⟨some (u, b), some t, op⟩ :: gl) A h ln xs stop QY := .mk fun s hs => by
 have hw : wantM s (some (u, b)) = some false := by rw [wantM_x hs hg, hx]; cases b <;> rfl
 obtain ⟨l, a1, a2⟩ := hE.run _ (hs.put (show t < n by simpa [Nat.blt_eq] using ht) _)
 refine ⟨l, ?_, a2⟩
 have h9 : evGI O ⟨some (u, b), some t, op⟩ ⟨s, h, ln, xs, stop⟩ = some [⟨s.set t (.lit undef), h, ln, xs, stop⟩] := by
  simp only [evGI, hw, evG, Bool.false_eq_true, if_false, putM, Option.map_some]
 simp only [evRI, h9, bindL, a1, List.append_nil]
theorem efi_loop {α : Type} {keep : List Nat} {b : MC} (Inv : α → Prop) (hd : α → Sl) (hp : α → MHeap) (lf : α → Nat) (xf : α → List (List MV)) (ms : α → Nat) (a0 : α) (h0 : Inv a0) (hN : ms a0 < N) (hA : Hold A (hd a0)) (hH : hp a0 = h) (hL : lf a0 = ln) (hX : xf a0 = xs)
  (hb : ∀ a, Inv a → EfI O N n b (hd a) (hp a) (lf a) (xf a) false (loopI (fun A' h' ln' xs' stop' => stop' = false ∧ ∃ a', Inv a' ∧ ms a' < ms a ∧ Hold A' (hd a') ∧ h' = hp a' ∧ ln' = lf a' ∧ xs' = xf a') Q)) : EfI O N n (.loop keep b) A h ln xs false Q := .mk fun s hs => by
 have key : ∀ (M : Nat) (a : α) (A1 : Sl) (s1 : List MV), Inv a → ms a < M → SRel n A1 s1 → Hold A1 (hd a) →
   ∃ outs, roundsI (evI O N b) M ⟨s1, hp a, lf a, xf a, false⟩ = some outs ∧ ∀ o ∈ outs, ∃ A', SRel n A' o.2.s ∧ Q o.1 A' o.2.h o.2.ln o.2.xs o.2.stop := by
  intro M
  induction M with
  | zero => intro a A1 s1 _ hM; omega
  | succ M ih =>
   intro a A1 s1 hI hM hs1 hA1
   obtain ⟨l, h1, h2⟩ := (hb a hI).run s1 ⟨hs1.len, fun t v ht => hs1.get t v (hA1.sub t v ht)⟩
   simp only [roundsI, h1]
   refine bindL_all fun o ho => ?_
   obtain ⟨A', h3, h4⟩ := h2 o ho
   obtain ⟨x, s', h', ln', xs', stop'⟩ := o
   dsimp only at h3 h4
   cases h4 with
   | normal _ _ _ _ _ h4 =>
    obtain ⟨rfl, a', j1, j2, j3, rfl, rfl, rfl⟩ := h4
    exact ih a' A' s' j1 (by omega) h3 j3
   | ret _ _ _ _ _ h4 => exact ⟨_, rfl, fun o ho => by rcases List.mem_cons.1 ho with rfl | ho; exact ⟨A', h3, h4⟩; cases ho⟩
   | exit id _ _ _ _ _ h4 => exact ⟨_, rfl, fun o ho => by rcases List.mem_cons.1 ho with rfl | ho; exact ⟨A', h3, h4⟩; cases ho⟩
 subst hH hL hX
 exact key N a0 A s h0 hN hs hA
def finI (full : List (List MV)) : QI := fun x A h ln xs stop => outX x = true ∧ (stop = false → xs = full)
theorem finI_go {full : List (List MV)} {x : MX2} (hx : outX x = true) (he : xs = full) : finI full x A h ln xs false := ⟨hx, fun _ => he⟩
theorem finI_stop {full : List (List MV)} {x : MX2} (hx : outX x = true) : finI full x A h ln xs true := ⟨hx, fun h => by cases h⟩
theorem itM_of {q : Nat} {caps cs : List MV} {full : List (List MV)} {b : MC} (hc : caps.mapM (frz 0 ((List.range h.length).filter fun i => !(caps.flatMap (MV.ids h 6)).contains i) h 8) = some cs) (hn : cs.length + 1 ≤ n)
  (hE : EfI O N n b (argsL 0 (cs.take q ++ [.yld] ++ cs.drop q)) [] 0 [] false (finI full)) (hcl : (full.all fun x => x.all MV.cl) = true) : itM O N ⟨n, [], b⟩ q caps h = some full := by
 have hlen : (cs.take q ++ [MV.yld] ++ cs.drop q).length = cs.length + 1 := by simp; omega
 obtain ⟨outs, h1, h2⟩ := hE.run (cs.take q ++ [.yld] ++ cs.drop q ++ List.replicate (n - (cs.length + 1)) (.lit undef)) ⟨by rw [List.length_append, hlen, List.length_replicate]; omega, fun t v ht => by
  obtain ⟨_, h1⟩ := look_args _ _ _ _ ht
  rw [Nat.sub_zero] at h1
  have hl := (List.getElem?_eq_some_iff.1 h1).1
  rw [List.getD_eq_getElem?_getD, List.getElem?_append_left hl, h1]
  rfl⟩
 have h3 := evI_one _ _ _ h1
 simp only [liveI, Bool.false_eq_true, if_false] at h3
 have h4 : (outs.all fun o => outX o.1) = true := List.all_eq_true.2 fun o ho => by obtain ⟨A', _, h5⟩ := h2 o ho; exact h5.1
 obtain ⟨o, h5⟩ := List.length_eq_one_iff.1 h3
 have h6 : o ∈ outs.filter fun o => !o.2.stop := by rw [h5]; simp
 obtain ⟨h7, h8⟩ := List.mem_filter.1 h6
 obtain ⟨A', _, h9⟩ := h2 o h7
 have h10 : o.2.xs = full := h9.2 (by simpa using h8)
 unfold itM
 simp only [hc, h1, h4, if_true, h5, h10, hcl]
def putA : Sl → List Nat → List MV → Sl
 | A, p :: ps, v :: vs => putA ((p, v) :: A) ps vs
 | A, _, _ => A
theorem SRel.putsA : ∀ {ps : List Nat} {vs : List MV} {A : Sl} {s : List MV}, SRel n A s → (ps.all fun p => Nat.blt p n) = true → SRel n (putA A ps vs) (putAll s ps vs)
 | [], vs, A, s, hs, _ => by cases vs <;> exact hs
 | p :: ps, [], A, s, hs, _ => hs
 | p :: ps, v :: vs, A, s, hs, hp => by
  simp only [List.all_cons, Bool.and_eq_true] at hp
  show SRel n (putA ((p, v) :: A) ps vs) (Go.Proofs.YtnmgpbihknjdjaaDoor.putAll (s.set p v) ps vs)
  exact SRel.putsA (hs.put (by simpa [Nat.blt_eq] using hp.1) v) hp.2
end
section
variable {O : Oracle} {I : Iter} {N n : Nat} {lk : Nat → Bool} {A : Sl} {h : MHeap} {Q : MX2 → Sl → MHeap → Prop}
inductive preQ (O : Oracle) (I : Iter) (N n : Nat) (lk : Nat → Bool) (b : MC) (R : MX2 → Sl → MHeap → Prop) : MX2 → Sl → MHeap → Prop
 | normal (A : Sl) (h : MHeap) : Ef O I N n lk b A h R → preQ O I N n lk b R .normal A h
inductive rfQ (A0 : Sl) (R : MHeap → Prop) (Q : MX2 → Sl → MHeap → Prop) : MX2 → Sl → MHeap → Prop
 | normal (A : Sl) (h : MHeap) : R h → rfQ A0 R Q .normal A h
 | ret (A : Sl) (h : MHeap) : Q .ret A0 h → rfQ A0 R Q .ret A h
 | exit (id : Nat) (A : Sl) (h : MHeap) : Q (.exit id) A0 h → rfQ A0 R Q (.exit id) A h
inductive HeadIs (keep : List Nat) (m : Nat) (A : Sl) (h : MHeap) : MHeap → Prop
 | all : h.length ≤ m → HeadIs keep m A h h
 | cut : (∀ t ∈ keep, ∃ v, look A t = some v ∧ v.lt m = true) → hltL m (h.take m) = true → HeadIs keep m A h (h.take m)
 | slot (t : Nat) (v : MV) : t ∈ keep → look A t = some v → v.lt m = false → HeadIs keep m A h h
 | cell : hltL m (h.take m) = false → HeadIs keep m A h h
theorem headM_is {keep : List Nat} {m : Nat} {s : List MV} {h1 : MHeap} (hs : SRel n A s) (hn : keep.all (fun t => Nat.blt t n) = true) (hh : HeadIs keep m A h h1) : headM keep m ⟨s, h⟩ = ⟨keepS keep 0 s, h1⟩ := by
 cases hh with
 | all hl => unfold headM; dsimp only; rw [if_pos hl]
 | cut h1 h2 => exact headM_take hs (.inr ⟨h1, h2⟩)
 | slot t v ht hv hl =>
  unfold headM
  dsimp only
  split
  ·rfl
  ·rw [if_neg]
   intro hc
   rw [Bool.and_eq_true] at hc
   have htn : t < n := by have := List.all_eq_true.1 hn t ht; simpa [Nat.blt_eq] using this
   have hl1 : t < s.length := by rw [hs.len]; exact htn
   have e1 := hs.get t v hv
   have h3 : (keepS keep 0 s)[t]? = some v := by
    rw [keepS_get', List.getElem?_eq_getElem hl1]
    rw [List.getD_eq_getElem?_getD, List.getElem?_eq_getElem hl1] at e1
    simp only [Option.getD_some] at e1
    simp [ht, e1]
   have := ltL_iff'.1 hc.1 v (List.mem_of_getElem? h3)
   rw [hl] at this
   cases this
 | cell h2 =>
  unfold headM
  dsimp only
  split
  ·rfl
  ·rw [if_neg]
   rw [h2]
   simp
theorem ef_rf {α : Type} {keep : List Nat} {f : MX} {ps : List Nat} {pa b : MC} {g k : Nat} {caps : List MV} {xs : List (List MV)} {ids : List Nat} (Inv : Nat → α → Prop) (B : Sl) (hp hq : α → MHeap) (a0 : α)
  (hf : XV A f (.fn g k caps)) (hI : I g k caps h = some xs) (hl : (xs.all fun x => x.length == ps.length) = true) (hids : caps.flatMap (MV.ids h 6) = ids) (hB : Hold A B) (hk : (B.map (·.1)).all (fun t => keep.contains t) = true) (hps : (ps.all fun p => Nat.blt p n) = true)
  (hkn : keep.all (fun t => Nat.blt t n) = true) (h0 : Inv 0 a0) (hH : hp a0 = h) (hh : ∀ i a, Inv i a → HeadIs keep h.length A (hp a) (hq a))
  (hb : ∀ i a x, xs[i]? = some x → Inv i a → Ef O I N n (fun id => lk id || ids.contains id) pa (putA B ps x) (hq a) (preQ O I N n (fun id => lk id || ids.contains id) b (rfQ A (fun h' => ∃ a', Inv (i + 1) a' ∧ h' = hp a') Q)))
  (hQ : ∀ a, Inv xs.length a → Q .normal A (hp a)) : Ef O I N n lk (.rf keep f ps pa b) A h Q := .mk fun s hs => by
 subst hids
 obtain ⟨F, hF⟩ : ∃ F : List MV → MHeap → Option (MX2 × MHeap), F = (fun x h' => match evC O I N pa (fun id => lk id || (caps.flatMap (MV.ids h 6)).contains id) ⟨putAll (headM keep h.length ⟨s, h'⟩).s ps x, (headM keep h.length ⟨s, h'⟩).h⟩ with
         | some (.normal, st2) => match evC O I N b (fun id => lk id || (caps.flatMap (MV.ids h 6)).contains id) st2 with
           | some (y, st3) => some (y, st3.h)
           | none => none
         | _ => none) := ⟨_, rfl⟩
 have key : ∀ (ys : List (List MV)) (i : Nat) (a : α), xs.drop i = ys → i ≤ xs.length → Inv i a → ∃ x h', overH F ys (hp a) = some (x, h') ∧ Q x A h' := by
  intro ys
  induction ys with
  | nil =>
   intro i a hd hi hI
   have : i = xs.length := by
    have := congrArg List.length hd
    simp at this
    omega
   subst this
   exact ⟨_, _, rfl, hQ a hI⟩
  | cons y ys ih =>
   intro i a hd hi hIa
   have hy : xs[i]? = some y := by
    have : (xs.drop i)[0]? = some y := by rw [hd]; rfl
    rw [List.getElem?_drop] at this
    simpa using this
   have hd' : xs.drop (i + 1) = ys := by
    rw [← List.tail_drop, hd]; rfl
   have hlt := (List.getElem?_eq_some_iff.1 hy).1
   have e1 := headM_is hs hkn (hh i a hIa)
   have hsB : SRel n B (keepS keep 0 s) := ⟨by rw [keepS_len', hs.len], fun t v ht => by
    have hmem : t ∈ keep := by
     have := look_mem ht
     simpa using List.all_eq_true.1 hk t this
    rw [keepS_getD hmem]
    exact hs.get t v (hB.sub t v ht)⟩
   obtain ⟨x1, s1, h1, j1, A1, j2, j3⟩ := (hb i a y hy hIa).run _ (hsB.putsA (vs := y) hps)
   cases j3 with
   | normal _ _ j3 =>
    obtain ⟨x2, s2, h2, m1, A2, m2, m3⟩ := j3.run s1 j2
    have e2 : F y (hp a) = some (x2, h2) := by
     rw [hF]
     dsimp only
     rw [e1]
     simp only [j1, m1]
    cases m3 with
    | normal _ _ m3 =>
     obtain ⟨a', n1, rfl⟩ := m3
     obtain ⟨x, h', o1, o2⟩ := ih (i + 1) a' hd' (by omega) n1
     exact ⟨x, h', by simp only [overH, e2]; exact o1, o2⟩
    | ret _ _ m3 => exact ⟨_, _, by simp only [overH, e2], m3⟩
    | exit id _ _ m3 => exact ⟨_, _, by simp only [overH, e2], m3⟩
 obtain ⟨x, h', k1, k2⟩ := key xs 0 a0 rfl (by omega) h0
 rw [hH] at k1
 refine ⟨x, s, h', ?_, A, hs, k2⟩
 simp only [evC, hs.x hf, hI, hl, if_true]
 rw [hF] at k1
 exact congrArg (Option.map fun r => (r.1, (⟨s, r.2⟩ : MSt))) k1
theorem ids_lt0 {h : MHeap} : ∀ (f : Nat) (v : MV), v.lt 0 = true → MV.ids h f v = []
 | 0, v, _ => rfl
 | f + 1, v, hv => by
  have key : ∀ cs : List MV, ltL 0 cs = true → cs.flatMap (MV.ids h f) = [] := fun cs hc => by
   rw [List.flatMap_eq_nil_iff]
   intro c hcm
   exact ids_lt0 f c (ltL_iff'.1 hc c hcm)
  cases v <;> simp only [MV.ids, MV.lt] at hv ⊢
  case agg cs => exact key cs hv
  case tup cs => exact key cs hv
  case sl cs => exact key cs hv
  case fn _ _ cs => exact key cs hv
  case rm cs => exact key cs hv
  case rp e _ => exact ids_lt0 f e hv
  all_goals simp at hv
theorem idsL_lt0 {h : MHeap} {f : Nat} {vs : List MV} (hv : ltL 0 vs = true) : vs.flatMap (MV.ids h f) = [] := by
 rw [List.flatMap_eq_nil_iff]
 intro c hcm
 exact ids_lt0 f c (ltL_iff'.1 hv c hcm)
end
end Go.Proofs.YtnmgpbihknjdjaaDoor

/- Further rules of evaluation with open values: cases on what is undecided, loops with slots that stay. -/
namespace Go.Proofs.YtnmgpbihknjdjaaDoor
open Go.RowKit
set_option linter.unusedVariables false
section
variable {O : Oracle} {I : Iter} {N n : Nat} {lk : Nat → Bool} {A : Sl} {h : MHeap} {Q : MX2 → Sl → MHeap → Prop} {t : Nat} {os : List GO}
theorem ef_loopf {α : Type} {keep : List Nat} {b : MC} (Inv : α → Prop) (hd : α → Sl) (fx : Sl) (hp : α → MHeap) (ms : α → Nat) (a0 : α) (ks : List Nat) (hks : ∀ a, (hd a).map (·.1) = ks) (hA : Hold A (hd a0)) (hF : Hold A fx) (hk : (ks ++ fx.map (·.1)).all (fun t => keep.contains t) = true) (hH : hp a0 = h) (h0 : Inv a0) (hN : ms a0 < N)
  (hb : ∀ a, Inv a → Ef O I N n lk b (hd a ++ fx) (hp a) (loopQ (fun A' h' => ∃ a', Inv a' ∧ ms a' < ms a ∧ (Hold A' (hd a') ∧ Hold A' fx) ∧ headH keep h.length A' h' ∧ h'.take h.length = hp a') Q)) : Ef O I N n lk (.loop keep b) A h Q := by
 have happ : ∀ (A : Sl) (X Y : Sl), Hold A X → Hold A Y → Hold A (X ++ Y) := fun A X Y h1 h2 p hp => by
  rcases List.mem_append.1 hp with hp | hp
  ·exact h1 p hp
  ·exact h2 p hp
 refine ef_loop Inv (fun a => hd a ++ fx) hp ms a0 (ks ++ fx.map (·.1)) (fun a => by rw [List.map_append, hks a]) hk h0 hN (happ _ _ _ hA hF) hH fun a ha => ?_
 refine (hb a ha).mono fun x A1 h1 hq => ?_
 cases hq with
 | normal _ _ hq =>
  obtain ⟨a', j1, j2, ⟨j3, j4⟩, j5, j6⟩ := hq
  exact .normal _ _ ⟨a', j1, j2, happ _ _ _ j3 j4, j5, j6⟩
 | ret _ _ hq => exact .ret _ _ hq
 | exit id _ _ hq => exact .exit id _ _ hq
theorem ef_loopg {α : Type} {keep : List Nat} {b : MC} (Inv : α → Prop) (hd : α → Sl) (fx : Sl) (hp : α → MHeap) (ms : α → Nat) (a0 : α) (ks : List Nat) (hks : ∀ a, (hd a).map (·.1) = ks) (hA : Hold A (hd a0)) (hF : Hold A fx) (hk : (ks ++ fx.map (·.1)).all (fun t => keep.contains t) = true) (hkn : keep.all (fun t => Nat.blt t n) = true) (hH : hp a0 = h) (h0 : Inv a0) (hN : ms a0 < N)
  (hb : ∀ a, Inv a → Ef O I N n lk b (hd a ++ fx) (hp a) (loopQ (fun A' h' => ∃ a', Inv a' ∧ ms a' < ms a ∧ (Hold A' (hd a') ∧ Hold A' fx) ∧ HeadIs keep h.length A' h' (hp a')) Q)) : Ef O I N n lk (.loop keep b) A h Q := .mk fun s hs => by
 have happ : ∀ (A : Sl) (X Y : Sl), Hold A X → Hold A Y → Hold A (X ++ Y) := fun A X Y h1 h2 p hp => by
  rcases List.mem_append.1 hp with hp | hp
  ·exact h1 p hp
  ·exact h2 p hp
 have key : ∀ (M : Nat) (a : α) (A1 : Sl) (s1 : List MV) (h1 : MHeap), Inv a → ms a < M → SRel n A1 s1 → Hold A1 (hd a ++ fx) → HeadIs keep h.length A1 h1 (hp a) →
   ∃ x s' h', rounds (fun st' => evC O I N b lk (headM keep h.length st')) M ⟨s1, h1⟩ = some (x, ⟨s', h'⟩) ∧ ∃ A', SRel n A' s' ∧ Q x A' h' := by
  intro M
  induction M with
  | zero => intro a A1 s1 h1 _ hM; omega
  | succ M ih =>
   intro a A1 s1 h1 hI hM hs1 hA1 hh1
   have e1 := headM_is hs1 hkn hh1
   have hS : SRel n (hd a ++ fx) (keepS keep 0 s1) := ⟨by rw [keepS_len', hs1.len], fun t v ht => by
    have hmem : t ∈ keep := by
     have := look_mem ht
     rw [List.map_append, hks] at this
     simpa using List.all_eq_true.1 hk t this
    rw [keepS_getD hmem]
    exact hs1.get t v (hA1.sub t v ht)⟩
   obtain ⟨x, s', h', k1, A', k2, k3⟩ := (hb a hI).run (keepS keep 0 s1) hS
   cases k3 with
   | normal _ _ k3 =>
    obtain ⟨a', j1, j2, ⟨j3, j4⟩, j5⟩ := k3
    obtain ⟨x, s2, h2, i1, i2⟩ := ih a' A' s' h' j1 (by omega) k2 (happ _ _ _ j3 j4) j5
    exact ⟨x, s2, h2, by simp only [rounds, e1, k1]; exact i1, i2⟩
   | exit id _ _ k3 => exact ⟨_, s', h', by simp only [rounds, e1, k1], A', k2, k3⟩
   | ret _ _ k3 => exact ⟨_, s', h', by simp only [rounds, e1, k1], A', k2, k3⟩
 obtain ⟨x, s', h', k1, k2⟩ := key N a0 A s h h0 hN hs (happ _ _ _ hA hF) (by rw [hH]; exact .all (Nat.le_refl _))
 exact ⟨x, s', h', by simp only [evC]; exact k1, k2⟩
end
section
variable {O : Oracle} {N n : Nat} {A : Sl} {h : MHeap} {ln : Nat} {xs : List (List MV)} {stop : Bool} {Q : QI}
end
theorem takeF {l r : MHeap} {n : Nat} (hl : n = l.length) (h : l = r) : l.take n = r := by subst hl h; exact List.take_length
end Go.Proofs.YtnmgpbihknjdjaaDoor
namespace Go.Proofs.YtnmgpbihknjdjaaDoor
open Go.RowKit
end Go.Proofs.YtnmgpbihknjdjaaDoor

/- Chapter 9: bits counted, sums of columns. -/
namespace Go.Proofs.YtnmgpbihknjdjaaDoor
open Go.RowKit
set_option linter.unusedVariables false
def pcF : Nat → Nat → Nat
 | 0, _ => 0
 | f + 1, n => n % 2 + pcF f (n / 2)
abbrev pc (n : Nat) : Nat := pcF 6 n
theorem ones_z (k : Nat) : ∀ n : Nat, n < 32 → runZ MT (orA (k + 1)) (itA (k + 1)) 4000000 35 [.lit (.int .u64 n)] [] = some (I64 (pc n), [])
 | 0, _ => by kernel_rfl
 | 1, _ => by kernel_rfl
 | 2, _ => by kernel_rfl
 | 3, _ => by kernel_rfl
 | 4, _ => by kernel_rfl
 | 5, _ => by kernel_rfl
 | 6, _ => by kernel_rfl
 | 7, _ => by kernel_rfl
 | 8, _ => by kernel_rfl
 | 9, _ => by kernel_rfl
 | 10, _ => by kernel_rfl
 | 11, _ => by kernel_rfl
 | 12, _ => by kernel_rfl
 | 13, _ => by kernel_rfl
 | 14, _ => by kernel_rfl
 | 15, _ => by kernel_rfl
 | 16, _ => by kernel_rfl
 | 17, _ => by kernel_rfl
 | 18, _ => by kernel_rfl
 | 19, _ => by kernel_rfl
 | 20, _ => by kernel_rfl
 | 21, _ => by kernel_rfl
 | 22, _ => by kernel_rfl
 | 23, _ => by kernel_rfl
 | 24, _ => by kernel_rfl
 | 25, _ => by kernel_rfl
 | 26, _ => by kernel_rfl
 | 27, _ => by kernel_rfl
 | 28, _ => by kernel_rfl
 | 29, _ => by kernel_rfl
 | 30, _ => by kernel_rfl
 | 31, _ => by kernel_rfl
 | n + 32, h => absurd h (by omega)
theorem ones_c (k n : Nat) (hn : n < 32) (h : MHeap) : orA (k + 2) 35 [.lit (.int .u64 n)] h = some (I64 (pc n), h) := callL (args' := [.lit (.int .u64 n)]) rfl rfl (ones_z k n hn)
abbrev W64 (n : Int) : MV := .lit (.int .i64 (IntKind.i64.wrap n))
def bitI (n i : Nat) : Int := (n / 2 ^ i % 2 : Nat)
theorem plus_z (k : Nat) (a b c d e : Int) : ∀ n : Nat, n < 32 → runZ MT (orA k) (itA k) 4000000 36 [.agg [I64 a, I64 b, I64 c, I64 d, I64 e], I64 n] [] = some (.agg [W64 (a + bitI n 0), W64 (b + bitI n 1), W64 (c + bitI n 2), W64 (d + bitI n 3), W64 (e + bitI n 4)], [])
 | 0, _ => by kernel_rfl
 | 1, _ => by kernel_rfl
 | 2, _ => by kernel_rfl
 | 3, _ => by kernel_rfl
 | 4, _ => by kernel_rfl
 | 5, _ => by kernel_rfl
 | 6, _ => by kernel_rfl
 | 7, _ => by kernel_rfl
 | 8, _ => by kernel_rfl
 | 9, _ => by kernel_rfl
 | 10, _ => by kernel_rfl
 | 11, _ => by kernel_rfl
 | 12, _ => by kernel_rfl
 | 13, _ => by kernel_rfl
 | 14, _ => by kernel_rfl
 | 15, _ => by kernel_rfl
 | 16, _ => by kernel_rfl
 | 17, _ => by kernel_rfl
 | 18, _ => by kernel_rfl
 | 19, _ => by kernel_rfl
 | 20, _ => by kernel_rfl
 | 21, _ => by kernel_rfl
 | 22, _ => by kernel_rfl
 | 23, _ => by kernel_rfl
 | 24, _ => by kernel_rfl
 | 25, _ => by kernel_rfl
 | 26, _ => by kernel_rfl
 | 27, _ => by kernel_rfl
 | 28, _ => by kernel_rfl
 | 29, _ => by kernel_rfl
 | 30, _ => by kernel_rfl
 | 31, _ => by kernel_rfl
 | n + 32, h => absurd h (by omega)
theorem plus_c (k : Nat) (a b c d e : Int) (n : Nat) (hn : n < 32) (h : MHeap) : orA (k + 1) 36 [.agg [I64 a, I64 b, I64 c, I64 d, I64 e], I64 n] h = some (.agg [W64 (a + bitI n 0), W64 (b + bitI n 1), W64 (c + bitI n 2), W64 (d + bitI n 3), W64 (e + bitI n 4)], h) := by
 have := callA (k := k) (h := h) (args := [.agg [I64 a, I64 b, I64 c, I64 d, I64 e], I64 n]) (args' := [.agg [I64 a, I64 b, I64 c, I64 d, I64 e], I64 n]) rfl rfl (plus_z k a b c d e n hn) rfl rfl
 simpa [shV, sh1] using this
end Go.Proofs.YtnmgpbihknjdjaaDoor

/- Rows of integers. -/
namespace Go.Proofs.YtnmgpbihknjdjaaDoor
open Go.RowKit
set_option linter.unusedVariables false
theorem ltL_lits {n : Nat} {α : Type} {f : α → MV} (hf : ∀ a, (f a).lt n = true) : ∀ xs : List α, ltL n (xs.map f) = true
 | [] => rfl
 | x :: xs => by simp [ltL, hf x, ltL_lits hf xs]
theorem ltL_I (n : Nat) (xs : List Int) : ltL n (xs.map I64) = true := ltL_lits (fun _ => rfl) xs
theorem frz_arr {h : MHeap} {id i k g : Nat} {o : MObj} {es : List MV} (ho : h[id]? = some o) (hg : o.g = g) (hk : i + k ≤ o.es.length) (hl : ltL 0 o.es = true) (he : (o.es.drop i).take k = es) : frz 0 [] h 8 (.arr id i k g) = some (.sl es) := by
 simp [frz, MV.lt, ho, hg, hk, hl, he]
theorem frz_sl {h : MHeap} {es : List MV} (hl : ltL 0 es = true) : frz 0 [] h 8 (.sl es) = some (.sl es) := by
 simp [frz, MV.lt, hl]
def FzS (H : MHeap) (v : MV) (es : List MV) : Prop := v.slen = some es.length ∧ ∀ t, frz 0 [] (H ++ t) 8 v = some (.sl es)
theorem FzS.now {H : MHeap} {v : MV} {es : List MV} (h : FzS H v es) : frz 0 [] H 8 v = some (.sl es) := by have := h.2 []; rwa [List.append_nil] at this
theorem fz_arr {h : MHeap} {id k : Nat} {o : MObj} {es : List MV} (ho : h[id]? = some o) (hg : o.g = 0) (hk : k = es.length) (hl : ltL 0 es = true) (he : o.es = es) : FzS h (.arr id 0 k 0) es := by
 subst he hk
 refine ⟨rfl, fun t => frz_arr (o := o) ?_ hg (by simp) hl (by simp)⟩
 rw [List.getElem?_append_left (List.getElem?_eq_some_iff.1 ho).1]; exact ho
theorem mf_Ints : MT.mf 11 = some ⟨26, [(.tmp 4)], (.seq (.reg [gO 4 (.mv cF)]) (.seq (.seq (.reg [gO 6 (.mv (.s 0)), gO 7 (.len (.s 6)), gO 8 (.mv (.s 1)), gO 9 (.len (.s 8)), gO 10 (.bin .neq (.s 7) (.s 9))]) (.cond (.s 10) (.seq (.reg [gO 4 (.mv cF)]) .ret) .skip)) (.seq (.seq (.reg [gO 5 (.mv (cI 0))]) (.block 0 (.loop [5, 0, 1] (.seq (.seq (.reg [gO 11 (.mv (.s 5)), gO 12 (.mv (.s 0)), gO 13 (.len (.s 12)), gO 14 (.bin .lss (.s 11) (.s 13))]) (.cond (.s 14) .skip (.exit 0))) (.seq (.block 1 (.seq (.reg [gO 17 (.mv (.s 0)), gO 18 (.mv (.s 5)), gO 19 (.ia 1 (.s 17) (.s 18)), gO 20 (.ld none (.s 19)), gO 21 (.mv (.s 1)), gO 22 (.mv (.s 5)), gO 23 (.ia 1 (.s 21) (.s 22)), gO 24 (.ld none (.s 23)), gO 25 (.bin .neq (.s 20) (.s 24))]) (.cond (.s 25) (.seq (.reg [gO 4 (.mv cF)]) .ret) .skip))) (.reg [gO 15 (.mv (.s 5)), gO 16 (.bin .add (.s 15) (cI 1)), gO 5 (.mv (.s 16))])))))) (.seq (.reg [gO 4 (.mv cT)]) .ret))))⟩ := by kernel_rfl
theorem bInts_z (k : Nat) (xs ys : List Int) (hx : xs.length < 1000000) : runZ MT (orA k) (itA k) 4000000 11 [.sl (xs.map I64), .sl (ys.map I64)] [] = some (Bo (xs == ys), []) := by
 have hl1 : (xs.map I64).length = xs.length := by simp
 have hl2 : (ys.map I64).length = ys.length := by simp
 refine runZ_of mf_Ints (by simp) ?_
 simp only [argsL]
 by_cases hlen : xs.length = ys.length
 ·repeat (first | apply ef_seq | (apply ef_mv; exact rfl; exact rfl) | (apply ef_bin; (iterate 3 exact rfl); (exact cmp_f rfl (by simp only [cmpP]; omega))) | (apply ef_len; exact rfl; exact rfl; (exact rfl)) | apply ef_nil | apply seqQ.normal | apply ef_block | apply ef_skip | (apply ef_condf; exact rfl; (exact (rfl : false = false))))
  refine ef_loop (α := Nat) (fun i => i ≤ xs.length ∧ (xs == ys) = (xs.drop i == ys.drop i)) (fun i => [(5, I64 (i : Int)), (0, .sl (xs.map I64)), (1, .sl (ys.map I64))]) (fun _ => []) (fun i => xs.length - i) 0 [5, 0, 1] (fun _ => rfl) rfl ⟨by omega, by simp⟩ (by simp; omega) (by ((repeat (refine Hold.cons (by exact rfl) ?_)); exact Hold.nil)) rfl ?_
  rintro i ⟨hi, hz⟩
  by_cases hlt : i < xs.length
  ·have e1 := at_map I64 xs i hlt
   have e2 := at_map I64 ys i (by omega)
   have HD := Lib.hid (drop_at xs i hlt)
   have HD2 := Lib.hid (drop_at ys i (by omega))
   have HZ := Lib.hid hz
   clear hz
   generalize xs[i] = p at e1 HD
   generalize ys[i] = q at e2 HD2
   by_cases hpq : p = q
   ·subst hpq
    repeat (first | apply ef_seq | (apply ef_mv; exact rfl; exact rfl) | (apply ef_bin; (iterate 3 exact rfl); (first | exact cmp_t rfl (by first | exact rfl | (simp only [cmpP]; omega)) | exact cmp_f rfl (by simp only [cmpP]; omega) | ((with_reducible refine bin_add (wrap_of ?_ ?_)) <;> omega))) | (apply ef_len; exact rfl; exact rfl; (exact rfl)) | (apply ef_ldr; exact rfl; exact rfl; (exact rfl)) | (apply ef_ias; (iterate 3 exact rfl); (omega); assumption; exact rfl) | apply ef_nil | apply seqQ.normal | apply blockQ.normal | apply ef_block | apply ef_skip | (apply ef_condt; exact rfl; (exact (rfl : true = true))) | (apply ef_condf; exact rfl; (exact (rfl : false = false))))
    (refine loopQ.normal _ _ ⟨i + 1, ⟨hlt, by rw [HZ.out, HD.out, HD2.out]; simp⟩, (by first | (simp only; omega) | omega), by ((repeat (refine Hold.cons (by exact rfl) ?_)); exact Hold.nil), .inl (Nat.le_refl _), (by first | exact List.take_length | exact rfl)⟩)
   ·repeat (first | apply ef_seq | (apply ef_mv; exact rfl; exact rfl) | (apply ef_bin; (iterate 3 exact rfl); (exact cmp_t rfl (by first | exact rfl | (simp only [cmpP]; omega)))) | (apply ef_len; exact rfl; exact rfl; (exact rfl)) | (apply ef_ldr; exact rfl; exact rfl; (exact rfl)) | (apply ef_ias; (iterate 3 exact rfl); (omega); assumption; exact rfl) | apply ef_nil | apply seqQ.normal | apply loopQ.ret | apply ef_ret | apply seqQ.ret | apply blockQ.ret | apply ef_block | apply ef_skip | (apply ef_condt; exact rfl; (exact (rfl : true = true))))
    (refine fin1 rfl (by exact rfl) rfl ?_)
    rw [HZ.out, HD.out, HD2.out]
    simp [hpq]
  ·repeat (first | apply ef_seq | (apply ef_mv; exact rfl; exact rfl) | (apply ef_bin; (iterate 3 exact rfl); (exact cmp_f rfl (by simp only [cmpP]; omega))) | (apply ef_len; exact rfl; exact rfl; (exact rfl)) | apply ef_nil | apply seqQ.normal | apply loopQ.exit | apply ef_ret | apply ef_exit | apply seqQ.exit | apply blockQ.here | (apply ef_condf; exact rfl; (exact (rfl : false = false))))
   (refine fin1 rfl (by exact rfl) rfl ?_)
   rw [hz, List.drop_eq_nil_of_le (by omega), List.drop_eq_nil_of_le (by omega)]; rfl
 ·repeat (first | apply ef_seq | (apply ef_mv; exact rfl; exact rfl) | (apply ef_bin; (iterate 3 exact rfl); (exact cmp_t rfl (by first | exact rfl | (simp only [cmpP]; omega)))) | (apply ef_len; exact rfl; exact rfl; (exact rfl)) | apply ef_nil | apply seqQ.normal | apply ef_ret | apply seqQ.ret | (apply ef_condt; exact rfl; (exact (rfl : true = true))))
  (refine fin1 rfl (by exact rfl) rfl ?_)
  have : (xs == ys) = false := by
   rw [beq_eq_false_iff_ne]; exact fun e => hlen (by rw [e])
  rw [this]
theorem bInts_c (k : Nat) (xs ys : List Int) (h : MHeap) {v w : MV} (hx : xs.length < 1000000) (hv : frz 0 [] h 8 v = some (.sl (xs.map I64))) (hw : frz 0 [] h 8 w = some (.sl (ys.map I64))) {t : Bool} (ht : (xs == ys) = t) : orA (k + 1) 11 [v, w] h = some (Bo t, h) :=
 callL (args' := [.sl (xs.map I64), .sl (ys.map I64)]) (by simp [List.mapM_cons, hv, hw]) rfl (by rw [← ht]; exact bInts_z k xs ys hx)
theorem callTT {k f : Nat} {args args' : List MV} {h : MHeap} {a b : Value} (h1 : args.mapM (frz 0 [] h 8) = some args') (hT : tA f args' [] = none) (h2 : runZ MT (orA k) (itA k) 4000000 f args' [] = some (.tup [.lit a, .lit b], [])) : orA (k + 1) f args h = some (.tup [.lit a, .lit b], h) := by
 have := callA h1 hT h2 (by simp [okV, ok1, MV.lt, MV.pure]) rfl
 simpa [shV, sh1] using this
theorem frz_lt {h : MHeap} {m : MV} (hl : m.lt 0 = true) : frz 0 [] h 8 m = some m := by simp [frz, hl]
theorem frzL_lt {h : MHeap} : ∀ {ms : List MV}, ltL 0 ms = true → ms.mapM (frz 0 [] h 8) = some ms
 | [], _ => rfl
 | m :: ms, hl => by
  simp only [ltL, Bool.and_eq_true] at hl
  rw [List.mapM_cons, frz_lt hl.1, frzL_lt hl.2]; rfl
theorem fin_frz {x : MX2} {A : Sl} {h : MHeap} {t : Nat} {v v' : MV} (hx : outX x = true) (hv : look A t = some v) (hi : impIds 0 [v] = []) (hn : ∀ id i k g, v ≠ .arr id i k g) (hf : frz 0 [] h 8 v = some v') : FinF [.tmp t] v' [] x A h := by
 refine ⟨hx, [v], [v'], ⟨v, [], rfl, hv, rfl⟩, by rw [hi]; simp, ?_, rfl⟩
 rw [hi]
 cases v with
 | arr id i k g => exact absurd rfl (hn id i k g)
 | _ => simp [expL, hf]
theorem itA_of {k g q : Nat} {caps : List MV} {h : MHeap} {mf : MF} {xs : List (List MV)} (hmf : MT.mf g = some mf) (hsq : MT.sq g = true) (hi : itM (orA k) 4000000 mf q caps h = some xs) (hg : tI g q caps h = none := by rfl) : itA k g q caps h = some xs := by
 unfold itA orI
 simp only [hg, hsq, hmf, hi, if_true]
end Go.Proofs.YtnmgpbihknjdjaaDoor

/- Contracts of the program: the words of the chapter. -/
namespace Go.Proofs.YtnmgpbihknjdjaaDoor
open Go.RowKit
set_option linter.unusedVariables false
theorem mf_pwithin : MT.mf 34 = some mfW_l34 := mfW_q34
theorem within_c (k : Nat) (a b c : Int) (h : MHeap) {t : Bool} (ht : inB a b c = t) : orA (k + 1) 34 [I64 a, I64 b, I64 c] h = some (Bo t, h) := by
 refine callL (frz_lits [.int .i64 a, .int .i64 b, .int .i64 c]) rfl (runZ_of mf_pwithin (by simp) ?_)
 simp only [argsL, List.map_cons, List.map_nil]
 by_cases h1 : b ≤ a
 all_goals repeat (first | apply ef_seq | (apply ef_mv; exact rfl; exact rfl) | (apply ef_bin; (iterate 3 exact rfl); (first | exact cmp_t rfl (by first | exact rfl | (simp only [cmpP]; omega)) | exact cmp_f rfl (by simp only [cmpP]; omega) | exact rfl)) | (apply ef_gy; exact rfl; (exact (rfl : true = true))) | (apply ef_gn; exact rfl; (exact (rfl : false = false)); exact rfl) | (apply ef_pick; (iterate 3 exact rfl)) | apply ef_nil | apply seqQ.normal | apply ef_ret)
 ·(refine fin1 rfl (by exact rfl) rfl ?_)
  simp [inB, h1] at ht; simp [← ht]
 ·(refine fin1 rfl (by exact rfl) rfl ?_)
  simp [inB, h1] at ht; simp [← ht]
theorem mf_unless : MT.mf 33 = some mfW_l33 := mfW_q33
theorem unless_c (k : Nat) (b : Bool) (n : Int) (h : MHeap) {e : Int} (he : unl b n = e) : orA (k + 1) 33 [Bo b, I64 n] h = some (I64 e, h) := by
 subst he
 refine callL (frz_lits [.bool b, .int .i64 n]) rfl (runZ_of mf_unless (by simp) ?_)
 simp only [argsL, List.map_cons, List.map_nil]
 cases b
 all_goals repeat (first | apply ef_seq | (apply ef_mv; exact rfl; exact rfl) | apply ef_nil | apply seqQ.normal | apply ef_ret | apply seqQ.ret | apply ef_skip | (apply ef_condt; exact rfl; (exact (rfl : true = true))) | (apply ef_condf; exact rfl; (exact (rfl : false = false))))
 all_goals (refine fin1 rfl (by exact rfl) rfl ?_)
 all_goals rfl
theorem mf_first : MT.mf 32 = some mfW_l32 := mfW_q32
theorem first_z (k : Nat) (xs : List Int) (hx : xs.length ≤ 1000) : runZ MT (orA k) (itA k) 4000000 32 [.sl (xs.map I64)] [] = some (I64 (firstE xs), []) := by
 have hl : (MV.sl (xs.map I64)).slen = some xs.length := by simp [MV.slen]
 refine runZ_of mf_first (by simp) ?_
 simp only [argsL]
 repeat (first | apply ef_seq | (apply ef_mv; exact rfl; exact rfl) | (apply ef_len; exact rfl; exact rfl; (assumption)) | apply ef_nil | apply seqQ.normal | apply ef_block)
 refine ef_loop (α := Nat) (fun i => i ≤ xs.length ∧ firstE xs = firstE (xs.drop i)) (fun i => [(7, I64 (i : Int)), (6, I64 (xs.length : Int)), (5, .sl (xs.map I64))]) (fun _ => []) (fun i => xs.length - i) 0 [7, 6, 5] (fun _ => rfl) rfl ⟨by omega, rfl⟩ (by simp; omega) (by ((repeat (refine Hold.cons (by exact rfl) ?_)); exact Hold.nil)) rfl ?_
 rintro i ⟨hi, hz⟩
 by_cases hlt : i < xs.length
 ·have e1 := at_map I64 xs i hlt
  have HD := Lib.hid (drop_at xs i hlt)
  have HZ := Lib.hid hz
  clear hz
  generalize xs[i] = x at e1 HD
  by_cases h0 : x = 0
  ·subst h0
   repeat (first | apply ef_seq | (apply ef_mv; exact rfl; exact rfl) | (apply ef_bin; (iterate 3 exact rfl); (first | exact cmp_t rfl (by first | exact rfl | (simp only [cmpP]; omega)) | exact cmp_f rfl (by simp only [cmpP]; omega) | ((with_reducible refine bin_add (wrap_of ?_ ?_)) <;> omega))) | (apply ef_ldr; exact rfl; exact rfl; (exact rfl)) | (apply ef_ias; (iterate 3 exact rfl); (omega); assumption; exact rfl) | apply ef_nil | apply seqQ.normal | apply blockQ.normal | apply ef_block | apply ef_skip | (apply ef_condt; exact rfl; (exact (rfl : true = true))) | (apply ef_condf; exact rfl; (exact (rfl : false = false))))
   (refine loopQ.normal _ _ ⟨i + 1, ⟨hlt, by rw [HZ.out, HD.out]; simp [firstE]⟩, (by first | (simp only; omega) | omega), by ((repeat (refine Hold.cons (by exact rfl) ?_)); exact Hold.nil), .inl (Nat.le_refl _), (by first | exact List.take_length | exact rfl)⟩)
  ·repeat (first | apply ef_seq | (apply ef_mv; exact rfl; exact rfl) | (apply ef_bin; (iterate 3 exact rfl); (exact cmp_t rfl (by first | exact rfl | (simp only [cmpP]; omega)))) | (apply ef_ldr; exact rfl; exact rfl; (exact rfl)) | (apply ef_ias; (iterate 3 exact rfl); (omega); assumption; exact rfl) | apply ef_nil | apply seqQ.normal | apply loopQ.ret | apply ef_ret | apply seqQ.ret | apply blockQ.ret | apply ef_block | apply ef_skip | (apply ef_condt; exact rfl; (exact (rfl : true = true))))
   (refine fin1 rfl (by exact rfl) rfl ?_)
   rw [HZ.out, HD.out]; simp [firstE, h0]
 ·repeat (first | apply ef_seq | (apply ef_mv; exact rfl; exact rfl) | (apply ef_bin; (iterate 3 exact rfl); (exact cmp_f rfl (by simp only [cmpP]; omega))) | apply ef_nil | apply seqQ.normal | apply loopQ.exit | apply ef_ret | apply ef_exit | apply seqQ.exit | apply blockQ.here | (apply ef_condf; exact rfl; (exact (rfl : false = false))))
  (refine fin1 rfl (by exact rfl) rfl ?_)
  rw [hz, List.drop_eq_nil_of_le (by omega)]; rfl
theorem first_c (k : Nat) (xs : List Int) (h : MHeap) {v : MV} {e : Int} (hv : frz 0 [] h 8 v = some (.sl (xs.map I64))) (he : firstE xs = e) (hx : xs.length ≤ 1000 := by simp) : orA (k + 1) 32 [v] h = some (I64 e, h) :=
 callL (args' := [.sl (xs.map I64)]) (by simp [List.mapM_cons, hv]) rfl (by rw [← he]; exact first_z k xs hx)
theorem first2_c {k id : Nat} {a0 a1 e : Int} {h : MHeap} {o : MObj} (ho : h[id]? = some o) (hg : o.g = 0) (hes : o.es = [I64 a0, I64 a1]) (he : firstE [a0, a1] = e) : orA (k + 1) 32 [.arr id 0 2 0] h = some (I64 e, h) :=
 first_c k [a0, a1] h (fz_arr ho hg rfl rfl hes).now he
end Go.Proofs.YtnmgpbihknjdjaaDoor

/- Chapter 9: the sets of a row, as an iterator. -/
namespace Go.Proofs.YtnmgpbihknjdjaaDoor
open Go.RowKit
set_option linter.unusedVariables false
theorem at_endC (h : MHeap) (o : MObj) : (h ++ [o])[h.length]? = some o := by simp
theorem set_endC (h : MHeap) (o o' : MObj) : (h ++ [o]).set h.length o' = h ++ [o'] := by simp
section
variable {O : Oracle} {I : Iter} {N n : Nat} {lk : Nat → Bool} {A : Sl} {h : MHeap} {Q : MX2 → Sl → MHeap → Prop}
theorem ef_newst {t sz : Nat} {z v : MV} {x : MX} {os : List GO} (ht : Nat.blt t n = true) (hx : XV ((t, .ptr h.length 0 0 0) :: A) x v) (hk : v.sOk sz = true) (hlk : lk h.length = false) (hw : wrElem z 0 v = some v) (hE : Ef O I N n lk (.reg os) ((t, .ptr h.length 0 0 0) :: A) (h ++ [⟨0, false, z.cells.length, [v]⟩]) Q) :
  Ef O I N n lk (.reg (⟨none, some t, .new z⟩ :: ⟨none, none, .st sz (.s t) x⟩ :: os)) A h Q := by
 refine ef_new (ht := ht) ?_
 refine ef_st (o := ⟨0, false, z.cells.length, [z]⟩) hx hk (show look ((t, .ptr h.length 0 0 0) :: A) t = _ from look_here) (at_endC _ _) rfl hlk rfl hw ?_
 rw [set_endC]
 exact hE
end
abbrev encP (p : Int × Int) : MV := .agg [I64 p.1, I64 p.2]
abbrev encS (R C : List (Int × Int)) : MV := .agg [.sl (R.map encP), .sl (C.map encP)]
def rowOk (lo hi : Int) (s : Nat) : Bool := inB (pc s) lo hi
def rowSets (n : Nat) (lo hi : Int) : List Nat := (List.range (2 ^ n)).filter (rowOk lo hi)
theorem rowSets_succ (j : Nat) (lo hi : Int) : (List.range (j + 1)).filter (rowOk lo hi) = (List.range j).filter (rowOk lo hi) ++ if rowOk lo hi j then [j] else [] := by
 rw [List.range_succ, List.filter_append]
 congr 1
 simp only [List.filter_cons, List.filter_nil]
theorem shl_n : ∀ n : Nat, n ≤ 5 → shfI .shl .i64 1 (n : Int) = some (.int .i64 ((2 ^ n : Nat) : Int))
 | 0, _ => rfl
 | 1, _ => rfl
 | 2, _ => rfl
 | 3, _ => rfl
 | 4, _ => rfl
 | 5, _ => rfl
 | n + 6, h => absurd h (by omega)
theorem pow_le5 : ∀ n : Nat, n ≤ 5 → 2 ^ n ≤ 32
 | 0, _ => by decide
 | 1, _ => by decide
 | 2, _ => by decide
 | 3, _ => by decide
 | 4, _ => by decide
 | 5, _ => by decide
 | n + 6, h => absurd h (by omega)
abbrev setY (l : List Nat) : List (List MV) := l.map fun s : Nat => [I64 (s : Int)]
theorem mf_rows1 : MT.mf 41 = some ⟨35, [], (.seq (.reg [gO 6 (.fa 0 (.s 1)), gO 7 (.fa 1 (.s 6)), gO 8 (.ld none (.s 7)), gO 9 (.len (.s 8)), gO 10 (.shf .shl (cI 1) (.s 9)), gO 11 (.mv (cI 0))]) (.block 0 (.loop [11, 10, 1, 2, 0] (.seq (.reg [gO 12 (.bin .lss (.s 11) (.s 10))]) (.seq (.cond (.s 12) .skip (.exit 0)) (.seq (.block 1 (.seq (.reg [gO 13 (.mv (.s 11)), gO 4 (.mv (.s 13))]) (.seq (.reg [gO 14 (.fa 0 (.s 1)), gO 15 (.fa 0 (.s 14)), gO 16 (.ld none (.s 15)), gO 17 (.ld none (.s 2)), gO 18 (.ia 2 (.s 16) (.s 17)), gO 19 (.ld (some 2) (.s 18)), gO 5 (.new (.agg [(.lit (.int .i64 0)), (.lit (.int .i64 0))])), ⟨none, none, .st 2 (.s 5) (.s 19)⟩]) (.seq (.reg [gO 20 (.mv (.s 4)), gO 21 (.cv .u64 (.s 20)), gO 22 (.call 35 [.s 21]), gO 23 (.fa 0 (.s 5)), gO 24 (.ld none (.s 23)), gO 25 (.fa 1 (.s 5)), gO 26 (.ld none (.s 25)), gO 27 (.call 34 [.s 22, .s 24, .s 26]), gO 28 (.mv (.s 27)), ⟨some (28, true), some 29, .mv (.s 0)⟩, ⟨some (28, true), some 30, .mv (.s 4)⟩, ⟨some (28, true), some 31, .callv (.s 29) [.s 30]⟩, ⟨some (28, true), some 32, .un .not (.s 31)⟩, gO 33 (.pick (.s 28) (.s 32) cF)]) (.cond (.s 33) .ret .skip))))) (.reg [gO 34 (.bin .add (.s 11) (cI 1)), gO 11 (.mv (.s 34))])))))))⟩ := by kernel_rfl
theorem rows1_it (k : Nat) (R C : List (Int × Int)) (c : Nat) (r : Int × Int) (hC : C.length ≤ 5) (hc : R[c]? = some r) (h : MHeap) : itA (k + 2) 41 0 [.rp (encS R C) 0, .rp (I64 c) 0] h = some (setY (rowSets C.length r.1 r.2)) := by
 have hlt : (encS R C).lt 0 = true := by
  have hl : ∀ L : List (Int × Int), ltL 0 (L.map encP) = true := fun L => ltL_iff'.2 fun m hm => by obtain ⟨e, _, rfl⟩ := List.mem_map.1 hm; rfl
  simp only [MV.lt, ltL, hl, Bool.and_self]
 have hl1 : (MV.rp (encS R C) 0).lt 0 = true := hlt
 have hl2 : (MV.rp (I64 c) 0).lt 0 = true := rfl
 have hsh := shl_n C.length hC
 have hpw := pow_le5 C.length hC
 have hcl : (MV.sl (C.map encP)).slen = some C.length := by simp [MV.slen]
 have hrow : (R.map encP)[(c : Int).toNat]? = some (encP r) := by simp [hc]
 refine itA_of mf_rows1 (by kernel_rfl) (itM_of (cs := [.rp (encS R C) 0, .rp (I64 c) 0]) (by simp only [List.mapM_cons, List.mapM_nil, frz, hl1, hl2, if_true]; rfl) (by simp) ?_ ?_)
 ·show EfI _ _ _ _ (argsL 0 [.yld, .rp (encS R C) 0, .rp (I64 c) 0]) _ _ _ _ _
  simp only [argsL]
  repeat (first | apply efi_seq | apply efi_block | apply seqI.normal | (apply efi_reg; exact rfl) | (apply ef_mv; exact rfl; exact rfl) | (apply ef_len; exact rfl; exact rfl; (assumption)) | (apply ef_ldr; exact rfl; exact rfl; (exact rfl)) | (apply ef_far; exact rfl; exact rfl) | (apply ef_shf; (iterate 3 exact rfl); (assumption)) | apply ef_nil)
  refine efi_loop (α := Nat × MHeap × Nat) (fun a => a.1 ≤ 2 ^ C.length ∧ a.2.2 ≤ a.2.1.length) (fun a => [(11, I64 (a.1 : Int)), (10, I64 ((2 ^ C.length : Nat) : Int)), (1, .rp (encS R C) 0), (2, .rp (I64 c) 0), (0, .yld)]) (fun a => a.2.1) (fun a => a.2.2) (fun a => setY ((List.range a.1).filter (rowOk r.1 r.2))) (fun a => 2 ^ C.length - a.1) (0, [], 0) (by simp) (by simp; omega) (by ((repeat (refine Hold.cons (by exact rfl) ?_)); exact Hold.nil)) rfl rfl (by simp) ?_
  rintro ⟨j, Y, ln⟩ ⟨hj, hY⟩
  simp only at hj hY ⊢
  have hlk : lkn ln Y.length = false := by simp [lkn]; omega
  have hat : (Y ++ [(⟨0, false, 2, [encP r]⟩ : MObj)])[Y.length]? = some ⟨0, false, 2, [encP r]⟩ := at_endC _ _
  by_cases hlt2 : j < 2 ^ C.length
  ·have hw : IntKind.u64.wrap (j : Int) = (j : Int) := by rw [IntKind.wrap_u64]; omega
   generalize hP : C.length = nC at *
   cases hr : rowOk r.1 r.2 j
   ·have hr' : inB (pc j) r.1 r.2 = _ := hr
    repeat (first | apply efi_seq | apply efi_block | apply efi_skip | apply seqI.normal | apply blockI.normal | (apply efi_reg; exact rfl) | (apply efi_regy; exact rfl) | apply efy_nil | (apply efy_op; exact rfl) | (apply efy_skip; (iterate 3 exact rfl)) | (apply efi_condt; exact rfl; (exact rfl)) | (apply efi_condf; exact rfl; (exact rfl)) | (apply ef_mv; exact rfl; exact rfl) | (apply ef_bin; (iterate 3 exact rfl); (first | exact cmp_t rfl (by first | exact rfl | (simp only [cmpP]; omega)) | ((with_reducible refine bin_add (wrap_of ?_ ?_)) <;> omega))) | (apply ef_gn; exact rfl; (exact (rfl : false = false)); exact rfl) | (apply ef_pick; (iterate 3 exact rfl)) | (apply ef_ldr; exact rfl; exact rfl; (first | exact rd_2 rfl rfl | exact rfl)) | (apply ef_ldp; exact rfl; exact rfl; (assumption); exact rfl; (exact rfl); (exact rfl)) | (apply ef_ias; (iterate 3 exact rfl); (omega); assumption; exact rfl) | (apply ef_fap; exact rfl; exact rfl) | (apply ef_far; exact rfl; exact rfl) | (apply ef_cv; exact rfl; exact rfl; (assumption)) | (apply ef_newst; (iterate 3 exact rfl); (assumption); exact rfl) | apply ef_nil | (apply ef_call; exact rfl; ((repeat (apply XVs.cons; exact rfl)); exact XVs.nil); (with_reducible first | exact ones_c k _ (by omega) _ | exact within_c (k + 1) _ _ _ _ hr')))
    (refine loopI.normal _ _ _ _ _ ⟨rfl, (j + 1, _, ln), ⟨hlt2, by simp; omega⟩, (by first | (simp only; omega) | omega), by ((repeat (refine Hold.cons (by exact rfl) ?_)); exact Hold.nil), rfl, rfl, (by rw [rowSets_succ, hr]; simp)⟩)
   ·have hr' : inB (pc j) r.1 r.2 = _ := hr
    repeat (first | apply efi_seq | apply efi_block | apply efi_skip | apply seqI.normal | (apply efi_reg; exact rfl) | (apply efi_regy; exact rfl) | (apply efy_op; exact rfl) | (apply efi_condt; exact rfl; (exact rfl)) | (apply ef_mv; exact rfl; exact rfl) | (apply ef_bin; (iterate 3 exact rfl); (exact cmp_t rfl (by first | exact rfl | (simp only [cmpP]; omega)))) | (apply ef_gy; exact rfl; (exact (rfl : true = true))) | (apply ef_ldr; exact rfl; exact rfl; (first | exact rd_2 rfl rfl | exact rfl)) | (apply ef_ldp; exact rfl; exact rfl; (assumption); exact rfl; (exact rfl); (exact rfl)) | (apply ef_ias; (iterate 3 exact rfl); (omega); assumption; exact rfl) | (apply ef_fap; exact rfl; exact rfl) | (apply ef_far; exact rfl; exact rfl) | (apply ef_cv; exact rfl; exact rfl; (assumption)) | (apply ef_newst; (iterate 3 exact rfl); (assumption); exact rfl) | apply ef_nil | (apply ef_call; exact rfl; ((repeat (apply XVs.cons; exact rfl)); exact XVs.nil); (with_reducible first | exact ones_c k _ (by omega) _ | exact within_c (k + 1) _ _ _ _ hr')))
    (apply efy_yield; (· exact rfl); (· exact rfl); (· exact rfl); (· ((repeat (apply XVs.cons; exact rfl)); exact XVs.nil)); (· exact rfl))
    ·repeat (first | apply efi_skip | apply seqI.normal | apply blockI.normal | (apply efi_reg; exact rfl) | apply efy_nil | (apply efy_op; exact rfl) | (apply efi_condf; exact rfl; (exact rfl)) | (apply ef_mv; exact rfl; exact rfl) | (apply ef_bin; (iterate 3 exact rfl); (((with_reducible refine bin_add (wrap_of ?_ ?_)) <;> omega))) | (apply ef_gy; exact rfl; (exact (rfl : true = true))) | (apply ef_pick; (iterate 3 exact rfl)) | (apply ef_notT; exact rfl; exact rfl) | apply ef_nil)
     (refine loopI.normal _ _ _ _ _ ⟨rfl, (j + 1, _, _), ⟨hlt2, by simp⟩, (by first | (simp only; omega) | omega), by ((repeat (refine Hold.cons (by exact rfl) ?_)); exact Hold.nil), rfl, rfl, (by rw [rowSets_succ, hr]; simp)⟩)
    ·repeat (first | apply efi_ret | apply seqI.normal | apply seqI.ret | apply blockI.ret | apply efy_nil | (apply efy_op; exact rfl) | (apply efi_condt; exact rfl; (exact rfl)) | apply loopI.ret | (apply ef_gy; exact rfl; (exact (rfl : true = true))) | (apply ef_pick; (iterate 3 exact rfl)) | (apply ef_notF; exact rfl; exact rfl) | apply ef_nil)
     exact finI_stop rfl
  ·obtain rfl : j = 2 ^ C.length := by omega
   repeat (first | apply efi_seq | apply efi_exit | apply seqI.normal | apply seqI.exit | apply blockI.here | (apply efi_reg; exact rfl) | (apply efi_condf; exact rfl; (exact rfl)) | apply loopI.exit | (apply ef_bin; (iterate 3 exact rfl); (exact cmp_f rfl (by simp only [cmpP]; omega))) | apply ef_nil)
   exact finI_go rfl rfl
 ·rw [List.all_eq_true]
  intro x hx
  obtain ⟨p, _, rfl⟩ := List.mem_map.1 hx
  rfl
end Go.Proofs.YtnmgpbihknjdjaaDoor

/- More rules of evaluation: cuts with a state, rows of integers. -/
namespace Go.Proofs.YtnmgpbihknjdjaaDoor
open Go.RowKit
section
variable {O : Oracle} {I : Iter} {N n : Nat} {lk : Nat → Bool} {A : Sl} {h : MHeap} {Q : MX2 → Sl → MHeap → Prop}
end
theorem ok_of {h : MHeap} {id g sz : Nat} {o : MObj} (ho : h[id]? = some o) (hg : o.g = g) (hz : o.sz = sz) : MHeap.ok h id g sz = true := by
 subst hg hz; simp [MHeap.ok, ho]
theorem fin_al {x : MX2} {A : Sl} {h : MHeap} {t u id k g : Nat} {o : MObj} {es : List MV} {sz : Nat} {nl : Bool} {v : Value} (hx : outX x = true) (hv : look A t = some (.arr id 0 k g)) (hw : look A u = some (.lit v)) (ho : h[id]? = some o) (hg : o.g = g) (hk : k = es.length) (hl : ltL 0 es = true) (he : o.es = es) (hz : o.sz = sz) (hn : o.nl = nl) :
  FinF [.tmp t, .tmp u] (.tup [.arr 0 0 k 0, .lit v]) [⟨0, nl, sz, es⟩] x A h := by
 subst hz hn he hk
 refine ⟨hx, [.arr id 0 o.es.length g, .lit v], [.arr 0 0 o.es.length 0, .lit v], ⟨_, _, rfl, hv, _, [], rfl, hw, rfl⟩, ?_, ?_, rfl⟩
 ·simp [impIds]
 ·simp [expL, ho, hg, hl, frz, MV.lt]
end Go.Proofs.YtnmgpbihknjdjaaDoor

/- Rows that are read only. -/
namespace Go.Proofs.YtnmgpbihknjdjaaDoor
open Go.RowKit
set_option linter.unusedVariables false
inductive SlI : MV → List Int → Prop
 | sl (l : List Int) : SlI (.sl (l.map I64)) l
 | nil : SlI (.lit (.slice none 0 0)) []
theorem SlI.lt {v : MV} {l : List Int} (h : SlI v l) : v.lt 0 = true := by
 cases h with
 | sl l => simp [MV.lt, ltL_I]
 | nil => rfl
theorem SlI.frz {v : MV} {l : List Int} (h : SlI v l) (H : MHeap) : Go.Proofs.YtnmgpbihknjdjaaDoor.frz 0 [] H 8 v = some v := frz_lt h.lt
theorem SlI.slen {v : MV} {l : List Int} (h : SlI v l) : v.slen = some l.length := by
 cases h with
 | sl l => simp [MV.slen]
 | nil => rfl
theorem SlI.pos {v : MV} {l : List Int} (h : SlI v l) (hp : 0 < l.length) : v = .sl (l.map I64) := by
 cases h with
 | sl l => rfl
 | nil => simp at hp
theorem SlI.cell {v : MV} {l : List Int} (h : SlI v l) : rdCells v.cells 0 none = some v := by cases h <;> rfl
end Go.Proofs.YtnmgpbihknjdjaaDoor

/- Chapter 9: sums within their ranges; the iterator's value. -/
namespace Go.Proofs.YtnmgpbihknjdjaaDoor
open Go.RowKit
set_option linter.unusedVariables false
theorem encP_lt (n : Nat) (L : List (Int × Int)) : ltL n (L.map encP) = true := ltL_iff'.2 fun m hm => by obtain ⟨e, _, rfl⟩ := List.mem_map.1 hm; rfl
theorem encS_lt (n : Nat) (R C : List (Int × Int)) : (encS R C).lt n = true := by
 simp only [MV.lt, ltL, encP_lt, Bool.and_self]
abbrev keyA (v : List Int) : MV := .agg (v.map I64)
theorem keyA_lt (n : Nat) (v : List Int) : (keyA v).lt n = true := by
 simp only [MV.lt]
 exact ltL_iff'.2 fun m hm => by obtain ⟨e, _, rfl⟩ := List.mem_map.1 hm; rfl
def hasB (C : List (Int × Int)) (v : List Int) : Bool := (C.zip v).all fun p => inB p.2 p.1.1 p.1.2
theorem mf_has : MT.mf 21 = some ⟨26, [(.tmp 4)], (.seq (.reg [gO 2 (.box 2 (.s 0)), gO 3 (.box 5 (.s 1)), gO 4 (.mv cF)]) (.seq (.seq (.reg [gO 7 (.fa 0 (.s 2)), gO 8 (.fa 1 (.s 7)), gO 9 (.ld none (.s 8)), gO 10 (.len (.s 9)), gO 11 (.mv (cI 0))]) (.block 0 (.loop [11, 10, 9, 3] (.seq (.reg [gO 12 (.bin .lss (.s 11) (.s 10))]) (.seq (.cond (.s 12) .skip (.exit 0)) (.seq (.block 1 (.seq (.reg [gO 13 (.mv (.s 11)), gO 14 (.ia 2 (.s 9) (.s 11)), gO 15 (.ld (some 2) (.s 14)), gO 6 (.new (.agg [(.lit (.int .i64 0)), (.lit (.int .i64 0))])), gO 5 (.mv (.s 13)), ⟨none, none, .st 2 (.s 6) (.s 15)⟩]) (.seq (.reg [gO 16 (.mv (.s 5)), gO 17 (.iaa 1 5 (.s 3) (.s 16)), gO 18 (.ld none (.s 17)), gO 19 (.fa 0 (.s 6)), gO 20 (.ld none (.s 19)), gO 21 (.fa 1 (.s 6)), gO 22 (.ld none (.s 21)), gO 23 (.call 34 [.s 18, .s 20, .s 22]), gO 24 (.un .not (.s 23))]) (.cond (.s 24) (.seq (.reg [gO 4 (.mv cF)]) .ret) .skip)))) (.reg [gO 25 (.bin .add (.s 11) (cI 1)), gO 11 (.mv (.s 25))]))))))) (.seq (.reg [gO 4 (.mv cT)]) .ret)))⟩ := by kernel_rfl
set_option maxHeartbeats 1000000 in
theorem has_z (k : Nat) (R C : List (Int × Int)) (v : List Int) (hv : v.length = 5) (hC : C.length ≤ 5) : runZ MT (orA (k + 1)) (itA (k + 1)) 4000000 21 [encS R C, keyA v] [] = some (Bo (hasB C v), []) := by
 refine runZ_of mf_has (by simp) ?_
 simp only [argsL]
 have hcl : (MV.sl (C.map encP)).slen = some C.length := by simp [MV.slen]
 obtain ⟨a, b, c, d, e, rfl⟩ : ∃ a b c d e, v = [a, b, c, d, e] := by
  match v, hv with
  | [a, b, c, d, e], _ => exact ⟨a, b, c, d, e, rfl⟩
 have hlt := encS_lt 2 R C
 have hat : ∀ j : Nat, j < 5 → rdCells (keyA [a, b, c, d, e]).cells (0 + (j : Int).toNat * 1) none = some (I64 ([a, b, c, d, e].getD j 0))
  | 0, _ => rfl
  | 1, _ => rfl
  | 2, _ => rfl
  | 3, _ => rfl
  | 4, _ => rfl
  | j + 5, h => absurd h (by omega)
 repeat (first | apply ef_seq | (apply ef_mv; exact rfl; exact rfl) | (apply ef_len; exact rfl; exact rfl; (assumption)) | (apply ef_ldp; exact rfl; exact rfl; (exact rfl); exact rfl; (exact rfl); (exact rfl)) | (apply ef_fap; exact rfl; exact rfl) | (apply ef_box; (iterate 4 exact rfl)) | apply ef_nil | apply seqQ.normal | apply ef_block)
 refine ef_loop (α := Nat) (fun j => j ≤ C.length ∧ ((C.zip [a, b, c, d, e]).take j).all (fun p => inB p.2 p.1.1 p.1.2) = true) (fun j => [(11, I64 (j : Int)), (10, I64 (C.length : Int)), (9, .sl (C.map encP)), (3, .ptr 1 0 0 0)]) (fun _ => [⟨0, false, 2, [encS R C]⟩, ⟨0, false, 5, [keyA [a, b, c, d, e]]⟩]) (fun j => C.length - j) 0 [11, 10, 9, 3] (fun _ => rfl) rfl ⟨Nat.zero_le _, by simp⟩ (by simp; omega) (by ((repeat (refine Hold.cons (by exact rfl) ?_)); exact Hold.nil)) rfl ?_
 rintro j ⟨hj, hI⟩
 by_cases hj2 : j < C.length
 ·obtain ⟨p, hp⟩ : ∃ p, C[j]? = some p := ⟨C[j], by simp [hj2]⟩
  have hrow : (C.map encP)[(j : Int).toNat]? = some (encP p) := by simp [hp]
  have hat' := hat j (by omega)
  have hz : (C.zip [a, b, c, d, e])[j]? = some (p, [a, b, c, d, e].getD j 0) := by
   rw [List.getElem?_zip_eq_some]
   refine ⟨hp, ?_⟩
   rw [List.getD_eq_getElem?_getD, List.getElem?_eq_getElem (by simp; omega)]; rfl
  generalize [a, b, c, d, e].getD j 0 = x at hat' hz
  cases hr : inB x p.1 p.2
  ·repeat (first | apply ef_seq | (apply ef_mv; exact rfl; exact rfl) | (apply ef_bin; (iterate 3 exact rfl); (exact cmp_t rfl (by first | exact rfl | (simp only [cmpP]; omega)))) | (apply ef_ldr; exact rfl; exact rfl; (exact rd_2 rfl rfl)) | (apply ef_ias; (iterate 3 exact rfl); (omega); assumption; exact rfl) | (apply ef_iaap; (iterate 3 exact rfl); (omega); (omega)) | (apply ef_new; exact rfl) | (apply ef_st; (iterate 6 exact rfl); (exact rfl); exact rfl) | apply ef_nil | apply seqQ.normal | apply ef_block | apply ef_skip | (apply ef_condt; exact rfl; (exact (rfl : true = true))))
   (apply ef_ldp; (· exact rfl); (· exact rfl); (· exact rfl); (· exact rfl); (· exact rfl); (· exact hat'))
   repeat (first | apply ef_seq | (apply ef_mv; exact rfl; exact rfl) | (apply ef_ldp; exact rfl; exact rfl; (exact rfl); exact rfl; (exact rfl); (exact rfl)) | (apply ef_fap; exact rfl; exact rfl) | (apply ef_notF; exact rfl; exact rfl) | apply ef_nil | apply seqQ.normal | apply loopQ.ret | apply ef_ret | apply seqQ.ret | apply blockQ.ret | (apply ef_condt; exact rfl; (exact (rfl : true = true))) | (apply ef_call; exact rfl; ((repeat (apply XVs.cons; exact rfl)); exact XVs.nil); (with_reducible exact within_c k _ _ _ _ hr)))
   (refine fin1 rfl (by exact rfl) rfl ?_)
   have hn : hasB C [a, b, c, d, e] = false := by
    unfold hasB
    rw [List.all_eq_false]
    exact ⟨_, List.mem_of_getElem? hz, by simp [hr]⟩
   rw [hn]
  ·repeat (first | apply ef_seq | (apply ef_mv; exact rfl; exact rfl) | (apply ef_bin; (iterate 3 exact rfl); (exact cmp_t rfl (by first | exact rfl | (simp only [cmpP]; omega)))) | (apply ef_ldr; exact rfl; exact rfl; (exact rd_2 rfl rfl)) | (apply ef_ias; (iterate 3 exact rfl); (omega); assumption; exact rfl) | (apply ef_iaap; (iterate 3 exact rfl); (omega); (omega)) | (apply ef_new; exact rfl) | (apply ef_st; (iterate 6 exact rfl); (exact rfl); exact rfl) | apply ef_nil | apply seqQ.normal | apply ef_block | apply ef_skip | (apply ef_condt; exact rfl; (exact (rfl : true = true))))
   (apply ef_ldp; (· exact rfl); (· exact rfl); (· exact rfl); (· exact rfl); (· exact rfl); (· exact hat'))
   repeat (first | (apply ef_mv; exact rfl; exact rfl) | (apply ef_bin; (iterate 3 exact rfl); (((with_reducible refine bin_add (wrap_of ?_ ?_)) <;> omega))) | (apply ef_ldp; exact rfl; exact rfl; (exact rfl); exact rfl; (exact rfl); (exact rfl)) | (apply ef_fap; exact rfl; exact rfl) | (apply ef_notT; exact rfl; exact rfl) | apply ef_nil | apply seqQ.normal | apply blockQ.normal | apply ef_skip | (apply ef_condf; exact rfl; (exact (rfl : false = false))) | (apply ef_call; exact rfl; ((repeat (apply XVs.cons; exact rfl)); exact XVs.nil); (with_reducible exact within_c k _ _ _ _ hr)))
   (refine loopQ.normal _ _ ⟨j + 1, ⟨hj2, by rw [List.take_add_one, hz, List.all_append, hI]; simp [hr]⟩, (by omega), by ((repeat (refine Hold.cons (by exact rfl) ?_)); exact Hold.nil), .inr ⟨by ((repeat (refine hdl_cons rfl (by first | rfl | (simp [MV.lt, encP_lt])) ?_)); exact hdl_nil), by first | rfl | (simp [hltL, ltL, MV.lt, encP_lt])⟩, by first | exact rfl | (simp only [List.map_append, List.map_set]; exact rfl)⟩)
 ·obtain rfl : j = C.length := by omega
  have hall : hasB C [a, b, c, d, e] = true := by
   unfold hasB
   rw [List.take_of_length_le (by rw [List.length_zip]; exact Nat.min_le_left _ _)] at hI
   exact hI
  repeat (first | apply ef_seq | (apply ef_mv; exact rfl; exact rfl) | (apply ef_bin; (iterate 3 exact rfl); (exact cmp_f rfl (by simp only [cmpP]; omega))) | apply ef_nil | apply seqQ.normal | apply loopQ.exit | apply ef_ret | apply ef_exit | apply seqQ.exit | apply blockQ.here | (apply ef_condf; exact rfl; (exact (rfl : false = false))))
  (refine fin1 rfl (by exact rfl) rfl ?_)
  rw [hall]
theorem has_c (k : Nat) (R C : List (Int × Int)) (v : List Int) (hv : v.length = 5) (hC : C.length ≤ 5) (h : MHeap) : orA (k + 2) 21 [encS R C, keyA v] h = some (Bo (hasB C v), h) := callL (args' := [encS R C, keyA v]) (frzL_lt (by simp only [ltL, encS_lt, keyA_lt, Bool.and_self])) rfl (has_z k R C v hv hC)
theorem mf_rows : MT.mf 28 = some ⟨6, [(.tmp 4)], (.seq (.reg [gO 2 (.box 2 (.s 0)), gO 3 (.box 1 (.s 1)), gO 4 (.mv (.c (.lit .nilFunc)))]) (.seq (.reg [gO 5 (.mf 41 0 [.s 2, .s 3]), gO 4 (.mv (.s 5))]) .ret))⟩ := by kernel_rfl
abbrev rowsF (R C : List (Int × Int)) (c : Nat) : MV := .fn 41 0 [.rp (encS R C) 0, .rp (I64 c) 0]
theorem rows_z (k : Nat) (R C : List (Int × Int)) (c : Nat) : runZ MT (orA k) (itA k) 4000000 28 [encS R C, I64 c] [] = some (rowsF R C c, []) := by
 refine runZ_of mf_rows (by simp) ?_
 simp only [argsL]
 have hlt := encS_lt 0 R C
 repeat (first | apply ef_seq | (apply ef_mv; exact rfl; exact rfl) | (apply ef_box; (iterate 4 exact rfl)) | (apply ef_mf; exact rfl; (repeat (apply XVs.cons; exact rfl)); exact XVs.nil) | apply ef_nil | apply seqQ.normal | apply ef_ret)
 exact fin_frz rfl (by exact rfl) rfl (fun _ _ _ _ h => by cases h) (by simp [frz, MV.lt, ltL, encP_lt])
theorem ltS1 (R C : List (Int × Int)) (c : Int) : ltL 0 [encS R C, I64 c] = true := by
 have h1 := encS_lt 0 R C
 show ((encS R C).lt 0 && ((I64 c).lt 0 && true)) = true
 rw [h1]; rfl
theorem rowsF_lt (R C : List (Int × Int)) (c : Nat) : (rowsF R C c).lt 0 = true := by
 have h1 := encS_lt 0 R C
 show ((encS R C).lt 0 && ((I64 c).lt 0 && true)) = true
 rw [h1]; rfl
theorem rows_c (k : Nat) (R C : List (Int × Int)) (c : Nat) (h : MHeap) : orA (k + 1) 28 [encS R C, I64 c] h = some (rowsF R C c, h) := by
 have := callA (k := k) (h := h) (args := [encS R C, I64 c]) (args' := [encS R C, I64 c]) (frzL_lt (ltS1 R C c)) rfl (rows_z k R C c) (by rw [ltS1]; show ((rowsF R C c).lt 0 && true) = true; rw [rowsF_lt]; rfl) rfl
 simpa [shV, sh1] using this
end Go.Proofs.YtnmgpbihknjdjaaDoor

/- Chapter 9: maps of sums as sorted lists: plain law. -/
namespace Go.Proofs.YtnmgpbihknjdjaaDoor
open Go.RowKit
set_option linter.unusedVariables false
def ltK : List Int → List Int → Bool
 | a :: as_, b :: bs => decide (a < b) || (decide (a = b) && ltK as_ bs)
 | [], _ :: _ => true
 | _, [] => false
theorem ltK_irrefl : ∀ a : List Int, ltK a a = false
 | [] => rfl
 | a :: as_ => by simp [ltK, ltK_irrefl as_]
theorem ltK_trans : ∀ a b c : List Int, ltK a b = true → ltK b c = true → ltK a c = true
 | [], [], c, h, _ => by simp [ltK] at h
 | [], b :: bs, [], _, h => by simp [ltK] at h
 | [], b :: bs, c :: cs, _, _ => rfl
 | a :: as_, [], c, h, _ => by simp [ltK] at h
 | a :: as_, b :: bs, [], _, h => by simp [ltK] at h
 | a :: as_, b :: bs, c :: cs, h1, h2 => by
  simp only [ltK, Bool.or_eq_true, Bool.and_eq_true, decide_eq_true_eq] at *
  rcases h1 with h1 | ⟨h1, h3⟩ <;> rcases h2 with h2 | ⟨h2, h4⟩
  ·left; omega
  ·left; omega
  ·left; omega
  ·right; exact ⟨by omega, ltK_trans _ _ _ h3 h4⟩
theorem ltK_tri : ∀ a b : List Int, ltK a b = true ∨ a = b ∨ ltK b a = true
 | [], [] => .inr (.inl rfl)
 | [], b :: bs => .inl rfl
 | a :: as_, [] => .inr (.inr rfl)
 | a :: as_, b :: bs => by
  simp only [ltK, Bool.or_eq_true, Bool.and_eq_true, decide_eq_true_eq, List.cons.injEq]
  rcases Int.lt_trichotomy a b with h | h | h
  ·exact .inl (.inl h)
  ·rcases ltK_tri as_ bs with h2 | h2 | h2
   ·exact .inl (.inr ⟨h, h2⟩)
   ·exact .inr (.inl ⟨h, h2⟩)
   ·exact .inr (.inr (.inr ⟨h.symm, h2⟩))
  ·exact .inr (.inr (.inl h))
def insO (v : List Int) : List (List Int) → List (List Int)
 | [] => [v]
 | w :: l => if ltK v w then v :: w :: l else w :: insO v l
def insK (v : List Int) (l : List (List Int)) : List (List Int) := if v ∈ l then l else insO v l
def addAll (xs : List (List Int)) (l : List (List Int)) : List (List Int) := xs.foldl (fun l x => insK x l) l
abbrev Srt (l : List (List Int)) : Prop := l.Pairwise fun a b => ltK a b = true
theorem mem_insO {v w : List Int} : ∀ {l : List (List Int)}, w ∈ insO v l ↔ w = v ∨ w ∈ l
 | [] => by simp [insO]
 | x :: l => by
  simp only [insO]
  split
  ·simp
  ·simp only [List.mem_cons, mem_insO (l := l)]
   constructor
   ·rintro (h | h | h)
    ·exact .inr (.inl h)
    ·exact .inl h
    ·exact .inr (.inr h)
   ·rintro (h | h | h)
    ·exact .inr (.inl h)
    ·exact .inl h
    ·exact .inr (.inr h)
theorem mem_insK {v w : List Int} {l : List (List Int)} : w ∈ insK v l ↔ w = v ∨ w ∈ l := by
 unfold insK
 split
 ·rename_i h
  constructor
  ·exact .inr
  ·rintro (rfl | h2)
   ·exact h
   ·exact h2
 ·exact mem_insO
theorem insO_srt {v : List Int} : ∀ {l : List (List Int)}, v ∉ l → Srt l → Srt (insO v l)
 | [], _, _ => by simp [insO, Srt]
 | w :: l, hn, hs => by
  simp only [Srt, List.pairwise_cons] at hs
  simp only [insO]
  split
  ·rename_i h
   simp only [Srt, List.pairwise_cons]
   refine ⟨fun x hx => ?_, hs.1, hs.2⟩
   rcases List.mem_cons.1 hx with rfl | hx
   ·exact h
   ·exact ltK_trans _ _ _ h (hs.1 x hx)
  ·rename_i h
   simp only [Srt, List.pairwise_cons]
   refine ⟨fun x hx => ?_, insO_srt (fun h2 => hn (List.mem_cons_of_mem _ h2)) hs.2⟩
   rcases mem_insO.1 hx with rfl | hx
   ·rcases ltK_tri w x with h2 | h2 | h2
    ·exact h2
    ·exact absurd (by rw [h2]; simp) hn
    ·exact absurd h2 h
   ·exact hs.1 x hx
theorem insK_srt {v : List Int} {l : List (List Int)} (hs : Srt l) : Srt (insK v l) := by
 unfold insK
 split
 ·exact hs
 ·rename_i h; exact insO_srt h hs
theorem addAll_srt : ∀ (xs : List (List Int)) {l : List (List Int)}, Srt l → Srt (addAll xs l)
 | [], l, h => h
 | x :: xs, l, h => addAll_srt xs (insK_srt h)
theorem mem_addAll {w : List Int} : ∀ (xs : List (List Int)) {l : List (List Int)}, w ∈ addAll xs l ↔ w ∈ xs ∨ w ∈ l
 | [], l => by simp [addAll]
 | x :: xs, l => by
  have h := mem_addAll (w := w) xs (l := insK x l)
  have e : addAll (x :: xs) l = addAll xs (insK x l) := rfl
  rw [e, h, mem_insK, List.mem_cons]
  constructor
  ·rintro (h | h | h)
   ·exact .inl (.inr h)
   ·exact .inl (.inl h)
   ·exact .inr h
  ·rintro ((h | h) | h)
   ·exact .inr (.inl h)
   ·exact .inl h
   ·exact .inr (.inr h)
theorem srt_ext : ∀ {l1 l2 : List (List Int)}, Srt l1 → Srt l2 → (∀ w, w ∈ l1 ↔ w ∈ l2) → l1 = l2
 | [], [], _, _, _ => rfl
 | [], b :: l2, _, _, h => absurd ((h b).2 (by simp)) (by simp)
 | a :: l1, [], _, _, h => absurd ((h a).1 (by simp)) (by simp)
 | a :: l1, b :: l2, h1, h2, h => by
  simp only [Srt, List.pairwise_cons] at h1 h2
  have hab : a = b := by
   rcases List.mem_cons.1 ((h a).1 (by simp)) with e | e
   ·exact e
   ·rcases List.mem_cons.1 ((h b).2 (by simp)) with e2 | e2
    ·exact e2.symm
    ·have := ltK_trans _ _ _ (h1.1 b e2) (h2.1 a e)
     rw [ltK_irrefl] at this; cases this
  subst hab
  congr 1
  refine srt_ext h1.2 h2.2 fun w => ?_
  constructor
  ·intro hw
   rcases List.mem_cons.1 ((h w).1 (List.mem_cons_of_mem _ hw)) with e | e
   ·subst e
    have := h1.1 w hw
    rw [ltK_irrefl] at this; cases this
   ·exact e
  ·intro hw
   rcases List.mem_cons.1 ((h w).2 (List.mem_cons_of_mem _ hw)) with e | e
   ·subst e
    have := h2.1 w hw
    rw [ltK_irrefl] at this; cases this
   ·exact e
theorem addAll_perm {xs ys : List (List Int)} {l : List (List Int)} (hs : Srt l) (hp : xs.Perm ys) : addAll xs l = addAll ys l :=
 srt_ext (addAll_srt xs hs) (addAll_srt ys hs) fun w => by rw [mem_addAll, mem_addAll, hp.mem_iff]
abbrev entK (v : List Int) : MV := .tup [keyA v, .agg []]
theorem ltKs_eq : ∀ a b : List Int, ltKs (a.map I64) (b.map I64) = ltK a b
 | [], [] => rfl
 | [], b :: bs => rfl
 | a :: as_, [] => rfl
 | a :: as_, b :: bs => by
  simp only [List.map_cons, ltKs, ltK, ltKs_eq as_ bs]
theorem insE_eq (v : List Int) : ∀ l : List (List Int), insE (entK v) (l.map entK) = (insO v l).map entK
 | [] => rfl
 | w :: l => by
  simp only [List.map_cons, insE, insO]
  have e : ltE (entK v) (entK w) = ltK v w := ltKs_eq v w
  rw [e]
  split
  ·rfl
  ·rw [insE_eq v l]; rfl
theorem litEq_eq : ∀ a b : List Int, a.length = b.length → litEq (a.map I64) (b.map I64) = some (decide (a = b))
 | [], [], _ => rfl
 | [], b :: bs, h => by simp at h
 | a :: as_, [], h => by simp at h
 | a :: as_, b :: bs, h => by
  simp only [List.map_cons, litEq, if_true, litEq_eq as_ bs (by simpa using h), Option.map_some]
  congr 1
  rw [Bool.eq_iff_iff]
  simp
theorem keysOk_eq (v : List Int) (l : List (List Int)) (hl : ∀ w ∈ l, v.length = w.length) : keysOk (v.map I64) (l.map entK) = true := by
 unfold keysOk
 rw [List.all_eq_true]
 intro m hm
 obtain ⟨w, hw, rfl⟩ := List.mem_map.1 hm
 show (litEq (v.map I64) (w.map I64)).isSome = true
 rw [litEq_eq v w (hl w hw)]; rfl
theorem mfind_eq (v : List Int) : ∀ (l : List (List Int)) (i : Nat), (∀ w ∈ l, v.length = w.length) → ∃ r, mfind (v.map I64) (l.map entK) i = some r ∧ (v ∉ l → r = none) ∧ (v ∈ l → ∃ j, r = some (i + j, .agg []) ∧ l[j]? = some v)
 | [], i, _ => ⟨none, rfl, fun _ => rfl, fun h => by cases h⟩
 | w :: l, i, hl => by
  have e : mfind (v.map I64) ((w :: l).map entK) i = match litEq (v.map I64) (w.map I64) with
    | some true => some (some (i, .agg []))
    | some false => mfind (v.map I64) (l.map entK) (i + 1)
    | none => none := rfl
  rw [e, litEq_eq v w (hl w (by simp))]
  by_cases h : v = w
  ·subst h
   simp only [decide_true]
   exact ⟨_, rfl, fun hn => absurd (by simp) hn, fun _ => ⟨0, rfl, rfl⟩⟩
  ·simp only [h, decide_false]
   obtain ⟨r, h1, h2, h3⟩ := mfind_eq v l (i + 1) fun w hw => hl w (List.mem_cons_of_mem _ hw)
   refine ⟨r, h1, fun hn => h2 fun h4 => hn (List.mem_cons_of_mem _ h4), fun hm => ?_⟩
   rcases List.mem_cons.1 hm with h4 | h4
   ·exact absurd h4 h
   ·obtain ⟨j, e1, e2⟩ := h3 h4
    exact ⟨j + 1, by rw [e1, show i + (j + 1) = i + 1 + j by omega], by simpa using e2⟩
theorem mset_eq (v : List Int) (l : List (List Int)) (hl : ∀ w ∈ l, v.length = w.length) : ∃ r, mfind (v.map I64) (l.map entK) 0 = some r ∧ mset (l.map entK) (entK v) r = (insK v l).map entK := by
 obtain ⟨r, h1, h2, h3⟩ := mfind_eq v l 0 hl
 refine ⟨r, h1, ?_⟩
 by_cases h : v ∈ l
 ·obtain ⟨j, rfl, e⟩ := h3 h
  have hk : insK v l = l := if_pos h
  rw [hk]
  simp only [mset, Nat.zero_add]
  refine List.ext_getElem? fun i => ?_
  rw [List.getElem?_set]
  split
  ·rename_i e2
   subst e2
   rw [if_pos (by have := (List.getElem?_eq_some_iff.1 e).1; simpa using this), List.getElem?_map, e]; rfl
  ·rfl
 ·rw [h2 h]
  have hk : insK v l = insO v l := if_neg h
  rw [hk]
  exact insE_eq v l
end Go.Proofs.YtnmgpbihknjdjaaDoor

/- Chapter 9: the sums that rows reach. -/
namespace Go.Proofs.YtnmgpbihknjdjaaDoor
open Go.RowKit
set_option linter.unusedVariables false
def plusV (s : Nat) : Nat → List Int → List Int
 | _, [] => []
 | i, x :: xs => (x + bitI s i) :: plusV s (i + 1) xs
theorem bitI_le (s i : Nat) : 0 ≤ bitI s i ∧ bitI s i ≤ 1 := by unfold bitI; omega
theorem plusV_len (s : Nat) : ∀ (l : List Int) (i : Nat), (plusV s i l).length = l.length
 | [], _ => rfl
 | x :: l, i => by simp [plusV, plusV_len s l]
theorem plusV_le {s t : Nat} : ∀ {l : List Int} {i : Nat}, (∀ x ∈ l, 0 ≤ x ∧ x ≤ t) → ∀ x ∈ plusV s i l, 0 ≤ x ∧ x ≤ (t + 1 : Nat)
 | [], _, _, x, hx => by cases hx
 | y :: l, i, h, x, hx => by
  rcases List.mem_cons.1 hx with rfl | hx
  ·have h1 := h y (by simp); have h2 := bitI_le s i; omega
  ·exact plusV_le (fun x hx => h x (List.mem_cons_of_mem _ hx)) x hx
theorem plus_k (k : Nat) (v : List Int) (s : Nat) (hl : v.length = 5) (hv : ∀ x ∈ v, 0 ≤ x ∧ x ≤ (100 : Nat)) (hs : s < 32) (h : MHeap) : orA (k + 1) 36 [keyA v, I64 s] h = some (keyA (plusV s 0 v), h) := by
 obtain ⟨a, b, c, d, e, rfl⟩ : ∃ a b c d e, v = [a, b, c, d, e] := by
  match v, hl with
  | [a, b, c, d, e], _ => exact ⟨a, b, c, d, e, rfl⟩
 have h1 := plus_c k a b c d e s hs h
 have w : ∀ x i, x ∈ [a, b, c, d, e] → IntKind.i64.wrap (x + bitI s i) = x + bitI s i := fun x i hx => by
  have h2 := hv x hx
  have h3 := bitI_le s i
  exact wrap_of (by omega) (by omega)
 simp only [W64, w a 0 (by simp), w b 1 (by simp), w c 2 (by simp), w d 3 (by simp), w e 4 (by simp)] at h1
 exact h1
def nextL (P : Nat → Bool) (now : List (List Int)) (sets : List Nat) (l : List (List Int)) : List (List Int) := sets.foldl (fun l s => if P s then addAll (now.map (plusV s 0)) l else l) l
def reachL (R : List (Int × Int)) (m : Nat) (P : Nat → Nat → Bool) : Nat → List (List Int)
 | 0 => [[0, 0, 0, 0, 0]]
 | t + 1 => nextL (P (R.length - 1 - t)) (reachL R m P t) (rowSets m (R.getD (R.length - 1 - t) (0, 0)).1 (R.getD (R.length - 1 - t) (0, 0)).2) []
def OkL (t : Nat) (l : List (List Int)) : Prop := ∀ v ∈ l, v.length = 5 ∧ ∀ x ∈ v, 0 ≤ x ∧ x ≤ (t : Int)
theorem nextL_ok {t : Nat} {P : Nat → Bool} {now : List (List Int)} (h : OkL t now) : ∀ (sets : List Nat) {l : List (List Int)}, OkL (t + 1) l → OkL (t + 1) (nextL P now sets l)
 | [], l, hl => hl
 | s :: sets, l, hl => by
  refine nextL_ok h sets (l := if P s then addAll (now.map (plusV s 0)) l else l) ?_
  split
  ·intro v hv
   rcases (mem_addAll _).1 hv with hv | hv
   ·obtain ⟨u, hu, rfl⟩ := List.mem_map.1 hv
    obtain ⟨h1, h2⟩ := h u hu
    refine ⟨by rw [plusV_len]; exact h1, fun x hx => ?_⟩
    have := plusV_le h2 x hx
    omega
   ·exact hl v hv
  ·exact hl
theorem nextL_srt {P : Nat → Bool} {now : List (List Int)} : ∀ (sets : List Nat) {l : List (List Int)}, Srt l → Srt (nextL P now sets l)
 | [], l, hl => hl
 | s :: sets, l, hl => by
  refine nextL_srt sets (l := if P s then addAll (now.map (plusV s 0)) l else l) ?_
  split
  ·exact addAll_srt _ hl
  ·exact hl
theorem reachL_ok (R : List (Int × Int)) (m : Nat) (P : Nat → Nat → Bool) : ∀ t, OkL t (reachL R m P t) ∧ Srt (reachL R m P t)
 | 0 => ⟨fun v hv => by
   simp only [reachL, List.mem_singleton] at hv
   subst hv
   exact ⟨rfl, fun x hx => by simp at hx; omega⟩, by simp [reachL, Srt]⟩
 | t + 1 => ⟨nextL_ok (reachL_ok R m P t).1 _ (fun v hv => by cases hv), nextL_srt _ (by simp [Srt])⟩
def MayB (k : Nat) (f : MV) (P : Nat → Nat → Bool) (n : Nat) : Prop := ∃ g q caps, f = .fn g q caps ∧ f.lt 0 = true ∧ ∀ (row set : Nat), row < n → set < 32 → ∀ h, orA k g (caps.take q ++ [I64 row, I64 set] ++ caps.drop q) h = some (Bo (P row set), h)
theorem entK_lt (n : Nat) (l : List (List Int)) : ltL n (l.map entK) = true := ltL_iff'.2 fun m hm => by
 obtain ⟨v, _, rfl⟩ := List.mem_map.1 hm
 have h1 := keyA_lt n v
 show ((keyA v).lt n && ((MV.agg []).lt n && true)) = true
 rw [h1]; rfl
mutual
theorem MV.lt_le {n m : Nat} (h : n ≤ m) : ∀ v : MV, v.lt n = true → v.lt m = true
 | .lit _, _ => rfl
 | .junk, _ => rfl
 | .yld, h1 => by simp [MV.lt] at h1
 | .emp, h1 => by simp [MV.lt] at h1
 | .itr _ _, h1 => by simp [MV.lt] at h1
 | .agg cs, h1 => by simp only [MV.lt] at h1 ⊢; exact ltL_le h cs h1
 | .tup cs, h1 => by simp only [MV.lt] at h1 ⊢; exact ltL_le h cs h1
 | .sl cs, h1 => by simp only [MV.lt] at h1 ⊢; exact ltL_le h cs h1
 | .rp e _, h1 => by simp only [MV.lt] at h1 ⊢; exact MV.lt_le h e h1
 | .ptr id _ _ _, h1 => by simp only [MV.lt, decide_eq_true_eq] at h1 ⊢; omega
 | .arr id _ _ _, h1 => by simp only [MV.lt, decide_eq_true_eq] at h1 ⊢; omega
 | .fn _ _ cs, h1 => by simp only [MV.lt] at h1 ⊢; exact ltL_le h cs h1
 | .mp id _, h1 => by simp only [MV.lt, decide_eq_true_eq] at h1 ⊢; omega
 | .rm cs, h1 => by simp only [MV.lt] at h1 ⊢; exact ltL_le h cs h1
theorem ltL_le {n m : Nat} (h : n ≤ m) : ∀ vs : List MV, ltL n vs = true → ltL m vs = true
 | [], _ => rfl
 | v :: vs, h1 => by
  simp only [ltL, Bool.and_eq_true] at h1 ⊢
  exact ⟨MV.lt_le h v h1.1, ltL_le h vs h1.2⟩
end
theorem hltL_le {n m : Nat} (h : n ≤ m) {M : MHeap} (hc : hltL n M = true) : hltL m M = true := by
 unfold hltL at *
 rw [List.all_eq_true] at *
 exact fun o ho => ltL_le h _ (hc o ho)
def rfM (M : MHeap) (l : List (List Int)) : MHeap := M ++ [⟨0, true, 1, [.tup (l.map entK)]⟩] ++ [⟨0, false, 1, [.mp M.length 0]⟩]
theorem rfM_len (M : MHeap) (l : List (List Int)) : (rfM M l).length = M.length + 2 := by simp [rfM]
theorem rfM_at {M : MHeap} {l : List (List Int)} {i : Nat} {o : MObj} (h : M[i]? = some o) : (rfM M l)[i]? = some o := by
 have hi := (List.getElem?_eq_some_iff.1 h).1
 unfold rfM
 rw [List.append_assoc, List.getElem?_append_left hi, h]
theorem rfM_m (M : MHeap) (l : List (List Int)) : (rfM M l)[M.length]? = some ⟨0, true, 1, [.tup (l.map entK)]⟩ := by
 unfold rfM
 rw [List.append_assoc, List.getElem?_append_right (Nat.le_refl _)]; simp
theorem rfM_q (M : MHeap) (l : List (List Int)) : (rfM M l)[M.length + 1]? = some ⟨0, false, 1, [.mp M.length 0]⟩ := by
 unfold rfM
 rw [List.append_assoc, List.getElem?_append_right (by omega)]; simp
theorem rfM_cl {M : MHeap} (l : List (List Int)) (hc : hltL M.length M = true) : hltL (M.length + 2) (rfM M l) = true := by
 have h1 := hltL_le (show M.length ≤ M.length + 2 by omega) hc
 unfold rfM
 unfold hltL at *
 rw [List.all_append, List.all_append, h1]
 simp only [List.all_cons, List.all_nil, ltL, MV.lt, entK_lt, Bool.and_true, Bool.true_and, decide_eq_true_eq]
 omega
def unK : MV → List Int
 | .tup [.agg cs, _] => cs.map fun | .lit (.int _ z) => z | _ => 0
 | _ => []
theorem unK_ent (v : List Int) : unK (entK v) = v := by
 show (v.map I64).map (fun m => match m with | .lit (.int _ z) => z | _ => 0) = v
 rw [List.map_map]
 conv => rhs; rw [← List.map_id v]
 rfl
theorem unK_map (l : List (List Int)) : (l.map entK).map unK = l := by
 rw [List.map_map]
 conv => rhs; rw [← List.map_id l]
 exact List.map_congr_left fun v _ => unK_ent v
theorem addAll_app (xs : List (List Int)) (v : List Int) (l : List (List Int)) : addAll (xs ++ [v]) l = insK v (addAll xs l) := by
 unfold addAll
 rw [List.foldl_append]; rfl
theorem nextL_app (P : Nat → Bool) (now : List (List Int)) (xs : List Nat) (s : Nat) (l : List (List Int)) : nextL P now (xs ++ [s]) l = if P s then addAll (now.map (plusV s 0)) (nextL P now xs l) else nextL P now xs l := by
 unfold nextL
 rw [List.foldl_append]; rfl
theorem entK_all (l : List (List Int)) : (l.map entK).all entP = true := by
 rw [List.all_eq_true]
 intro m hm
 obtain ⟨v, _, rfl⟩ := List.mem_map.1 hm
 show ((keyA v).plain && (MV.agg []).plain) = true
 have : (keyA v).plain = true := by
  show (v.map I64).all _ = true
  rw [List.all_eq_true]
  intro x hx
  obtain ⟨z, _, rfl⟩ := List.mem_map.1 hx
  rfl
 rw [this]; rfl
theorem mr_set {M : MHeap} {l l' : List (List Int)} {o : MObj} : ((rfM M l ++ [o]).set M.length ⟨0, true, 1, [.tup (l'.map entK)]⟩).take (M.length + 2) = rfM M l' := by
 unfold rfM
 rw [List.append_assoc, List.append_assoc, List.set_append_right _ _ (Nat.le_refl _), List.take_append]
 simp [List.take_of_length_le]
theorem hltL_set {n i : Nat} {M : MHeap} {o : MObj} (h : hltL n M = true) (ho : ltL n o.es = true) : hltL n (M.set i o) = true := by
 unfold hltL at *
 rw [List.all_eq_true] at *
 intro p hp
 rcases List.mem_or_eq_of_mem_set hp with hp | rfl
 ·exact h p hp
 ·exact ho
def sM (H : MHeap) (m j : Nat) (es : List MV) : MHeap := (H.mapIdx fun i p => if [m].contains i then ⟨p.g + 1, p.nl, p.sz, []⟩ else p).set j ⟨0, false, 1, [.rm es]⟩
theorem sM_len {H : MHeap} {m j : Nat} {es : List MV} : (sM H m j es).length = H.length := by simp [sM]
theorem sM_j {H : MHeap} {m j : Nat} {es : List MV} (h : j < H.length) : (sM H m j es)[j]? = some ⟨0, false, 1, [.rm es]⟩ := by
 unfold sM
 rw [List.getElem?_set_self (by simpa using h)]
theorem sM_at {H : MHeap} {m j i : Nat} {es : List MV} (h1 : i ≠ m) (h2 : i ≠ j) : (sM H m j es)[i]? = H[i]? := by
 unfold sM
 rw [List.getElem?_set_ne (Ne.symm h2), List.getElem?_mapIdx]
 cases H[i]? with
 | none => rfl
 | some o => simp [h1]
theorem sM_cl {H : MHeap} {n m j : Nat} {es : List MV} (h : hltL n H = true) (he : ltL n es = true) : hltL n (sM H m j es) = true := by
 unfold sM
 refine hltL_set ?_ (by simp only [ltL, MV.lt, he, Bool.and_true])
 unfold hltL at *
 rw [List.all_eq_true] at *
 intro p hp
 obtain ⟨i, hi⟩ := List.getElem?_of_mem hp
 rw [List.getElem?_mapIdx, Option.map_eq_some_iff] at hi
 obtain ⟨o, ho, rfl⟩ := hi
 split
 ·rfl
 ·exact h o (List.mem_of_getElem? ho)
theorem seal_mp {H : MHeap} {m j : Nat} {es : List MV} (h3 : H[j]? = some ⟨0, false, 1, [.mp m 0]⟩) (hm : H[m]? = some ⟨0, true, 1, [.tup es]⟩) (hne : m ≠ j) (hes : ltL 0 es = true) : sealH (fun _ => false) H (.ptr j 0 0 0) = some (sM H m j es) := by
 have ids : [MV.mp m 0].flatMap (MV.ids H 6) = [m] := by
  have h1 : es.flatMap (MV.ids H 4) = [] := idsL_lt0 hes
  have e1 : [MV.mp m 0].flatMap (MV.ids H 6) = (m :: (match H[m]? with | some o => o.es.flatMap (MV.ids H 5) | none => [])) ++ [] := rfl
  have e2 : [MV.tup es].flatMap (MV.ids H 5) = es.flatMap (MV.ids H 4) ++ [] := rfl
  rw [e1, hm]
  show (m :: [MV.tup es].flatMap (MV.ids H 5)) ++ [] = [m]
  rw [e2, h1]; rfl
 have himp : (j :: (List.range H.length).filter fun i => ![m].contains i).contains m = false := by
  simp [hne]
 have hf : frz 0 (j :: (List.range H.length).filter fun i => ![m].contains i) H 8 (.mp m 0) = some (.rm es) := by
  simp only [frz, MV.lt, Nat.not_lt_zero, decide_false, Bool.false_eq_true, if_false, himp, hm, and_self, if_true, hes]
 unfold sealH
 simp only [h3, ids, List.mapM_cons, List.mapM_nil, hf]
 have hc : ([m].all (fun i => !false && i != j) && !false) = true := by simp [hne]
 simp only [Option.pure_def, Option.bind_eq_bind, Option.bind_some, hc, if_true]
 rfl
structure StR (R C : List (Int × Int)) (f : MV) (l : List (List Int)) (t : Nat) (M : MHeap) (i8 : Nat) : Prop where
 m0 : M[0]? = some ⟨0, false, 2, [encS R C]⟩
 m1 : M[1]? = some ⟨0, false, 1, [f]⟩
 m3 : M[3]? = some ⟨0, false, 1, [.rm (l.map entK)]⟩
 m8 : M[i8]? = some ⟨0, false, 1, [I64 ((R.length : Int) - 1 - t)]⟩
 n3 : i8 ≠ 3
 cl : hltL M.length M = true
 len : 5 ≤ M.length
 fst : t = 0 → M.length = 5
 nxt : t ≠ 0 → 5 ≤ i8
theorem mf_reached : MT.mf 19 = some ⟨50, [(.tmp 6)], (.seq (.reg [gO 3 (.box 2 (.s 0)), gO 5 (.box 1 (.s 2)), gO 6 (.mv (.c (.lit (.map none))))]) (.seq (.reg [gO 12 (.mkm), gO 13 (.build [(.lit (.int .i64 0)), (.lit (.int .i64 0)), (.lit (.int .i64 0)), (.lit (.int .i64 0)), (.lit (.int .i64 0))] []), gO 14 (.build [] []), ⟨none, none, .mup 5 (.s 12) (.s 13) (.s 14)⟩, gO 15 (.mv (.s 12)), gO 7 (.new (.lit (.map none))), ⟨none, none, .st 1 (.s 7) (.s 15)⟩]) (.seq (.seq (.give 7 (.reg [gO 16 (.fa 0 (.s 3)), gO 17 (.fa 0 (.s 16)), gO 18 (.ld none (.s 17)), gO 19 (.len (.s 18)), gO 20 (.bin .sub (.s 19) (cI 1)), gO 8 (.new (.lit (.int .i64 0))), ⟨none, none, .st 1 (.s 8) (.s 20)⟩])) (.block 0 (.loop [8, 1, 3, 5, 7] (.seq (.seq (.reg [gO 21 (.ld none (.s 8)), gO 22 (.mv (.s 1)), gO 23 (.bin .geq (.s 21) (.s 22))]) (.cond (.s 23) .skip (.exit 0))) (.seq (.block 1 (.seq (.reg [gO 26 (.mkm), gO 9 (.new (.lit (.map none))), ⟨none, none, .st 1 (.s 9) (.s 26)⟩]) (.seq (.seq (.reg [gO 27 (.ld (some 2) (.s 3)), gO 28 (.ld none (.s 8)), gO 29 (.call 28 [.s 27, .s 28])]) (.block 2 (.rf [5, 8, 7, 9] (.s 29) [30] (.reg [gO 10 (.mv (.s 30))]) (.block 3 (.seq (.seq (.reg [gO 31 (.ld none (.s 5)), gO 32 (.ld none (.s 8)), gO 33 (.mv (.s 10)), gO 34 (.callv (.s 31) [.s 32, .s 33]), gO 35 (.un .not (.s 34))]) (.cond (.s 35) (.exit 3) .skip)) (.seq (.reg [gO 36 (.ld none (.s 7))]) (.mr [9, 10] [] 4 (.s 36) 37 38 39 (.block 5 (.seq (.reg [gO 40 (.ent (.s 37)), gO 41 (.ext (.s 40) 0), gO 11 (.new (.agg [(.lit (.int .i64 0)), (.lit (.int .i64 0)), (.lit (.int .i64 0)), (.lit (.int .i64 0)), (.lit (.int .i64 0))])), ⟨none, none, .st 5 (.s 11) (.s 41)⟩]) (.reg [gO 42 (.ld none (.s 9)), gO 43 (.ld (some 5) (.s 11)), gO 44 (.mv (.s 10)), gO 45 (.call 36 [.s 43, .s 44]), gO 46 (.build [] []), ⟨none, none, .mup 5 (.s 42) (.s 45) (.s 46)⟩])))))))))) (.reg [gO 47 (.ld none (.s 9)), ⟨none, none, .st 1 (.s 7) (.s 47)⟩])))) (.seq (.seq (.give 7 (.reg [gO 48 (.ld none (.s 8))])) (.reg [gO 8 (.new (.lit (.int .i64 0))), ⟨none, none, .st 1 (.s 8) (.s 48)⟩])) (.reg [gO 24 (.ld none (.s 8)), gO 25 (.bin .sub (.s 24) (cI 1)), ⟨none, none, .st 1 (.s 8) (.s 25)⟩]))))))) (.seq (.reg [gO 49 (.ld none (.s 7)), gO 6 (.mv (.s 49))]) .ret))))⟩ := by kernel_rfl
set_option maxHeartbeats 4000000 in
theorem reached_z (k : Nat) (R C : List (Int × Int)) (c : Nat) (f : MV) (P : Nat → Nat → Bool) (hR : R.length ≤ 5) (hc : c ≤ R.length) (hC : C.length ≤ 5) (hf : MayB (k + 4) f P R.length) :
  runZ MT (orA (k + 4)) (itA (k + 4)) 4000000 19 [encS R C, I64 c, f] [] = some (.rm ((reachL R C.length P (R.length - c)).map entK), []) := by
 obtain ⟨g, q, caps, rfl, hfl, hcall⟩ := hf
 refine runZ_of mf_reached (by simp) ?_
 simp only [argsL]
 have hrl : (MV.sl (R.map encP)).slen = some R.length := by simp [MV.slen]
 repeat (first | apply ef_seq | (apply ef_mv; exact rfl; exact rfl) | (apply ef_box; (iterate 4 exact rfl)) | (apply ef_newst; (iterate 3 exact rfl); (exact rfl); exact rfl) | (apply ef_build; exact rfl; (repeat (apply XVs.cons; exact rfl)); exact XVs.nil; exact rfl; exact rfl) | (apply ef_mkm; exact rfl) | (apply ef_mup; (iterate 3 exact rfl); (exact rfl); exact rfl; exact rfl; (exact rfl); exact rfl; (exact rfl)) | apply ef_nil | apply seqQ.normal)
 refine ef_give (by exact rfl) (by rfl) ?_
 repeat (first | (apply ef_bin; (iterate 3 exact rfl); (((with_reducible refine bin_sub (wrap_of ?_ ?_)) <;> omega))) | (apply ef_len; exact rfl; exact rfl; (assumption)) | (apply ef_ldp; exact rfl; exact rfl; (exact rfl); exact rfl; (exact rfl); (exact rfl)) | (apply ef_fap; exact rfl; exact rfl) | (apply ef_newst; (iterate 3 exact rfl); (exact rfl); exact rfl) | apply ef_nil | apply seqQ.normal | apply ef_block)
 refine ef_loopg (α := Nat × MHeap × Nat) (fun a => a.1 ≤ R.length - c ∧ StR R C (.fn g q caps) (reachL R C.length P a.1) a.1 a.2.1 a.2.2) (fun a => [(8, .ptr a.2.2 0 0 0)]) [(1, I64 c), (3, .ptr 0 0 0 0), (5, .ptr 1 0 0 0), (7, .ptr 3 0 0 0)] (fun a => a.2.1) (fun a => R.length - c - a.1)
  (0, [⟨0, false, 2, [encS R C]⟩, ⟨0, false, 1, [.fn g q caps]⟩, ⟨1, true, 1, []⟩, ⟨0, false, 1, [.rm [entK [0, 0, 0, 0, 0]]]⟩, ⟨0, false, 1, [I64 ((R.length : Int) - 1)]⟩], 4) [8] (fun _ => rfl) (by ((repeat (refine Hold.cons (by exact rfl) ?_)); exact Hold.nil)) (by ((repeat (refine Hold.cons (by exact rfl) ?_)); exact Hold.nil)) rfl rfl rfl ?_ (by simp; omega) ?_
 ·refine ⟨Nat.zero_le _, rfl, rfl, rfl, ?_, (show (4 : Nat) ≠ 3 by decide), ?_, by simp, fun _ => rfl, fun h => absurd rfl h⟩
  ·show _ = some (⟨0, false, 1, [I64 ((R.length : Int) - 1 - (0 : Nat))]⟩ : MObj)
   rw [show (R.length : Int) - 1 - (0 : Nat) = (R.length : Int) - 1 by omega]; rfl
  ·have h1 := encS_lt 5 R C
   have h2 := entK_lt 5 [[0, 0, 0, 0, 0]]
   have h3 : (MV.fn g q caps).lt 5 = true := MV.lt_le (Nat.zero_le _) _ hfl
   simp only [hltL, List.all_cons, List.all_nil, ltL, h1, h3, Bool.and_true, Bool.true_and, List.length_cons, List.length_nil]
   show (MV.rm [entK [0, 0, 0, 0, 0]]).lt 5 = true
   exact h2
 rintro ⟨t, M, i8⟩ ⟨ht, hI⟩
 obtain ⟨m0, m1, m3, m8, n3, hcl, hlen, hfst, hnxt⟩ := hI
 by_cases ht2 : t < R.length - c
 ·obtain ⟨row, hrw⟩ : ∃ row, row = R.length - 1 - t := ⟨_, rfl⟩
  have hrl2 : row < R.length := by omega
  simp only at m0 m1 m3 m8 n3 hcl hlen hfst hnxt ht ht2
  rw [show (R.length : Int) - 1 - (t : Nat) = (row : Int) by omega] at m8
  obtain ⟨r, hr⟩ : ∃ r, R[row]? = some r := ⟨R[row], by simp [hrl2]⟩
  have hrd : R.getD row (0, 0) = r := by rw [List.getD_eq_getElem?_getD, hr]; rfl
  obtain ⟨nok, nsr⟩ := reachL_ok R C.length P t
  have hnext : reachL R C.length P (t + 1) = nextL (P row) (reachL R C.length P t) (rowSets C.length r.1 r.2) [] := by simp only [reachL, ← hrw, hrd]
  generalize reachL R C.length P t = now at *
  repeat (first | apply ef_seq | (apply ef_mv; exact rfl; exact rfl) | (apply ef_bin; (iterate 3 exact rfl); (exact cmp_t rfl (by first | exact rfl | (simp only [cmpP]; omega)))) | (apply ef_ldp; exact rfl; exact rfl; (assumption); exact rfl; (exact rfl); (exact rfl)) | (apply ef_newst; (iterate 3 exact rfl); (exact rfl); exact rfl) | (apply ef_mkm; exact rfl) | apply ef_nil | apply seqQ.normal | apply ef_block | apply ef_skip | (apply ef_condt; exact rfl; (exact (rfl : true = true))))
  dsimp only
  rw [show (M ++ [(⟨0, true, 1, [.tup []]⟩ : MObj)]).length = M.length + 1 by simp]
  show Ef _ _ _ _ _ _ _ (rfM M []) _
  have f0 : ∀ l, (rfM M l)[0]? = _ := fun l => rfM_at m0
  have f1 : ∀ l, (rfM M l)[1]? = _ := fun l => rfM_at m1
  have f3 : ∀ l, (rfM M l)[3]? = _ := fun l => rfM_at m3
  have f8 : ∀ l, (rfM M l)[i8]? = _ := fun l => rfM_at m8
  have fm := rfM_m M
  have fq := rfM_q M
  have g0 := f0 []
  have g8 := f8 []
  repeat (first | (apply ef_ldp; exact rfl; exact rfl; (assumption); exact rfl; (exact rfl); (first | exact rd_2 rfl rfl | exact rfl)) | apply ef_nil | apply seqQ.normal | apply ef_block | (apply ef_call; exact rfl; ((repeat (apply XVs.cons; exact rfl)); exact XVs.nil); (with_reducible exact rows_c (k + 3) R C row _)))
  refine ef_rf (α := List (List Int)) (ids := []) (fun i l => l = nextL (P row) now ((rowSets C.length r.1 r.2).take i) []) [(5, .ptr 1 0 0 0), (8, .ptr i8 0 0 0), (7, .ptr 3 0 0 0), (9, .ptr (M.length + 1) 0 0 0)] (rfM M) (rfM M)
   [] (by exact rfl) (rows1_it (k + 2) R C row r hC hr _) (by simp) (idsL_lt0 (by have h1 := encS_lt 0 R C; show ((encS R C).lt 0 && ((I64 row).lt 0 && true)) = true; rw [h1]; rfl)) (by ((repeat (refine Hold.cons (by exact rfl) ?_)); exact Hold.nil)) rfl rfl rfl rfl rfl (fun i l _ => .all (by rw [rfM_len, rfM_len]; exact Nat.le_refl _)) ?_ ?_
  ·intro i l x hx hl
   simp only [List.getElem?_map, Option.map_eq_some_iff] at hx
   obtain ⟨s, hs, rfl⟩ := hx
   have hs32 : s < 32 := by
    have h1 := List.mem_of_getElem? hs
    have h2 := List.mem_range.1 (List.mem_filter.1 h1).1
    have h3 := pow_le5 C.length hC
    omega
   have hstep : nextL (P row) now ((rowSets C.length r.1 r.2).take (i + 1)) [] = if P row s then addAll (now.map (plusV s 0)) l else l := by
    rw [List.take_add_one, hs, hl]; exact nextL_app _ _ _ _ _
   have hsl : Srt l := by rw [hl]; exact nextL_srt _ (by simp [Srt])
   have hol : OkL (t + 1) l := by rw [hl]; exact nextL_ok nok _ (fun v hv => by cases hv)
   clear hl
   have g1 := f1 l
   have g3 := f3 l
   have g8 := f8 l
   generalize hMr : rfM M l = Mr at *
   show Ef _ _ _ _ _ _ ((30, I64 s) :: [(5, .ptr 1 0 0 0), (8, .ptr i8 0 0 0), (7, .ptr 3 0 0 0), (9, .ptr (M.length + 1) 0 0 0)]) _ _
   repeat (first | (apply ef_mv; exact rfl; exact rfl) | apply ef_nil)
   apply preQ.normal
   repeat (first | apply ef_seq | (apply ef_mv; exact rfl; exact rfl) | (apply ef_ldp; exact rfl; exact rfl; (assumption); exact rfl; (exact rfl); (exact rfl)) | apply ef_block)
   (apply ef_callv; (· exact rfl); (· exact rfl); (· ((repeat (apply XVs.cons; exact rfl)); exact XVs.nil)); (· exact rfl); (· exact hcall row s hrl2 hs32 _))
   cases hP : P row s
   ·repeat (first | (apply ef_notF; exact rfl; exact rfl) | apply ef_nil | apply seqQ.normal | apply ef_exit | apply seqQ.exit | apply blockQ.here | (apply ef_condt; exact rfl; (exact (rfl : true = true))))
    exact rfQ.normal _ _ ⟨l, by rw [hstep]; simp [hP], hMr.symm⟩
   ·repeat (first | apply ef_seq | (apply ef_ldp; exact rfl; exact rfl; (assumption); exact rfl; (exact rfl); (exact rfl)) | (apply ef_notT; exact rfl; exact rfl) | apply ef_nil | apply seqQ.normal | apply ef_skip | (apply ef_condf; exact rfl; (exact (rfl : false = false))))
    subst hMr
    refine ef_mr (fun _ => false) (fun _ => [(9, .ptr (M.length + 1) 0 0 0), (10, I64 s)]) (fun p => rfM M (addAll ((p.map unK).map (plusV s 0)) l)) .normal [] (rfM M (addAll (now.map (plusV s 0)) l)) (by exact rfl) (entK_all now) rfl rfl rfl rfl (fun _ => rfl)
     (fun p l' _ _ => ⟨fun t ht => ?_, by rw [rfM_len]; exact rfM_cl _ hcl, by rw [rfM_len, rfM_len]⟩) (by ((repeat (refine Hold.cons (by exact rfl) ?_)); exact Hold.nil)) rfl (fun t ht => by cases ht) rfl (by rw [rfM_len]; exact rfM_cl _ hcl) (by rw [rfM_len, rfM_len]) (fun _ => ⟨rfl, fun p hp => ⟨Hold.nil, ?_⟩⟩) ?_ ?_
    ·simp only [List.mem_cons, List.not_mem_nil, or_false] at ht
     rcases ht with rfl | rfl
     ·exact ⟨_, rfl, by simp only [MV.lt, rfM_len, decide_eq_true_eq]; omega⟩
     ·exact ⟨_, rfl, rfl⟩
    ·rw [addAll_perm hsl]
     have h1 := (hp.map unK).map (plusV s 0)
     rwa [unK_map] at h1
    ·intro p kk vv l' hpm _
     have hmem : MV.tup [kk, vv] ∈ now.map entK := hpm.mem_iff.1 (by simp)
     obtain ⟨u, hu, e⟩ := List.mem_map.1 hmem
     obtain ⟨hu5, hub⟩ := nok u hu
     obtain ⟨a, b, c', d, e', rfl⟩ : ∃ a b c d e, u = [a, b, c, d, e] := by
      match u, hu5 with
      | [a, b, c, d, e], _ => exact ⟨a, b, c, d, e, rfl⟩
     simp only [MV.tup.injEq, List.cons.injEq, and_true] at e
     obtain ⟨rfl, rfl⟩ := e
     obtain ⟨l1, hl1⟩ : ∃ l1, l1 = addAll ((p.map unK).map (plusV s 0)) l := ⟨_, rfl⟩
     have hol1 : ∀ w ∈ l1, w.length = 5 := fun w hw => by
      rw [hl1] at hw
      rcases (mem_addAll _).1 hw with hw | hw
      ·obtain ⟨z, hz, rfl⟩ := List.mem_map.1 hw
       obtain ⟨y, hy, rfl⟩ := List.mem_map.1 hz
       have hy2 : y ∈ now.map entK := hpm.mem_iff.1 (by simp [hy])
       obtain ⟨x, hx, rfl⟩ := List.mem_map.1 hy2
       rw [unK_ent, plusV_len]; exact (nok x hx).1
      ·exact (hol w hw).1
     have hpl : (plusV s 0 [a, b, c', d, e']).length = 5 := by rw [plusV_len]; rfl
     obtain ⟨rr, hf1, hf2⟩ := mset_eq (plusV s 0 [a, b, c', d, e']) l1 (fun w hw => by rw [hpl, hol1 w hw])
     have hko := keysOk_eq (plusV s 0 [a, b, c', d, e']) l1 (fun w hw => by rw [hpl, hol1 w hw])
     have hfin : addAll (((p ++ [entK [a, b, c', d, e']]).map unK).map (plusV s 0)) l = insK (plusV s 0 [a, b, c', d, e']) l1 := by
      rw [List.map_append, List.map_append, hl1]
      have e3 : List.map (plusV s 0) (List.map unK [entK [a, b, c', d, e']]) = [plusV s 0 [a, b, c', d, e']] := by
       simp only [List.map_cons, List.map_nil, unK_ent]
      rw [e3]; exact addAll_app _ _ _
     rw [← hl1]
     have q1 : ∀ o : MObj, (rfM M l1 ++ [o])[M.length + 1]? = some ⟨0, false, 1, [.mp M.length 0]⟩ := fun o => by
      rw [List.getElem?_append_left (by rw [rfM_len]; omega)]; exact fq l1
     have q2 : ∀ o : MObj, (MV.mp M.length 0).ents (rfM M l1 ++ [o]) = some (l1.map entK) := fun o => by
      have : (rfM M l1 ++ [o])[M.length]? = some ⟨0, true, 1, [.tup (l1.map entK)]⟩ := by
       rw [List.getElem?_append_left (by rw [rfM_len]; omega)]; exact fm l1
      simp only [MV.ents, this, and_self, if_true]
     have q3 : ∀ o : MObj, (rfM M l1 ++ [o])[(rfM M l1).length]? = some o := fun o => at_endC _ _
     have q1' := q1 ⟨0, false, 5, [keyA [a, b, c', d, e']]⟩
     have q3' := q3 ⟨0, false, 5, [keyA [a, b, c', d, e']]⟩
     repeat (first | apply ef_seq | (apply ef_mv; exact rfl; exact rfl) | (apply ef_ldp; exact rfl; exact rfl; (assumption); exact rfl; (exact rfl); (first | exact rd_5 rfl rfl rfl rfl rfl | exact rfl)) | (apply ef_ext; (iterate 3 exact rfl)) | (apply ef_newst; (iterate 3 exact rfl); (exact rfl); exact rfl) | (apply ef_ent; exact rfl; exact rfl) | apply ef_nil | apply seqQ.normal | apply ef_block)
     (apply ef_call; (· exact rfl); (· ((repeat (apply XVs.cons; exact rfl)); exact XVs.nil)); · exact plus_k (k + 3) [a, b, c', d, e'] s rfl (fun x hx => by have := hub x hx; omega) hs32 _)
     repeat (first | (apply ef_build; exact rfl; (repeat (apply XVs.cons; exact rfl)); exact XVs.nil; exact rfl; exact rfl))
     refine ef_mup (by exact rfl) (by exact rfl) (by exact rfl) (q2 _) (by rw [List.length_map, hpl]) rfl hko rfl hf1 ?_
     rw [show mset (l1.map entK) (.tup [keyA (plusV s 0 [a, b, c', d, e']), .agg []]) rr = (insK (plusV s 0 [a, b, c', d, e']) l1).map entK from hf2]
     repeat (first | apply ef_nil | apply blockQ.normal)
     refine mrQ.normal _ _ ⟨rfl, ⟨_, _, by exact rfl⟩, by ((repeat (refine Hold.cons (by exact rfl) ?_)); exact Hold.nil), ?_⟩
     rw [hfin, rfM_len]
     exact mr_set
    ·repeat (first | apply blockQ.normal)
     exact rfQ.normal _ _ ⟨_, by rw [hstep, if_pos hP], rfl⟩
  ·intro l hl
   rw [List.take_of_length_le (by simp)] at hl
   rw [← hnext] at hl
   have g3 := f3 l
   have gq := fq l
   repeat (first | (apply ef_ldp; exact rfl; exact rfl; (assumption); exact rfl; (exact rfl); (exact rfl)) | apply seqQ.normal | apply blockQ.normal)
   (apply ef_st; (· exact rfl); (· exact rfl); (· exact rfl); (· exact g3); (· exact rfl); (· exact rfl); (· exact rfl); (· exact rfl))
   obtain ⟨H, hH⟩ : ∃ H, H = (rfM M l).set 3 ⟨0, false, 1, [.mp M.length 0]⟩ := ⟨_, rfl⟩
   show Ef _ _ _ _ _ _ _ ((rfM M l).set 3 ⟨0, false, 1, [.mp M.length 0]⟩) _
   rw [← hH]
   have hHl : H.length = M.length + 2 := by rw [hH, List.length_set, rfM_len]
   have hH3 : H[3]? = some ⟨0, false, 1, [.mp M.length 0]⟩ := by rw [hH, List.getElem?_set_self (by rw [rfM_len]; omega)]
   have hHi : ∀ i, i ≠ 3 → H[i]? = (rfM M l)[i]? := fun i hi => by rw [hH, List.getElem?_set_ne (Ne.symm hi)]
   have hHm : H[M.length]? = some ⟨0, true, 1, [.tup (l.map entK)]⟩ := by rw [hHi _ (by omega)]; exact fm l
   have hHc : hltL (M.length + 2) H = true := by
    rw [hH]
    refine hltL_set (rfM_cl l hcl) ?_
    simp only [ltL, MV.lt, Bool.and_true, decide_eq_true_eq]; omega
   repeat (first | apply ef_seq | apply ef_nil | apply seqQ.normal | apply blockQ.normal)
   refine ef_give (by exact rfl) (seal_mp hH3 hHm (by omega) (entK_lt 0 l)) ?_
   obtain ⟨H2, hH2⟩ : ∃ H2, H2 = sM H M.length 3 (l.map entK) := ⟨_, rfl⟩
   rw [← hH2]
   have h2l : H2.length = M.length + 2 := by rw [hH2, sM_len, hHl]
   have h23 : H2[3]? = some ⟨0, false, 1, [.rm (l.map entK)]⟩ := by rw [hH2]; exact sM_j (by omega)
   have h2i : ∀ i, i ≠ M.length → i ≠ 3 → H2[i]? = (rfM M l)[i]? := fun i h1 h2 => by rw [hH2, sM_at h1 h2, hHi i h2]
   have h2c : hltL (M.length + 2) H2 = true := by rw [hH2]; exact sM_cl hHc (entK_lt _ l)
   have i8l : i8 < M.length := (List.getElem?_eq_some_iff.1 m8).1
   have g8 : H2[i8]? = some ⟨0, false, 1, [I64 row]⟩ := by rw [h2i i8 (by omega) n3]; exact f8 l
   have g9 := at_endC H2 ⟨0, false, 1, [I64 row]⟩
   repeat (first | (apply ef_bin; (iterate 3 exact rfl); (((with_reducible refine bin_sub (wrap_of ?_ ?_)) <;> omega))) | (apply ef_ldp; exact rfl; exact rfl; (assumption); exact rfl; (exact rfl); (exact rfl)) | (apply ef_newst; (iterate 3 exact rfl); (exact rfl); exact rfl) | apply ef_nil | apply seqQ.normal)
   (apply ef_st; (· exact rfl); (· exact rfl); (· exact rfl); (· exact g9); (· exact rfl); (· exact rfl); (· exact rfl); (· exact rfl))
   show Ef _ _ _ _ _ _ _ ((H2 ++ [(⟨0, false, 1, [I64 row]⟩ : MObj)]).set H2.length ⟨0, false, 1, [I64 ((row : Int) - 1)]⟩) _
   rw [set_endC]
   repeat (first | apply ef_nil)
   refine loopQ.normal _ _ ⟨(t + 1, H2 ++ [⟨0, false, 1, [I64 ((row : Int) - 1)]⟩], H2.length), ⟨?_, ?_⟩, ?_, ⟨by ((repeat (refine Hold.cons (by exact rfl) ?_)); exact Hold.nil), by ((repeat (refine Hold.cons (by exact rfl) ?_)); exact Hold.nil)⟩, .slot 8 (.ptr H2.length 0 0 0) (by simp) (by exact rfl) ?_⟩
   ·show t + 1 ≤ R.length - c
    omega
   ·show StR R C (.fn g q caps) (reachL R C.length P (t + 1)) (t + 1) (H2 ++ [⟨0, false, 1, [I64 ((row : Int) - 1)]⟩]) H2.length
    rw [← hl]
    have up : ∀ {i : Nat} {o : MObj}, H2[i]? = some o → (H2 ++ [(⟨0, false, 1, [I64 ((row : Int) - 1)]⟩ : MObj)])[i]? = some o := fun {i o} h => by
     rw [List.getElem?_append_left (List.getElem?_eq_some_iff.1 h).1]; exact h
    refine ⟨up (by rw [h2i 0 (by omega) (by omega)]; exact f0 l), up (by rw [h2i 1 (by omega) (by omega)]; exact f1 l), up h23, ?_, by omega, ?_, by simp; omega, fun h => absurd h (by omega), fun _ => by omega⟩
    ·rw [at_endC]
     rw [show (R.length : Int) - 1 - ((t + 1 : Nat) : Int) = (row : Int) - 1 by omega]
    ·have h5 := hltL_le (show M.length + 2 ≤ (H2 ++ [(⟨0, false, 1, [I64 ((row : Int) - 1)]⟩ : MObj)]).length by simp; omega) h2c
     unfold hltL at *
     rw [List.all_append, h5]
     rfl
   ·show R.length - c - (t + 1) < R.length - c - t
    omega
   ·show decide (H2.length < 5) = false
    rw [decide_eq_false_iff_not]; omega
 ·obtain rfl : t = R.length - c := by omega
  repeat (first | apply ef_seq | (apply ef_mv; exact rfl; exact rfl) | (apply ef_bin; (iterate 3 exact rfl); (exact cmp_f rfl (by simp only [cmpP]; omega))) | (apply ef_ldp; exact rfl; exact rfl; (assumption); exact rfl; (exact rfl); (exact rfl)) | apply ef_nil | apply seqQ.normal | apply loopQ.exit | apply ef_ret | apply ef_exit | apply seqQ.exit | apply blockQ.here | (apply ef_condf; exact rfl; (exact (rfl : false = false))))
  refine fin1 rfl (by exact rfl) ?_ rfl
  exact entK_lt 0 _
end Go.Proofs.YtnmgpbihknjdjaaDoor

/- Chapter 9: is there a body? -/
namespace Go.Proofs.YtnmgpbihknjdjaaDoor
open Go.RowKit
set_option linter.unusedVariables false
theorem ltS2 (R C : List (Int × Int)) (f : MV) (hf : f.lt 0 = true) : ltL 0 [encS R C, f] = true := by
 have h1 := encS_lt 0 R C
 show ((encS R C).lt 0 && (f.lt 0 && true)) = true
 rw [h1, hf]; rfl
theorem ltS3 (R C : List (Int × Int)) (c : Int) (f : MV) (hf : f.lt 0 = true) : ltL 0 [encS R C, I64 c, f] = true := by
 have h1 := encS_lt 0 R C
 show ((encS R C).lt 0 && ((I64 c).lt 0 && (f.lt 0 && true))) = true
 rw [h1, hf]; rfl
theorem MayB.lt {k : Nat} {f : MV} {P : Nat → Nat → Bool} {n : Nat} (h : MayB k f P n) : f.lt 0 = true := by
 obtain ⟨_, _, _, _, h, _⟩ := h; exact h
theorem reached_c (k : Nat) (R C : List (Int × Int)) (c : Nat) (f : MV) (P : Nat → Nat → Bool) (hR : R.length ≤ 5) (hc : c ≤ R.length) (hC : C.length ≤ 5) (hf : MayB (k + 4) f P R.length) (h : MHeap) :
  orA (k + 5) 19 [encS R C, I64 c, f] h = some (.rm ((reachL R C.length P (R.length - c)).map entK), h) := by
 have hl : (MV.rm ((reachL R C.length P (R.length - c)).map entK)).lt 0 = true := entK_lt 0 _
 have := callA (k := k + 4) (h := h) (args := [encS R C, I64 c, f]) (args' := [encS R C, I64 c, f]) (frzL_lt (ltS3 R C c f hf.lt)) rfl (reached_z k R C c f P hR hc hC hf) (by rw [ltS3 R C c f hf.lt]; show (MV.lt 0 _ && true) = true; rw [hl]; rfl) rfl
 simpa [shV, sh1] using this
def possB (R C : List (Int × Int)) (P : Nat → Nat → Bool) : Bool := (reachL R C.length P R.length).any (hasB C)
theorem mf_possible : MT.mf 26 = some ⟨17, [(.tmp 4)], (.seq (.reg [gO 2 (.box 2 (.s 0)), gO 4 (.mv cF)]) (.seq (.seq (.reg [gO 6 (.ld (some 2) (.s 2)), gO 7 (.mv (.s 1)), gO 8 (.call 19 [.s 6, (cI 0), .s 7])]) (.mr [4, 2] [4] 0 (.s 8) 9 10 11 (.block 1 (.seq (.reg [gO 12 (.ent (.s 9)), gO 13 (.ext (.s 12) 0), gO 5 (.new (.agg [(.lit (.int .i64 0)), (.lit (.int .i64 0)), (.lit (.int .i64 0)), (.lit (.int .i64 0)), (.lit (.int .i64 0))])), ⟨none, none, .st 5 (.s 5) (.s 13)⟩]) (.seq (.reg [gO 14 (.ld (some 2) (.s 2)), gO 15 (.ld (some 5) (.s 5)), gO 16 (.call 21 [.s 14, .s 15])]) (.cond (.s 16) (.seq (.reg [gO 4 (.mv cT)]) .ret) .skip)))))) (.seq (.reg [gO 4 (.mv cF)]) .ret)))⟩ := by kernel_rfl
set_option maxHeartbeats 4000000 in
theorem possible_z (k : Nat) (R C : List (Int × Int)) (f : MV) (P : Nat → Nat → Bool) (hR : R.length ≤ 5) (hC : C.length ≤ 5) (hf : MayB (k + 4) f P R.length) :
  runZ MT (orA (k + 5)) (itA (k + 5)) 4000000 26 [encS R C, f] [] = some (Bo (possB R C P), []) := by
 refine runZ_of mf_possible (by simp) ?_
 simp only [argsL]
 have hre : ∀ h, orA (k + 5) 19 [encS R C, I64 0, f] h = some (.rm ((reachL R C.length P R.length).map entK), h) := fun h => reached_c k R C 0 f P hR (Nat.zero_le _) hC hf h
 have hpo : possB R C P = (reachL R C.length P R.length).any (hasB C) := rfl
 obtain ⟨nok, _⟩ := reachL_ok R C.length P R.length
 generalize reachL R C.length P R.length = now at *
 repeat (first | apply ef_seq | (apply ef_mv; exact rfl; exact rfl) | (apply ef_ldp; exact rfl; exact rfl; (exact rfl); exact rfl; (exact rfl); (exact rd_2 rfl rfl)) | (apply ef_box; (iterate 4 exact rfl)) | apply ef_nil | apply seqQ.normal | (apply ef_call; exact rfl; ((repeat (apply XVs.cons; exact rfl)); exact XVs.nil); (with_reducible exact hre _)))
 refine ef_mr (fun m => hasB C (unK m)) (fun _ => [(4, Bo false), (2, .ptr 0 0 0 0)]) (fun _ => [⟨0, false, 2, [encS R C]⟩]) (if possB R C P then .ret else .normal) [(4, Bo (possB R C P))] [⟨0, false, 2, [encS R C]⟩] (by exact rfl) (entK_all now) rfl rfl rfl rfl (fun _ => rfl)
  (fun p l' _ _ => ⟨fun t ht => ?_, ?_, rfl⟩) (by ((repeat (refine Hold.cons (by exact rfl) ?_)); exact Hold.nil)) rfl (fun t ht => ?_) rfl ?_ rfl (fun hno => ?_) ?_ ?_
 ·simp only [List.mem_cons, List.not_mem_nil, or_false] at ht
  rcases ht with rfl | rfl
  ·exact ⟨_, rfl, rfl⟩
  ·exact ⟨_, rfl, rfl⟩
 ·show (((encS R C).lt 1 && true) && true) = true
  rw [encS_lt]; rfl
 ·simp only [List.mem_cons, List.not_mem_nil, or_false] at ht
  subst ht
  exact ⟨_, rfl, rfl⟩
 ·show (((encS R C).lt 1 && true) && true) = true
  rw [encS_lt]; rfl
 ·have hn : possB R C P = false := by
   rw [hpo, List.any_eq_false]
   intro u hu
   have := hno (entK u) (List.mem_map.2 ⟨u, hu, rfl⟩)
   rw [unK_ent] at this
   simp [this]
  rw [hn]
  exact ⟨rfl, fun p _ => ⟨by ((repeat (refine Hold.cons (by exact rfl) ?_)); exact Hold.nil), rfl⟩⟩
 ·intro p kk vv l' hpm hnh
  have hmem : MV.tup [kk, vv] ∈ now.map entK := hpm.mem_iff.1 (by simp)
  obtain ⟨u, hu, e⟩ := List.mem_map.1 hmem
  obtain ⟨hu5, _⟩ := nok u hu
  simp only [MV.tup.injEq, List.cons.injEq, and_true] at e
  obtain ⟨rfl, rfl⟩ := e
  have hun : unK (.tup [keyA u, .agg []]) = u := unK_ent u
  obtain ⟨a, b, c', d, e', rfl⟩ : ∃ a b c d e, u = [a, b, c, d, e] := by
   match u, hu5 with
   | [a, b, c, d, e], _ => exact ⟨a, b, c, d, e, rfl⟩
  have hcon := has_c (k + 3) R C [a, b, c', d, e'] rfl hC
  cases hh : hasB C [a, b, c', d, e'] <;> rw [hh] at hcon
  ·repeat (first | apply ef_seq | (apply ef_ldp; exact rfl; exact rfl; (exact rfl); exact rfl; (exact rfl); (first | exact rd_2 rfl rfl | exact rd_5 rfl rfl rfl rfl rfl)) | (apply ef_ext; (iterate 3 exact rfl)) | (apply ef_newst; (iterate 3 exact rfl); (exact rfl); exact rfl) | (apply ef_ent; exact rfl; exact rfl) | apply ef_nil | apply seqQ.normal | apply ef_block)
   (apply ef_call; (· exact rfl); (· ((repeat (apply XVs.cons; exact rfl)); exact XVs.nil)); · exact hcon _)
   repeat (first | apply ef_nil | apply seqQ.normal | apply blockQ.normal | apply ef_skip | (apply ef_condf; exact rfl; (exact (rfl : false = false))))
   refine mrQ.normal _ _ ⟨by rw [hun]; exact hh, ⟨_, _, by exact rfl⟩, by ((repeat (refine Hold.cons (by exact rfl) ?_)); exact Hold.nil), rfl⟩
  ·have hp1 : possB R C P = true := by
    rw [hpo, List.any_eq_true]
    exact ⟨_, hu, hh⟩
   rw [hp1]
   repeat (first | apply ef_seq | (apply ef_ldp; exact rfl; exact rfl; (exact rfl); exact rfl; (exact rfl); (first | exact rd_2 rfl rfl | exact rd_5 rfl rfl rfl rfl rfl)) | (apply ef_ext; (iterate 3 exact rfl)) | (apply ef_newst; (iterate 3 exact rfl); (exact rfl); exact rfl) | (apply ef_ent; exact rfl; exact rfl) | apply ef_nil | apply seqQ.normal | apply ef_block)
   (apply ef_call; (· exact rfl); (· ((repeat (apply XVs.cons; exact rfl)); exact XVs.nil)); · exact hcon _)
   repeat (first | apply ef_seq | (apply ef_mv; exact rfl; exact rfl) | apply ef_nil | apply seqQ.normal | apply ef_ret | apply blockQ.ret | (apply ef_condt; exact rfl; (exact (rfl : true = true))))
   exact mrQ.ret _ _ ⟨by rw [hun]; exact hh, rfl, by ((repeat (refine Hold.cons (by exact rfl) ?_)); exact Hold.nil), rfl⟩
 ·cases possB R C P
  ·repeat (first | apply ef_seq | (apply ef_mv; exact rfl; exact rfl) | apply ef_nil | apply seqQ.normal | apply ef_ret)
   (refine fin1 rfl (by exact rfl) rfl ?_)
   rfl
  ·repeat (first | apply seqQ.ret)
   (refine fin1 rfl (by exact rfl) rfl ?_)
   rfl
theorem possible_c (k : Nat) (R C : List (Int × Int)) (f : MV) (P : Nat → Nat → Bool) (hR : R.length ≤ 5) (hC : C.length ≤ 5) (hf : MayB (k + 4) f P R.length) (h : MHeap) :
  orA (k + 6) 26 [encS R C, f] h = some (Bo (possB R C P), h) := callL (args' := [encS R C, f]) (frzL_lt (ltS2 R C f hf.lt)) rfl (possible_z k R C f P hR hC hf)
end Go.Proofs.YtnmgpbihknjdjaaDoor

/- Chapter 9: which sets may be; the shadow of the examples. -/
namespace Go.Proofs.YtnmgpbihknjdjaaDoor
open Go.RowKit
set_option linter.unusedVariables false
theorem any_c (k : Nat) (row set : Nat) (h : MHeap) : orA (k + 1) 20 [I64 row, I64 set] h = some (Bo true, h) := callL (args' := [I64 row, I64 set]) rfl rfl (by kernel_rfl)
theorem may_any (k n : Nat) : MayB (k + 1) (.fn 20 0 []) (fun _ _ => true) n := ⟨_, _, _, rfl, rfl, fun row set _ _ h => any_c k row set h⟩
def prefP (w : List Nat) (row set : Nat) : Bool := match w[row]? with
 | none => true
 | some s => s == set
abbrev natL (w : List Nat) : List MV := w.map fun s : Nat => I64 (s : Int)
theorem natL_lt (n : Nat) (w : List Nat) : ltL n (natL w) = true := ltL_iff'.2 fun m hm => by obtain ⟨e, _, rfl⟩ := List.mem_map.1 hm; rfl
theorem mf_pre : MT.mf 30 = some ⟨18, [(.tmp 5)], (.seq (.reg [gO 5 (.mv cF)]) (.seq (.reg [gO 6 (.mv (.s 0)), gO 7 (.ld none (.s 2)), gO 8 (.len (.s 7)), gO 9 (.bin .geq (.s 6) (.s 8)), gO 10 (.mv (.s 9)), ⟨some (10, false), some 11, .ld none (.s 2)⟩, ⟨some (10, false), some 12, .mv (.s 0)⟩, ⟨some (10, false), some 13, .ia 1 (.s 11) (.s 12)⟩, ⟨some (10, false), some 14, .ld none (.s 13)⟩, ⟨some (10, false), some 15, .mv (.s 1)⟩, ⟨some (10, false), some 16, .bin .eql (.s 14) (.s 15)⟩, gO 17 (.pick (.s 10) cT (.s 16)), gO 5 (.mv (.s 17))]) .ret))⟩ := by kernel_rfl
theorem pre_z (k : Nat) (w : List Nat) (row set : Nat) (hr : row < 5) : runZ MT (orA k) (itA k) 4000000 30 [I64 row, I64 set, .rp (.sl (natL w)) 0] [] = some (Bo (prefP w row set), []) := by
 refine runZ_of mf_pre (by simp) ?_
 simp only [argsL]
 have hcl : (MV.sl (natL w)).slen = some w.length := by simp [MV.slen]
 unfold prefP
 cases hw : w[row]? with
 | none =>
  have hle : w.length ≤ row := List.getElem?_eq_none_iff.1 hw
  repeat (first | apply ef_seq | (apply ef_mv; exact rfl; exact rfl) | (apply ef_bin; (iterate 3 exact rfl); (exact cmp_t rfl (by first | exact rfl | (simp only [cmpP]; omega)))) | (apply ef_gn; exact rfl; (exact (rfl : true = true)); exact rfl) | (apply ef_pick; (iterate 3 exact rfl)) | (apply ef_len; exact rfl; exact rfl; (assumption)) | (apply ef_ldr; exact rfl; exact rfl; (exact rfl)) | apply ef_nil | apply seqQ.normal | apply ef_ret)
  (refine fin1 rfl (by exact rfl) rfl ?_)
  rfl
 | some s =>
  have hlt := (List.getElem?_eq_some_iff.1 hw).1
  have hat : (natL w)[(row : Int).toNat]? = some (I64 s) := by simp [hw]
  by_cases e : s = set
  ·subst e
   repeat (first | apply ef_seq | (apply ef_mv; exact rfl; exact rfl) | (apply ef_bin; (iterate 3 exact rfl); (first | exact cmp_t rfl (by first | exact rfl | (simp only [cmpP]; omega)) | exact cmp_f rfl (by simp only [cmpP]; omega))) | (apply ef_gy; exact rfl; (exact (rfl : false = false))) | (apply ef_pick; (iterate 3 exact rfl)) | (apply ef_len; exact rfl; exact rfl; (assumption)) | (apply ef_ldr; exact rfl; exact rfl; (exact rfl)) | (apply ef_ias; (iterate 3 exact rfl); (omega); assumption; exact rfl) | apply ef_nil | apply seqQ.normal | apply ef_ret)
   (refine fin1 rfl (by exact rfl) rfl ?_)
   simp
  ·have : (s : Int) ≠ set := by omega
   repeat (first | apply ef_seq | (apply ef_mv; exact rfl; exact rfl) | (apply ef_bin; (iterate 3 exact rfl); (exact cmp_f rfl (by simp only [cmpP]; omega))) | (apply ef_gy; exact rfl; (exact (rfl : false = false))) | (apply ef_pick; (iterate 3 exact rfl)) | (apply ef_len; exact rfl; exact rfl; (assumption)) | (apply ef_ldr; exact rfl; exact rfl; (exact rfl)) | (apply ef_ias; (iterate 3 exact rfl); (omega); assumption; exact rfl) | apply ef_nil | apply seqQ.normal | apply ef_ret)
   (refine fin1 rfl (by exact rfl) rfl ?_)
   simp [e]
theorem may_pre (k : Nat) (w : List Nat) (n : Nat) (hn : n ≤ 5) : MayB (k + 1) (.fn 30 0 [.rp (.sl (natL w)) 0]) (prefP w) n :=
 ⟨_, _, _, rfl, by show (ltL 0 (natL w) && true) = true; rw [natL_lt]; rfl, fun row set hr _ h => callL (args' := [I64 row, I64 set, .rp (.sl (natL w)) 0]) (frzL_lt (by show (true && (true && (ltL 0 (natL w) && true))) = true; rw [natL_lt]; rfl)) rfl (pre_z k w row set (by omega))⟩
theorem possible_f (k : Nat) (R C : List (Int × Int)) (f : MV) (P : Nat → Nat → Bool) (hR : R.length ≤ 5) (hC : C.length ≤ 5) (hf : MayB (k + 4) f P R.length) {args : List MV} {h : MHeap} (ha : args.mapM (frz 0 [] h 8) = some [encS R C, f]) :
  orA (k + 6) 26 args h = some (Bo (possB R C P), h) := callL ha rfl (possible_z k R C f P hR hC hf)
abbrev shR : List (Int × Int) := [(1, 1), (2, 2)]
abbrev shC : List (Int × Int) := [(1, 2), (1, 1), (0, 1)]
theorem shadow_x (k : Nat) : runZ MT (orA k) (itA k) 4000000 16 [] [] = some (encS shR shC, []) := by kernel_rfl
theorem check_x (k : Nat) : runZ MT (orA (k + 5)) (itA (k + 5)) 4000000 31 [encS shR shC] [] = some (.tup [I64 0, I64 0], []) := by kernel_rfl
theorem poss_x : possB shR shC (fun _ _ => true) = true := by kernel_rfl
end Go.Proofs.YtnmgpbihknjdjaaDoor

/- Chapter 9: the first body. -/
namespace Go.Proofs.YtnmgpbihknjdjaaDoor
open Go.RowKit
set_option linter.unusedVariables false
section
variable {n : Nat}
theorem impR_lt0 : ∀ {v w : MV}, v.lt 0 = true → w.lt 0 = true → impIds 0 [v, w] = [] := fun {v w} h1 h2 => by
 cases v <;> first | (simp [MV.lt] at h1; done) | (cases w <;> first | (simp [MV.lt] at h2; done) | simp [impIds])
theorem resC {A : Sl} {h : MHeap} {t id i off g : Nat} {ag : Option Nat} {o : MObj} {e v : MV} (h1 : look A t = some (.ptr id i off g)) (h2 : h[id]? = some o) (h3 : o.g = g) (h4 : o.es[i]? = some e) (h5 : rdCells e.cells off ag = some v) : ResV A h (.cell t ag) v := ⟨id, i, off, g, o, e, h1, h2, h3, h4, h5⟩
theorem finR2 {x : MX2} {A : Sl} {h : MHeap} {r1 r2 : MRes} {v w m : MV} (hx : outX x = true) (h1 : ResV A h r1 v) (h2 : ResV A h r2 w) (l1 : v.lt 0 = true) (l2 : w.lt 0 = true) (hm : MV.tup [v, w] = m) : FinF [r1, r2] m [] x A h := by
 subst hm
 have hi := impR_lt0 l1 l2
 refine ⟨hx, [v, w], [v, w], ⟨v, [w], rfl, h1, w, [], rfl, h2, rfl⟩, by rw [hi]; simp, ?_, rfl⟩
 rw [hi]
 cases v <;> first | (simp [MV.lt] at l1; done) | (cases w <;> first | (simp [MV.lt] at l2; done) | simp [expL, frz, l1, l2])
end
theorem check_xc (k : Nat) (h : MHeap) : orA (k + 6) 31 [encS shR shC] h = some (.tup [I64 0, I64 0], h) := by
 have := callA (k := k + 5) (h := h) (args := [encS shR shC]) (args' := [encS shR shC]) rfl rfl (check_x k) rfl rfl
 simpa [shV, sh1] using this
theorem mf_open : MT.mf 18 = some ⟨21, [(.cell 2 (some 2)), (.tmp 3)], (.seq (.reg [gO 1 (.box 2 (.s 0)), gO 2 (.new (.agg [(.lit (.slice none 0 0)), (.lit (.slice none 0 0))])), gO 3 (.mv (cI 0))]) (.seq (.reg [gO 8 (.ld (some 2) (.s 1)), gO 9 (.call 31 [.s 8]), gO 7 (.mv (.s 9)), gO 10 (.ext (.s 7) 0), gO 11 (.ext (.s 7) 1), gO 4 (.mv (.s 10)), gO 5 (.mv (.s 11))]) (.seq (.reg [gO 12 (.ld (some 2) (.s 1)), gO 13 (.build [(.lit (.slice none 0 0)), (.lit (.slice none 0 0))] [(0, (2, (.s 12)))]), gO 6 (.new (.agg [(.lit (.slice none 0 0)), (.lit (.slice none 0 0))])), ⟨none, none, .st 2 (.s 6) (.s 13)⟩]) (.seq (.seq (.reg [gO 14 (.mv (.s 5)), gO 15 (.bin .eql (.s 14) (cI 0))]) (.cond (.s 15) (.reg [gO 16 (.ld (some 2) (.s 6)), gO 17 (.call 26 [.s 16, (.c (.fn 20 0 []))]), gO 18 (.call 33 [.s 17, (cI 12)]), gO 5 (.mv (.s 18))]) .skip)) (.seq (.reg [gO 19 (.ld (some 2) (.s 6)), gO 20 (.mv (.s 5)), ⟨none, none, .st 2 (.s 2) (.s 19)⟩, gO 3 (.mv (.s 20))]) .ret)))))⟩ := by kernel_rfl
theorem open_z (k : Nat) : runZ MT (orA (k + 6)) (itA (k + 6)) 4000000 18 [encS shR shC] [] = some (.tup [encS shR shC, I64 0], []) := by
 refine runZ_of mf_open (by simp) ?_
 simp only [argsL]
 have hp : ∀ h, orA (k + 6) 26 [encS shR shC, .fn 20 0 []] h = some (Bo true, h) := fun h => by
  have h1 := possible_c k shR shC (.fn 20 0 []) (fun _ _ => true) (by decide) (by decide) (may_any (k + 3) _) h
  rw [poss_x] at h1
  exact h1
 repeat (first | apply ef_seq | (apply ef_mv; exact rfl; exact rfl) | (apply ef_ldp; exact rfl; exact rfl; (exact rfl); exact rfl; (exact rfl); (exact rd_2 rfl rfl)) | (apply ef_box; (iterate 4 exact rfl)) | (apply ef_new; exact rfl) | apply ef_nil | apply seqQ.normal)
 (apply ef_call; (· exact rfl); (· ((repeat (apply XVs.cons; exact rfl)); exact XVs.nil)); · exact check_xc k _)
 repeat (first | apply ef_seq | (apply ef_mv; exact rfl; exact rfl) | (apply ef_bin; (iterate 3 exact rfl); (exact cmp_t rfl (by first | exact rfl | (simp only [cmpP]; omega)))) | (apply ef_ldp; exact rfl; exact rfl; (exact rfl); exact rfl; (exact rfl); (exact rd_2 rfl rfl)) | (apply ef_ext; (iterate 3 exact rfl)) | (apply ef_newst; (iterate 3 exact rfl); (exact rfl); exact rfl) | (apply ef_build; exact rfl; (repeat (apply XVs.cons; exact rfl)); exact XVs.nil; exact rfl; exact rfl) | apply ef_nil | apply seqQ.normal | (apply ef_condt; exact rfl; (exact (rfl : true = true))))
 (apply ef_call; (· exact rfl); (· ((repeat (apply XVs.cons; exact rfl)); exact XVs.nil)); · exact hp _)
 repeat (fail)
 (apply ef_call; (· exact rfl); (· ((repeat (apply XVs.cons; exact rfl)); exact XVs.nil)); · exact unless_c (k + 5) true 12 _ (e := 0) rfl)
 repeat (first | apply ef_seq | (apply ef_mv; exact rfl; exact rfl) | (apply ef_ldp; exact rfl; exact rfl; (exact rfl); exact rfl; (exact rfl); (exact rd_2 rfl rfl)) | (apply ef_st; (iterate 6 exact rfl); (exact rfl); exact rfl) | apply ef_nil | apply seqQ.normal | apply ef_ret)
 refine finR2 (v := encS shR shC) (w := I64 0) rfl ?_ (by exact rfl) rfl rfl rfl
 apply resC <;> exact rfl
theorem open_xc (k : Nat) (h : MHeap) : orA (k + 7) 18 [encS shR shC] h = some (.tup [encS shR shC, I64 0], h) := by
 have := callA (k := k + 6) (h := h) (args := [encS shR shC]) (args' := [encS shR shC]) rfl rfl (open_z k) rfl rfl
 simpa [shV, sh1] using this
theorem ef_eqns {O : Oracle} {I : Iter} {N n : Nat} {lk : Nat → Bool} {A : Sl} {h : MHeap} {Q : MX2 → Sl → MHeap → Prop} {os : List GO} {t : Nat} {neg : Bool} {x : MX} {e : MV} {es : List MV} (ht : Nat.blt t n = true) (hx : XV A x (.sl (e :: es))) (hE : Ef O I N n lk (.reg os) ((t, .lit (.bool neg)) :: A) h Q) : Ef O I N n lk (.reg (⟨none, some t, .eqn neg x⟩ :: os)) A h Q :=
 ef_op (fun S HS => by simp only [evO, HS.x hx]) ht hE
theorem natL_sOk (w : List Nat) : (natL w).all (MV.sOk 1) = true := by
 rw [List.all_eq_true]
 intro m hm
 obtain ⟨e, _, rfl⟩ := List.mem_map.1 hm
 rfl
theorem mf_clone : MT.mf 29 = some ⟨8, [(.tmp 2)], (.seq (.reg [gO 2 (.nil0 1)]) (.seq (.seq (.reg [gO 3 (.mv (.s 0)), gO 4 (.eqn false (.s 3))]) (.cond (.s 4) (.seq (.reg [gO 2 (.nil0 1)]) .ret) .skip)) (.seq (.reg [gO 5 (.bsl (.lit (.int .i64 0)) 1 0 []), gO 6 (.mv (.s 0)), gO 7 (.app 1 (.s 5) (.s 6)), gO 2 (.mv (.s 7))]) .ret)))⟩ := by kernel_rfl
theorem clone_z (k : Nat) (s : Nat) (w : List Nat) (hl : (s :: w).length ≤ 1000) : runZ MT (orA k) (itA k) 4000000 29 [.sl (natL (s :: w))] [] = some (.arr 0 0 (s :: w).length 0, [⟨0, false, 1, natL (s :: w)⟩]) := by
 have q1 := natL_sOk (s :: w)
 refine runZ_of mf_clone (by simp) ?_
 simp only [argsL]
 repeat (first | apply ef_seq | (apply ef_mv; exact rfl; exact rfl) | (apply ef_nil0; exact rfl) | apply ef_nil | apply seqQ.normal)
 refine ef_eqns (by exact rfl) (by exact rfl) ?_
 repeat (first | apply ef_seq | (apply ef_mv; exact rfl; exact rfl) | (apply ef_bsl; exact rfl; (repeat (apply XVs.cons; exact rfl)); exact XVs.nil; exact rfl) | apply ef_nil | apply seqQ.normal | apply ef_skip | (apply ef_condf; exact rfl; (exact (rfl : false = false))))
 (apply ef_app; (· exact rfl); (· exact rfl); (· exact rfl); (· exact rfl); (· exact rfl); (· exact rfl); (· exact rfl); (· exact rfl); (· (simp at hl ⊢; omega)); (· exact q1); (· exact rfl))
 repeat (first | (apply ef_mv; exact rfl; exact rfl) | apply ef_nil | apply seqQ.normal | apply ef_ret)
 (apply fin_arr; (· exact rfl); (· exact rfl); (· exact rfl); (· exact rfl); (· simp); (· (exact natL_lt 0 (s :: w))); (· (simp; rw [List.take_of_length_le (by simp)])); (· exact rfl); (· exact rfl); (· (simp)))
end Go.Proofs.YtnmgpbihknjdjaaDoor

/- Chapter 9: the first body. -/
namespace Go.Proofs.YtnmgpbihknjdjaaDoor
open Go.RowKit
set_option linter.unusedVariables false
def pickB (R C : List (Int × Int)) (w : List Nat) (i : Nat) : Option Nat := (rowSets C.length (R.getD i (0, 0)).1 (R.getD i (0, 0)).2).find? fun s => possB R C (prefP (w ++ [s]))
def bodyB (R C : List (Int × Int)) : Nat → List Nat
 | 0 => []
 | i + 1 => bodyB R C i ++ [(pickB R C (bodyB R C i) i).getD 0]
theorem bodyB_len (R C : List (Int × Int)) : ∀ i, (bodyB R C i).length = i
 | 0 => rfl
 | i + 1 => by simp [bodyB, bodyB_len R C i]
theorem natL_pure : ∀ w : List Nat, pureL (natL w) = true
 | [] => rfl
 | s :: w => by
  show (true && pureL (natL w)) = true
  rw [natL_pure w]; rfl
inductive RowAt (M : MHeap) : MV → List Nat → Prop
 | none : RowAt M (.lit (.slice none 0 0)) []
 | some (id g : Nat) (w : List Nat) : w ≠ [] → M[id]? = some ⟨g, false, 1, natL w⟩ → RowAt M (.arr id 0 w.length g) w
theorem clone_c (k : Nat) {M : MHeap} {v : MV} {w : List Nat} (hv : RowAt M v w) (hl : w.length ≤ 1000) : orA (k + 1) 29 [v] M = some (.arr M.length 0 w.length 0, M ++ [⟨0, w.isEmpty, 1, natL w⟩]) := by
 cases hv with
 | none =>
  have hz : runZ MT (orA k) (itA k) 4000000 29 [.lit (.slice none 0 0)] [] = some (.arr 0 0 0 0, [⟨0, true, 1, []⟩]) := by kernel_rfl
  have := callA (k := k) (h := M) (args := [.lit (.slice none 0 0)]) (args' := [.lit (.slice none 0 0)]) rfl rfl hz rfl rfl
  simpa [shV, sh1] using this
 | some id g w hne hM =>
  obtain ⟨s, w', rfl⟩ : ∃ s w', w = s :: w' := by
   cases w with
   | nil => exact absurd rfl hne
   | cons s w' => exact ⟨s, w', rfl⟩
  have hf : [MV.arr id 0 (s :: w').length g].mapM (frz 0 [] M 8) = some [.sl (natL (s :: w'))] := by
   have h1 : frz 0 [] M 8 (.arr id 0 (s :: w').length g) = some (.sl (natL (s :: w'))) := by
    have h2 := natL_lt 0 (s :: w')
    have h3 : ((natL (s :: w')).drop 0).take (s :: w').length = natL (s :: w') := by rw [List.drop_zero, List.take_of_length_le (by simp)]
    simp only [frz, MV.lt, Nat.not_lt_zero, decide_false, Bool.false_eq_true, if_false, List.contains_nil, hM, List.length_map, Nat.zero_add, Nat.le_refl, and_self, if_true, h2, h3]
   simp only [List.mapM_cons, List.mapM_nil, h1]; rfl
  have := callA (k := k) (h := M) hf rfl (clone_z k s w' hl) rfl (by have h2 := natL_lt 0 (s :: w'); simp only [okH, List.all_cons, List.all_nil, Bool.and_true, h2, Bool.true_and]; rw [Bool.or_eq_true]; exact .inr (natL_pure _))
  simpa [shV, sh1] using this
def tryM (M : MHeap) (w : List Nat) (s : Nat) : MHeap := M ++ [⟨1, false, 1, natL (w ++ [s])⟩, ⟨0, false, 1, [I64 s]⟩, ⟨0, false, 1, [.arr M.length 0 (w.length + 1) 1]⟩]
theorem tryM_0 (M : MHeap) (w : List Nat) (s : Nat) : (tryM M w s)[M.length]? = some ⟨1, false, 1, natL (w ++ [s])⟩ := by
 unfold tryM; rw [List.getElem?_append_right (Nat.le_refl _)]; simp
theorem tryM_2 (M : MHeap) (w : List Nat) (s : Nat) : (tryM M w s)[M.length + 2]? = some ⟨0, false, 1, [.arr M.length 0 (w.length + 1) 1]⟩ := by
 unfold tryM; rw [List.getElem?_append_right (by omega)]; simp
theorem tryM_at {M : MHeap} {w : List Nat} {s i : Nat} {o : MObj} (h : M[i]? = some o) : (tryM M w s)[i]? = some o := by
 unfold tryM; rw [List.getElem?_append_left (List.getElem?_eq_some_iff.1 h).1, h]
theorem tryM_cl {M : MHeap} (w : List Nat) (s : Nat) (hc : hltL M.length M = true) : hltL (M.length + 3) (tryM M w s) = true := by
 have h1 := hltL_le (show M.length ≤ M.length + 3 by omega) hc
 unfold tryM hltL at *
 rw [List.all_append, h1]
 simp only [List.all_cons, List.all_nil, ltL, MV.lt, natL_lt, Bool.and_true, Bool.true_and, decide_eq_true_eq]
 omega
theorem frz_try (M : MHeap) (w : List Nat) (s g : Nat) (R C : List (Int × Int)) : [encS R C, .fn g 0 [.ptr (M.length + 2) 0 0 0]].mapM (frz 0 [] (tryM M w s) 8) = some [encS R C, .fn g 0 [.rp (.sl (natL (w ++ [s]))) 0]] := by
 have h0 := encS_lt 0 R C
 have h2 := natL_lt 0 (w ++ [s])
 have h3 : ((natL (w ++ [s])).drop 0).take (w.length + 1) = natL (w ++ [s]) := by rw [List.drop_zero, List.take_of_length_le (by simp)]
 have hl : 0 + (w.length + 1) ≤ (natL (w ++ [s])).length := by simp
 have e0 : frz 0 [] (tryM M w s) 8 (encS R C) = some (encS R C) := frz_lt h0
 have e1 : frz 0 [] (tryM M w s) 6 (.arr M.length 0 (w.length + 1) 1) = some (.sl (natL (w ++ [s]))) := by
  simp only [frz, MV.lt, Nat.not_lt_zero, decide_false, Bool.false_eq_true, if_false, List.contains_nil, tryM_0, hl, and_self, if_true, h2, h3]
 have e2 : frz 0 [] (tryM M w s) 7 (.ptr (M.length + 2) 0 0 0) = some (.rp (.sl (natL (w ++ [s]))) 0) := by
  have e3 : frz 0 [] (tryM M w s) 7 (.ptr (M.length + 2) 0 0 0) = (match (tryM M w s)[M.length + 2]? with
   | some o => if o.g = 0 then match o.es[0]? with
     | some e => if e.lt 0 then some (.rp e 0) else (frz 0 [] (tryM M w s) 6 e).map fun e' => .rp e' 0
     | none => none
    else none
   | none => none) := rfl
  rw [e3, tryM_2]
  simp only [if_true, List.getElem?_cons_zero]
  have e4 : (MV.arr M.length 0 (w.length + 1) 1).lt 0 = false := by simp [MV.lt]
  rw [e4, e1]; rfl
 have e5 : frz 0 [] (tryM M w s) 8 (.fn g 0 [.ptr (M.length + 2) 0 0 0]) = some (.fn g 0 [.rp (.sl (natL (w ++ [s]))) 0]) := by
  have e6 : frz 0 [] (tryM M w s) 8 (.fn g 0 [.ptr (M.length + 2) 0 0 0]) = ([MV.ptr (M.length + 2) 0 0 0].mapM (frz 0 [] (tryM M w s) 7)).map (.fn g 0) := rfl
  rw [e6]
  simp only [List.mapM_cons, List.mapM_nil, e2]; rfl
 simp only [List.mapM_cons, List.mapM_nil, e0, e5]; rfl
structure StB (R C : List (Int × Int)) (w : List Nat) (M : MHeap) : Prop where
 m0 : M[0]? = some ⟨0, false, 2, [encS R C]⟩
 m1 : M[2]? = some ⟨0, false, 2, [encS R C]⟩
 m2 : ∃ v, M[3]? = some ⟨0, false, 1, [v]⟩ ∧ RowAt M v w
 cl : hltL M.length M = true
theorem mf_body : MT.mf 12 = some ⟨39, [(.tmp 2), (.tmp 3)], (.seq (.reg [gO 1 (.box 2 (.s 0)), gO 2 (.nil0 1), gO 3 (.mv (cI 0))]) (.seq (.reg [gO 11 (.ld (some 2) (.s 1)), gO 12 (.call 18 [.s 11]), gO 10 (.mv (.s 12)), gO 13 (.ext (.s 10) 0), gO 14 (.ext (.s 10) 1), gO 4 (.new (.agg [(.lit (.slice none 0 0)), (.lit (.slice none 0 0))])), ⟨none, none, .st 2 (.s 4) (.s 13)⟩, gO 5 (.mv (.s 14))]) (.seq (.seq (.reg [gO 15 (.mv (.s 5)), gO 16 (.bin .neq (.s 15) (cI 0))]) (.cond (.s 16) (.seq (.reg [gO 17 (.mv (.s 5)), gO 2 (.nil0 1), gO 3 (.mv (.s 17))]) .ret) .skip)) (.seq (.reg [gO 6 (.new (.lit (.slice none 0 0)))]) (.seq (.seq (.reg [gO 18 (.fa 0 (.s 1)), gO 19 (.ld none (.s 18)), gO 20 (.len (.s 19)), gO 21 (.mv (cI 0))]) (.block 0 (.loop [21, 20, 4, 6] (.seq (.reg [gO 22 (.bin .lss (.s 21) (.s 20))]) (.seq (.cond (.s 22) .skip (.exit 0)) (.seq (.block 1 (.seq (.reg [gO 23 (.mv (.s 21)), gO 7 (.mv (.s 23))]) (.seq (.reg [gO 24 (.ld (some 2) (.s 4)), gO 25 (.mv (.s 7)), gO 26 (.call 28 [.s 24, .s 25])]) (.block 2 (.rf [6, 4] (.s 26) [27] (.reg [gO 8 (.mv (.s 27))]) (.block 3 (.seq (.reg [gO 28 (.ld none (.s 6)), gO 29 (.call 29 [.s 28]), gO 30 (.mv (.s 8)), gO 31 (.bsl (.lit (.int .i64 0)) 1 1 [(0, (.s 30))]), gO 32 (.app 1 (.s 29) (.s 31)), gO 9 (.new (.lit (.slice none 0 0))), ⟨none, none, .st 1 (.s 9) (.s 32)⟩]) (.seq (.reg [gO 33 (.ld (some 2) (.s 4)), gO 34 (.mf 30 0 [.s 9]), gO 35 (.call 26 [.s 33, .s 34])]) (.cond (.s 35) (.seq (.reg [gO 36 (.ld none (.s 9)), ⟨none, none, .st 1 (.s 6) (.s 36)⟩]) (.exit 2)) .skip))))))))) (.reg [gO 37 (.bin .add (.s 21) (cI 1)), gO 21 (.mv (.s 37))]))))))) (.seq (.reg [gO 38 (.ld none (.s 6)), gO 2 (.mv (.s 38)), gO 3 (.mv (cI 0))]) .ret))))))⟩ := by kernel_rfl
set_option maxHeartbeats 4000000 in
theorem body_z (k : Nat) (R C : List (Int × Int)) (hR : R.length ≤ 5) (hC : C.length ≤ 5) (hop : ∀ h, orA (k + 7) 18 [encS R C] h = some (.tup [encS R C, I64 0], h)) (hpk : ∀ i, i < R.length → (pickB R C (bodyB R C i) i).isSome = true) (hne : 0 < R.length) :
  runZ MT (orA (k + 7)) (itA (k + 7)) 4000000 12 [encS R C] [] = some (.tup [.arr 0 0 R.length 0, I64 0], [⟨0, false, 1, natL (bodyB R C R.length)⟩]) := by
 refine runZ_of mf_body (by simp) ?_
 simp only [argsL]
 have hrl : (MV.sl (R.map encP)).slen = some R.length := by simp [MV.slen]
 repeat (first | apply ef_seq | (apply ef_mv; exact rfl; exact rfl) | (apply ef_bin; (iterate 3 exact rfl); (exact cmp_f rfl (by simp only [cmpP]; omega))) | (apply ef_len; exact rfl; exact rfl; (assumption)) | (apply ef_ldp; exact rfl; exact rfl; (exact rfl); exact rfl; (exact rfl); (first | exact rd_2 rfl rfl | exact rfl)) | (apply ef_fap; exact rfl; exact rfl) | (apply ef_ext; (iterate 3 exact rfl)) | (apply ef_box; (iterate 4 exact rfl)) | (apply ef_newst; (iterate 3 exact rfl); (exact rfl); exact rfl) | (apply ef_new; exact rfl) | (apply ef_nil0; exact rfl) | apply ef_nil | apply seqQ.normal | apply ef_block | apply ef_skip | (apply ef_condf; exact rfl; (exact (rfl : false = false))) | (apply ef_call; exact rfl; ((repeat (apply XVs.cons; exact rfl)); exact XVs.nil); (with_reducible exact hop _)))
 refine ef_loopg (α := Nat × MHeap) (fun a => a.1 ≤ R.length ∧ StB R C (bodyB R C a.1) a.2 ∧ 4 ≤ a.2.length ∧ (a.1 ≠ 0 → ∃ id n g, a.2[3]? = some ⟨0, false, 1, [.arr id 0 n g]⟩ ∧ 4 ≤ id)) (fun a => [(21, I64 (a.1 : Int))]) [(20, I64 (R.length : Int)), (4, .ptr 2 0 0 0), (6, .ptr 3 0 0 0)] (fun a => a.2) (fun a => R.length - a.1)
  (0, [⟨0, false, 2, [encS R C]⟩, ⟨0, true, 1, []⟩, ⟨0, false, 2, [encS R C]⟩, ⟨0, false, 1, [.lit (.slice none 0 0)]⟩]) [21] (fun _ => rfl) (by ((repeat (refine Hold.cons (by exact rfl) ?_)); exact Hold.nil)) (by ((repeat (refine Hold.cons (by exact rfl) ?_)); exact Hold.nil)) rfl rfl rfl ?_ (by simp; omega) ?_
 ·refine ⟨Nat.zero_le _, ⟨rfl, rfl, ⟨_, rfl, .none⟩, ?_⟩, by simp, fun h => absurd rfl h⟩
  have h1 := encS_lt 4 R C
  simp only [hltL, List.all_cons, List.all_nil, ltL, h1, Bool.and_true, Bool.true_and, List.length_cons, List.length_nil]
  rfl
 rintro ⟨i, M⟩ ⟨hi, hI, hlen, hbig⟩
 obtain ⟨m0, m1, ⟨v, m2, hv⟩, hcl⟩ := hI
 by_cases hi2 : i < R.length
 ·have hp := hpk i hi2
  obtain ⟨r, hr⟩ : ∃ r, R[i]? = some r := ⟨R[i], by simp [hi2]⟩
  have hrd : R.getD i (0, 0) = r := by rw [List.getD_eq_getElem?_getD, hr]; rfl
  have hwl := bodyB_len R C i
  have hnext : bodyB R C (i + 1) = bodyB R C i ++ [(pickB R C (bodyB R C i) i).getD 0] := rfl
  generalize bodyB R C i = w at *
  obtain ⟨pk, hpk2⟩ := Option.isSome_iff_exists.1 hp
  rw [hpk2, Option.getD_some] at hnext
  unfold pickB at hpk2
  rw [hrd] at hpk2
  repeat (first | apply ef_seq | (apply ef_mv; exact rfl; exact rfl) | (apply ef_bin; (iterate 3 exact rfl); (exact cmp_t rfl (by first | exact rfl | (simp only [cmpP]; omega)))) | (apply ef_ldp; exact rfl; exact rfl; (assumption); exact rfl; (exact rfl); (exact rd_2 rfl rfl)) | apply ef_nil | apply seqQ.normal | apply ef_block | apply ef_skip | (apply ef_condt; exact rfl; (exact (rfl : true = true))) | (apply ef_call; exact rfl; ((repeat (apply XVs.cons; exact rfl)); exact XVs.nil); (with_reducible exact rows_c (k + 6) R C i _)))
  refine ef_rf (α := MHeap) (ids := []) (fun j Y => ∀ s ∈ (rowSets C.length r.1 r.2).take j, possB R C (prefP (w ++ [s])) = false) [(6, .ptr 3 0 0 0), (4, .ptr 2 0 0 0)] (fun Y => M ++ Y) (fun _ => M) [] (by exact rfl) (rows1_it (k + 5) R C i r hC hr _) (by simp)
   (idsL_lt0 (by have h1 := encS_lt 0 R C; show ((encS R C).lt 0 && ((I64 i).lt 0 && true)) = true; rw [h1]; rfl)) (by ((repeat (refine Hold.cons (by exact rfl) ?_)); exact Hold.nil)) rfl rfl rfl (fun s hs => by simp at hs) (by simp) (fun j Y _ => ?_) ?_ ?_
  ·have h1 : HeadIs [6, 4] M.length ((26, rowsF R C i) :: (25, I64 i) :: (24, encS R C) :: (7, I64 i) :: (23, I64 i) :: (22, .lit (.bool true)) :: ([(21, I64 i)] ++ [(20, I64 R.length), (4, .ptr 2 0 0 0), (6, .ptr 3 0 0 0)])) (M ++ Y) ((M ++ Y).take M.length) := .cut (fun t ht => by
    simp only [List.mem_cons, List.not_mem_nil, or_false] at ht
    rcases ht with rfl | rfl
    ·exact ⟨_, rfl, by simp only [MV.lt, decide_eq_true_eq]; simp only at hlen; omega⟩
    ·exact ⟨_, rfl, by simp only [MV.lt, decide_eq_true_eq]; simp only at hlen; omega⟩) (by rw [List.take_left]; exact hcl)
   rw [List.take_left] at h1
   exact h1
  ·intro j Y x hx hno
   simp only [List.getElem?_map, Option.map_eq_some_iff] at hx
   obtain ⟨s, hs, rfl⟩ := hx
   obtain ⟨o1, ho1⟩ : ∃ o1 : MObj, o1 = ⟨0, w.isEmpty, 1, natL w⟩ := ⟨_, rfl⟩
   have hcl2 := clone_c (k + 6) hv (by simp only at hi; omega)
   rw [← ho1] at hcl2
   show Ef _ _ _ _ _ _ ((27, I64 s) :: [(6, .ptr 3 0 0 0), (4, .ptr 2 0 0 0)]) _ _
   simp only at m0 m1 m2 ⊢
   have hrv : rdCells v.cells 0 none = some v := by cases hv <;> rfl
   repeat (first | (apply ef_mv; exact rfl; exact rfl) | apply ef_nil)
   apply preQ.normal
   repeat (first | apply ef_seq | apply ef_block)
   (apply ef_ldp; (· exact rfl); (· exact rfl); (· exact m2); (· exact rfl); (· exact rfl); (· exact hrv))
   (apply ef_call; (· exact rfl); (· ((repeat (apply XVs.cons; exact rfl)); exact XVs.nil)); · exact hcl2)
   repeat (first | (apply ef_mv; exact rfl; exact rfl) | (apply ef_bsl; exact rfl; (repeat (apply XVs.cons; exact rfl)); exact XVs.nil; exact rfl))
   subst ho1
   have q1 : (M ++ [(⟨0, w.isEmpty, 1, natL w⟩ : MObj)] ++ [(⟨0, false, 1, [I64 s]⟩ : MObj)])[M.length]? = some ⟨0, w.isEmpty, 1, natL w⟩ := by
    rw [List.append_assoc, List.getElem?_append_right (Nat.le_refl _)]; simp
   have q2 : (MV.arr (M ++ [(⟨0, w.isEmpty, 1, natL w⟩ : MObj)]).length 0 1 0).elems (M ++ [(⟨0, w.isEmpty, 1, natL w⟩ : MObj)] ++ [(⟨0, false, 1, [I64 s]⟩ : MObj)]) = some [I64 s] := by
    simp only [MV.elems, at_endC]; rfl
   have q3 : (M ++ [(⟨0, w.isEmpty, 1, natL w⟩ : MObj)] ++ [(⟨0, false, 1, [I64 s]⟩ : MObj)]).set M.length ⟨1, false, 1, (natL w).drop 0 ++ [I64 s]⟩ = M ++ [⟨1, false, 1, natL (w ++ [s])⟩, ⟨0, false, 1, [I64 s]⟩] := by
    rw [List.append_assoc, List.set_append_right _ _ (Nat.le_refl _)]
    simp
   refine ef_app (ht := by exact rfl) (by exact rfl) (by exact rfl) q2 q1 rfl (by simp) rfl (by simp; simp only at hi; omega) rfl rfl ?_
   show Ef _ _ _ _ _ _ _ ((M ++ [(⟨0, w.isEmpty, 1, natL w⟩ : MObj)] ++ [(⟨0, false, 1, [I64 s]⟩ : MObj)]).set M.length ⟨1, false, 1, (natL w).drop 0 ++ [I64 s]⟩) _
   rw [q3]
   repeat (first | apply ef_seq | (apply ef_newst; (iterate 3 exact rfl); (exact rfl); exact rfl) | apply ef_nil | apply seqQ.normal)
   have q4 : M ++ [(⟨1, false, 1, natL (w ++ [s])⟩ : MObj), ⟨0, false, 1, [I64 s]⟩] ++ [(⟨0, false, 1, [.arr M.length 0 (w.length + 1) 1]⟩ : MObj)] = tryM M w s := by unfold tryM; simp
   have q5 : (M ++ [(⟨1, false, 1, natL (w ++ [s])⟩ : MObj), ⟨0, false, 1, [I64 s]⟩]).length = M.length + 2 := by simp
   rw [q5]
   show Ef _ _ _ _ _ _ _ (M ++ [(⟨1, false, 1, natL (w ++ [s])⟩ : MObj), ⟨0, false, 1, [I64 s]⟩] ++ [(⟨0, false, 1, [.arr M.length 0 (w.length + 1) 1]⟩ : MObj)]) _
   rw [q4]
   have t1 : (tryM M w s)[2]? = some ⟨0, false, 2, [encS R C]⟩ := tryM_at m1
   have t2 := tryM_2 M w s
   have t3 : (tryM M w s)[3]? = some ⟨0, false, 1, [v]⟩ := tryM_at m2
   have hpos := possible_f (k + 1) R C _ (prefP (w ++ [s])) hR hC (may_pre (k + 4) (w ++ [s]) _ hR) (frz_try M w s 30 R C)
   repeat (first | (apply ef_ldp; exact rfl; exact rfl; (assumption); exact rfl; (exact rfl); (exact rd_2 rfl rfl)) | (apply ef_mf; exact rfl; (repeat (apply XVs.cons; exact rfl)); exact XVs.nil))
   (apply ef_call; (· exact rfl); (· ((repeat (apply XVs.cons; exact rfl)); exact XVs.nil)); · exact hpos)
   cases hP : possB R C (prefP (w ++ [s]))
   ·repeat (first | apply ef_nil | apply seqQ.normal | apply blockQ.normal | apply ef_skip | (apply ef_condf; exact rfl; (exact (rfl : false = false))))
    refine rfQ.normal _ _ ⟨[⟨1, false, 1, natL (w ++ [s])⟩, ⟨0, false, 1, [I64 s]⟩, ⟨0, false, 1, [.arr M.length 0 (w.length + 1) 1]⟩], fun s' hs' => ?_, rfl⟩
    rw [List.take_add_one, hs] at hs'
    rcases List.mem_append.1 hs' with h1 | h1
    ·exact hno s' h1
    ·simp at h1; rw [h1]; exact hP
   ·have hsp : pk = s := by
     have h1 : rowSets C.length r.1 r.2 = (rowSets C.length r.1 r.2).take j ++ s :: (rowSets C.length r.1 r.2).drop (j + 1) := by
      have h2 := List.getElem?_eq_some_iff.1 hs
      obtain ⟨h3, h4⟩ := h2
      rw [← h4, ← List.drop_eq_getElem_cons h3, List.take_append_drop]
     rw [h1, List.find?_append] at hpk2
     have h5 : ((rowSets C.length r.1 r.2).take j).find? (fun s => possB R C (prefP (w ++ [s]))) = none := by
      rw [List.find?_eq_none]
      intro x hx
      rw [hno x hx]; simp
     rw [h5, Option.none_or, List.find?_cons_of_pos (by exact hP)] at hpk2
     exact (Option.some.inj hpk2).symm
    subst hsp
    repeat (first | apply ef_seq | (apply ef_ldp; exact rfl; exact rfl; (assumption); exact rfl; (exact rfl); (exact rfl)) | apply ef_nil | apply seqQ.normal | (apply ef_condt; exact rfl; (exact (rfl : true = true))))
    have hwr : wrElem v 0 (.arr M.length 0 (w.length + 1) 1) = some (.arr M.length 0 (w.length + 1) 1) := by cases hv <;> rfl
    (apply ef_st; (· exact rfl); (· exact rfl); (· exact rfl); (· exact t3); (· exact rfl); (· exact rfl); (· exact rfl); (· exact hwr))
    repeat (first | apply ef_nil | apply seqQ.normal | apply ef_exit | (apply blockQ_there; exact rfl))
    apply rfQ.exit
    repeat (first | (apply ef_mv; exact rfl; exact rfl) | (apply ef_bin; (iterate 3 exact rfl); (((with_reducible refine bin_add (wrap_of ?_ ?_)) <;> omega))) | apply ef_nil | apply seqQ.normal | apply blockQ.normal | apply blockQ.here)
    simp only at hlen hi
    obtain ⟨H, hH⟩ : ∃ H, H = (tryM M w pk).set 3 ⟨0, false, 1, [.arr M.length 0 (w.length + 1) 1]⟩ := ⟨_, rfl⟩
    have hTl : (tryM M w pk).length = M.length + 3 := by simp [tryM]
    have hHl : H.length = M.length + 3 := by rw [hH, List.length_set, hTl]
    have hH3 : H[3]? = some ⟨0, false, 1, [.arr M.length 0 (w.length + 1) 1]⟩ := by rw [hH, List.getElem?_set_self (by rw [hTl]; omega)]
    have hHi : ∀ i, i ≠ 3 → H[i]? = (tryM M w pk)[i]? := fun i hi => by rw [hH, List.getElem?_set_ne (Ne.symm hi)]
    have hHc : hltL (M.length + 3) H = true := by
     rw [hH]
     refine hltL_set (tryM_cl w pk hcl) ?_
     simp only [ltL, MV.lt, Bool.and_true, decide_eq_true_eq]; omega
    refine loopQ.normal _ _ ⟨(i + 1, H), ⟨?_, ⟨?_, ?_, ⟨.arr M.length 0 (w.length + 1) 1, ?_, ?_⟩, ?_⟩, ?_, ?_⟩, ?_, ⟨by ((repeat (refine Hold.cons (by exact rfl) ?_)); exact Hold.nil), by ((repeat (refine Hold.cons (by exact rfl) ?_)); exact Hold.nil)⟩, ?_⟩
    ·exact hi2
    ·show H[0]? = _
     rw [hHi 0 (by decide)]; exact tryM_at m0
    ·show H[2]? = _
     rw [hHi 2 (by decide)]; exact t1
    ·exact hH3
    ·show RowAt H _ (bodyB R C (i + 1))
     rw [hnext, show w.length + 1 = (w ++ [pk]).length by simp]
     refine .some M.length 1 (w ++ [pk]) (by simp) ?_
     rw [hHi _ (by omega)]; exact tryM_0 M w pk
    ·show hltL H.length H = true
     rw [hHl]; exact hHc
    ·show 4 ≤ H.length
     omega
    ·exact fun _ => ⟨M.length, w.length + 1, 1, hH3, hlen⟩
    ·show R.length - (i + 1) < R.length - i
     omega
    ·show HeadIs _ _ _ ((tryM M w pk).set 3 ⟨0, false, 1, [.arr M.length 0 (w.length + 1) 1]⟩) H
     rw [← hH]
     refine .cell ?_
     show hltL 4 (H.take 4) = false
     rw [Bool.eq_false_iff]
     intro hc
     have h1 := List.all_eq_true.1 hc ⟨0, false, 1, [.arr M.length 0 (w.length + 1) 1]⟩ (List.mem_of_getElem? (i := 3) (by rw [List.getElem?_take, if_pos (by decide)]; exact hH3))
     simp only [ltL, MV.lt, Bool.and_true, decide_eq_true_eq] at h1
     omega
  ·intro Y hno
   exfalso
   rw [List.take_of_length_le (by simp)] at hno
   have h1 := List.find?_some hpk2
   rw [hno pk (List.mem_of_find?_eq_some hpk2)] at h1
   cases h1
 ·obtain rfl : i = R.length := by omega
  have hwl := bodyB_len R C R.length
  generalize bodyB R C R.length = w at *
  cases hv with
  | none => simp at hwl; omega
  | some id g w' hne2 hM =>
   simp only at m2 hM
   repeat (first | apply ef_seq | (apply ef_mv; exact rfl; exact rfl) | (apply ef_bin; (iterate 3 exact rfl); (exact cmp_f rfl (by simp only [cmpP]; omega))) | (apply ef_ldp; exact rfl; exact rfl; (assumption); exact rfl; (exact rfl); (exact rfl)) | apply ef_nil | apply seqQ.normal | apply loopQ.exit | apply ef_ret | apply ef_exit | apply seqQ.exit | apply blockQ.here | (apply ef_condf; exact rfl; (exact (rfl : false = false))))
   rw [← hwl]
   exact fin_al rfl (by exact rfl) (by exact rfl) hM rfl (by simp) (natL_lt 0 w) rfl rfl rfl
end Go.Proofs.YtnmgpbihknjdjaaDoor

/- Chapter 9: bodies: plain law. -/
namespace Go.Proofs.YtnmgpbihknjdjaaDoor
open Go.RowKit
set_option linter.unusedVariables false
def sumV (w : List Nat) : List Int := w.foldr (fun s v => plusV s 0 v) [0, 0, 0, 0, 0]
theorem sumV_cons (s : Nat) (w : List Nat) : sumV (s :: w) = plusV s 0 (sumV w) := rfl
theorem sumV_len : ∀ w : List Nat, (sumV w).length = 5
 | [] => rfl
 | s :: w => by rw [sumV_cons, plusV_len, sumV_len w]
def RowsOk (R : List (Int × Int)) (m : Nat) (P : Nat → Nat → Bool) : Nat → List Nat → Prop
 | _, [] => True
 | c, s :: w => (s ∈ rowSets m (R.getD c (0, 0)).1 (R.getD c (0, 0)).2 ∧ P c s = true) ∧ RowsOk R m P (c + 1) w
theorem mem_nextL {P : Nat → Bool} {now : List (List Int)} {u : List Int} : ∀ (sets : List Nat) {l : List (List Int)}, u ∈ nextL P now sets l ↔ (∃ s ∈ sets, P s = true ∧ ∃ v ∈ now, u = plusV s 0 v) ∨ u ∈ l
 | [], l => by simp [nextL]
 | s :: sets, l => by
  have e : nextL P now (s :: sets) l = nextL P now sets (if P s then addAll (now.map (plusV s 0)) l else l) := rfl
  rw [e, mem_nextL sets]
  cases hP : P s
  ·simp only [Bool.false_eq_true, if_false, List.mem_cons]
   constructor
   ·rintro (⟨t, h1, h2⟩ | h)
    ·exact .inl ⟨t, .inr h1, h2⟩
    ·exact .inr h
   ·rintro (⟨t, h1, h2⟩ | h)
    ·rcases h1 with rfl | h1
     ·rw [hP] at h2; exact absurd h2.1 (by simp)
     ·exact .inl ⟨t, h1, h2⟩
    ·exact .inr h
  ·simp only [if_true, mem_addAll, List.mem_map, List.mem_cons]
   constructor
   ·rintro (⟨t, h1, h2⟩ | ⟨v, h1, rfl⟩ | h)
    ·exact .inl ⟨t, .inr h1, h2⟩
    ·exact .inl ⟨s, .inl rfl, hP, v, h1, rfl⟩
    ·exact .inr h
   ·rintro (⟨t, h1, h2, v, h3, rfl⟩ | h)
    ·rcases h1 with rfl | h1
     ·exact .inr (.inl ⟨v, h3, rfl⟩)
     ·exact .inl ⟨t, h1, h2, v, h3, rfl⟩
    ·exact .inr (.inr h)
theorem mem_reachL (R : List (Int × Int)) (m : Nat) (P : Nat → Nat → Bool) : ∀ (t : Nat), t ≤ R.length → ∀ u, u ∈ reachL R m P t ↔ ∃ w, w.length = t ∧ RowsOk R m P (R.length - t) w ∧ u = sumV w
 | 0, _, u => by
  simp only [reachL, List.mem_singleton]
  constructor
  ·rintro rfl; exact ⟨[], rfl, trivial, rfl⟩
  ·rintro ⟨w, h1, _, rfl⟩
   obtain rfl : w = [] := List.length_eq_zero_iff.1 h1
   rfl
 | t + 1, ht, u => by
  have e : R.length - 1 - t = R.length - (t + 1) := by omega
  have e2 : R.length - (t + 1) + 1 = R.length - t := by omega
  simp only [reachL, mem_nextL, e, List.not_mem_nil, or_false]
  constructor
  ·rintro ⟨s, h1, h2, v, h3, rfl⟩
   obtain ⟨w, k1, k2, rfl⟩ := (mem_reachL R m P t (by omega) v).1 h3
   exact ⟨s :: w, by simp [k1], ⟨⟨h1, h2⟩, by rw [e2]; exact k2⟩, rfl⟩
  ·rintro ⟨w, h1, h2, rfl⟩
   cases w with
   | nil => cases h1
   | cons s w =>
    obtain ⟨⟨k1, k2⟩, k3⟩ := h2
    rw [e2] at k3
    exact ⟨s, k1, k2, _, (mem_reachL R m P t (by omega) _).2 ⟨w, by simpa using h1, k3, rfl⟩, rfl⟩
abbrev anyP : Nat → Nat → Bool := fun _ _ => true
theorem RowsOk.split {R : List (Int × Int)} {m : Nat} {P : Nat → Nat → Bool} : ∀ {w : List Nat} {c : Nat}, RowsOk R m P c w ↔ RowsOk R m anyP c w ∧ ∀ (i s : Nat), w[i]? = some s → P (c + i) s = true
 | [], c => by simp [RowsOk]
 | s :: w, c => by
  simp only [RowsOk, RowsOk.split (w := w) (P := P), and_true]
  constructor
  ·rintro ⟨⟨h1, h2⟩, h3, h4⟩
   refine ⟨⟨h1, h3⟩, fun i x hx => ?_⟩
   cases i with
   | zero => simp at hx; subst hx; exact h2
   | succ i => have := h4 i x (by simpa using hx); rw [show c + (i + 1) = c + 1 + i by omega]; exact this
  ·rintro ⟨⟨h1, h3⟩, h4⟩
   refine ⟨⟨h1, by have := h4 0 s rfl; simpa using this⟩, h3, fun i x hx => ?_⟩
   have := h4 (i + 1) x (by simpa using hx)
   rw [show c + 1 + i = c + (i + 1) by omega]; exact this
theorem RowsOk.append {R : List (Int × Int)} {m : Nat} {P : Nat → Nat → Bool} : ∀ {w v : List Nat} {c : Nat}, RowsOk R m P c (w ++ v) ↔ RowsOk R m P c w ∧ RowsOk R m P (c + w.length) v
 | [], v, c => by simp [RowsOk]
 | s :: w, v, c => by
  simp only [List.cons_append, RowsOk, RowsOk.append (w := w), List.length_cons, and_assoc]
  rw [show c + (w.length + 1) = c + 1 + w.length by omega]
structure IsBody (R C : List (Int × Int)) (w : List Nat) : Prop where
 len : w.length = R.length
 rows : RowsOk R C.length anyP 0 w
 has : hasB C (sumV w) = true
theorem possB_iff {R C : List (Int × Int)} {P : Nat → Nat → Bool} : possB R C P = true ↔ ∃ w, IsBody R C w ∧ ∀ (i s : Nat), w[i]? = some s → P i s = true := by
 unfold possB
 rw [List.any_eq_true]
 constructor
 ·rintro ⟨u, h1, h2⟩
  obtain ⟨w, k1, k2, rfl⟩ := (mem_reachL R C.length P R.length (Nat.le_refl _) u).1 h1
  rw [Nat.sub_self, RowsOk.split] at k2
  exact ⟨w, ⟨k1, k2.1, h2⟩, fun i s hs => by have := k2.2 i s hs; simpa using this⟩
 ·rintro ⟨w, h, hP⟩
  refine ⟨sumV w, (mem_reachL R C.length P R.length (Nat.le_refl _) _).2 ⟨w, h.len, ?_, rfl⟩, h.has⟩
  rw [Nat.sub_self, RowsOk.split]
  exact ⟨h.rows, fun i s hs => by simpa using hP i s hs⟩
def allB (R C : List (Int × Int)) : Nat → List Nat → List (List Nat)
 | 0, p => if hasB C (sumV p) then [p] else []
 | t + 1, p => (rowSets C.length (R.getD p.length (0, 0)).1 (R.getD p.length (0, 0)).2).flatMap fun s => allB R C t (p ++ [s])
theorem mem_allB {R C : List (Int × Int)} : ∀ {t : Nat} {p w : List Nat}, w ∈ allB R C t p ↔ ∃ v, w = p ++ v ∧ v.length = t ∧ RowsOk R C.length anyP p.length v ∧ hasB C (sumV w) = true
 | 0, p, w => by
  simp only [allB]
  split
  ·rename_i h
   simp only [List.mem_singleton]
   constructor
   ·rintro rfl; exact ⟨[], by simp, rfl, trivial, h⟩
   ·rintro ⟨v, rfl, h1, _⟩
    obtain rfl : v = [] := List.length_eq_zero_iff.1 h1
    simp
  ·rename_i h
   simp only [List.not_mem_nil, false_iff]
   rintro ⟨v, rfl, h1, _, h2⟩
   obtain rfl : v = [] := List.length_eq_zero_iff.1 h1
   rw [List.append_nil] at h2
   exact h h2
 | t + 1, p, w => by
  simp only [allB, List.mem_flatMap, mem_allB (t := t)]
  constructor
  ·rintro ⟨s, h1, v, rfl, h2, h3, h4⟩
   refine ⟨s :: v, by simp, by simp [h2], ⟨⟨h1, rfl⟩, by simpa using h3⟩, h4⟩
  ·rintro ⟨v, rfl, h1, h2, h3⟩
   cases v with
   | nil => cases h1
   | cons s v =>
    obtain ⟨⟨k1, _⟩, k2⟩ := h2
    exact ⟨s, k1, v, by simp, by simpa using h1, by simpa using k2, h3⟩
theorem mem_all {R C : List (Int × Int)} {w : List Nat} : w ∈ allB R C R.length [] ↔ IsBody R C w := by
 rw [mem_allB]
 constructor
 ·rintro ⟨v, rfl, h1, h2, h3⟩
  exact ⟨h1, h2, h3⟩
 ·rintro ⟨h1, h2, h3⟩
  exact ⟨w, rfl, h1, h2, h3⟩
theorem poss_any {R C : List (Int × Int)} : possB R C anyP = true ↔ allB R C R.length [] ≠ [] := by
 rw [possB_iff]
 constructor
 ·rintro ⟨w, h, _⟩ e
  have := mem_all.2 h
  rw [e] at this; cases this
 ·intro h
  obtain ⟨w, hw⟩ := List.exists_mem_of_ne_nil _ h
  exact ⟨w, mem_all.1 hw, fun _ _ _ => rfl⟩
theorem poss_pre {R C : List (Int × Int)} {q : List Nat} (hq : RowsOk R C.length anyP 0 q) (hl : q.length ≤ R.length) : possB R C (prefP q) = true ↔ allB R C (R.length - q.length) q ≠ [] := by
 rw [possB_iff]
 constructor
 ·rintro ⟨w, h, hp⟩ e
  have hpre : w = q ++ w.drop q.length := by
   have h1 : w.take q.length = q := by
    refine List.ext_getElem? fun i => ?_
    rw [List.getElem?_take]
    split
    ·rename_i hi
     have hlw : i < w.length := by rw [h.len]; omega
     have h2 := hp i w[i] (by simp [hlw])
     unfold prefP at h2
     rw [List.getElem?_eq_getElem hi] at h2 ⊢
     rw [List.getElem?_eq_getElem hlw]
     simp only [beq_iff_eq] at h2
     rw [h2]
    ·rename_i hi
     rw [List.getElem?_eq_none (by omega)]
   rw [← h1]
   conv => lhs; rw [← List.take_append_drop q.length w]
   rw [h1]
  have hr := h.rows
  rw [hpre, RowsOk.append] at hr
  have : w ∈ allB R C (R.length - q.length) q := mem_allB.2 ⟨w.drop q.length, hpre, by rw [List.length_drop, h.len], by simpa using hr.2, h.has⟩
  rw [e] at this; cases this
 ·intro h
  obtain ⟨w, hw⟩ := List.exists_mem_of_ne_nil _ h
  obtain ⟨v, rfl, h1, h2, h3⟩ := mem_allB.1 hw
  refine ⟨q ++ v, ⟨by rw [List.length_append, h1]; omega, RowsOk.append.2 ⟨hq, by simpa using h2⟩, h3⟩, fun i s hs => ?_⟩
  unfold prefP
  split
  ·rfl
  ·rename_i x hx
   have hi := (List.getElem?_eq_some_iff.1 hx).1
   rw [List.getElem?_append_left hi, hx] at hs
   simp only [Option.some.injEq] at hs
   simp [hs]
theorem body_pre {R C : List (Int × Int)} (hne : allB R C R.length [] ≠ []) : ∀ i, i ≤ R.length → RowsOk R C.length anyP 0 (bodyB R C i) ∧ (allB R C (R.length - i) (bodyB R C i)).head? = (allB R C R.length []).head? ∧ (∀ j, j < i → (pickB R C (bodyB R C j) j).isSome = true)
 | 0, _ => ⟨trivial, rfl, fun j hj => by omega⟩
 | i + 1, hi => by
  obtain ⟨h1, h2, h3⟩ := body_pre hne i (by omega)
  have hl := bodyB_len R C i
  obtain ⟨t, ht⟩ : ∃ t, R.length - i = t + 1 := ⟨R.length - i - 1, by omega⟩
  have ht2 : R.length - (i + 1) = t := by omega
  rw [ht] at h2
  have hhead : ((allB R C (t + 1) (bodyB R C i)).head?).isSome = true := by
   rw [h2]
   cases h : allB R C R.length [] with
   | nil => exact absurd h hne
   | cons => rfl
  generalize hw : bodyB R C i = w at *
  simp only [allB, hl] at h2 hhead
  have hnext : bodyB R C (i + 1) = w ++ [(pickB R C w i).getD 0] := by rw [← hw]; rfl
  have hiff : ∀ s ∈ rowSets C.length (R.getD i (0, 0)).1 (R.getD i (0, 0)).2, (possB R C (prefP (w ++ [s])) = true ↔ allB R C t (w ++ [s]) ≠ []) := fun s hs => by
   have := poss_pre (R := R) (C := C) (q := w ++ [s]) (RowsOk.append.2 ⟨h1, ⟨⟨by simpa [hl] using hs, rfl⟩, trivial⟩⟩) (by simp [hl]; omega)
   rw [List.length_append, hl, List.length_singleton, ht2] at this
   exact this
  have hok : ∀ s ∈ rowSets C.length (R.getD i (0, 0)).1 (R.getD i (0, 0)).2, RowsOk R C.length anyP 0 (w ++ [s]) := fun s hs => RowsOk.append.2 ⟨h1, ⟨⟨by simpa [hl] using hs, rfl⟩, trivial⟩⟩
  have find : ∀ (l : List Nat), (∀ s ∈ l, s ∈ rowSets C.length (R.getD i (0, 0)).1 (R.getD i (0, 0)).2) → ((l.flatMap fun s => allB R C t (w ++ [s])).head?).isSome = true → ∃ s, s ∈ l ∧ l.find? (fun s => possB R C (prefP (w ++ [s]))) = some s ∧ (allB R C t (w ++ [s])).head? = (l.flatMap fun s => allB R C t (w ++ [s])).head? := by
   intro l
   induction l with
   | nil => intro _ h; simp at h
   | cons s l ih =>
    intro hm h
    rw [List.flatMap_cons] at h ⊢
    cases hA : allB R C t (w ++ [s]) with
    | nil =>
     rw [hA, List.nil_append] at h
     obtain ⟨s', k1, k2, k3⟩ := ih (fun x hx => hm x (List.mem_cons_of_mem _ hx)) h
     refine ⟨s', List.mem_cons_of_mem _ k1, ?_, by rw [List.nil_append]; exact k3⟩
     rw [List.find?_cons_of_neg]
     ·exact k2
     ·rw [hiff s (hm s (by simp)), hA]; simp
    | cons b bs =>
     refine ⟨s, by simp, ?_, by rw [hA]; rfl⟩
     rw [List.find?_cons_of_pos]
     rw [hiff s (hm s (by simp)), hA]; simp
  obtain ⟨s, k1, k2, k3⟩ := find _ (fun _ h => h) hhead
  have hpk : pickB R C w i = some s := k2
  rw [hnext, hpk, Option.getD_some, ht2]
  refine ⟨hok s k1, by rw [k3]; exact h2, fun j hj => ?_⟩
  by_cases e : j = i
  ·subst e; rw [hw, hpk]; rfl
  ·exact h3 j (by omega)
theorem body_first {R C : List (Int × Int)} (hne : allB R C R.length [] ≠ []) : (allB R C R.length []).head? = some (bodyB R C R.length) := by
 obtain ⟨_, h2, _⟩ := body_pre hne R.length (Nat.le_refl _)
 rw [Nat.sub_self] at h2
 simp only [allB] at h2
 split at h2
 ·rw [← h2]; rfl
 ·cases h : allB R C R.length [] with
  | nil => exact absurd h hne
  | cons => rw [h] at h2; cases h2
theorem body_picks {R C : List (Int × Int)} (hne : allB R C R.length [] ≠ []) : ∀ i, i < R.length → (pickB R C (bodyB R C i) i).isSome = true := (body_pre hne R.length (Nat.le_refl _)).2.2
end Go.Proofs.YtnmgpbihknjdjaaDoor

/- Fractions in lowest terms, comparisons (no program). -/
namespace Go.Proofs.YtnmgpbihknjdjaaDoor
open Go.RowKit
set_option linter.unusedVariables false
def eu (a b : Nat) : Nat := if h : b = 0 then 0 else 1 + eu b (a % b)
termination_by b
decreasing_by exact Nat.mod_lt _ (by omega)
end Go.Proofs.YtnmgpbihknjdjaaDoor

/- Holes, layers, cuts: plain laws. -/
namespace Go.Proofs.YtnmgpbihknjdjaaDoor
open Go.RowKit
set_option linter.unusedVariables false
structure Ho where
 e : Int
 d : Int
 b : Int
structure Ly where
 dp : Int
 a : Int
 b : Int
 c : Int
 d : Int
end Go.Proofs.YtnmgpbihknjdjaaDoor

/- Calendars: the first permitted date. -/
namespace Go.Proofs.YtnmgpbihknjdjaaDoor
set_option linter.unusedVariables false
structure InvD (p : Int → Bool) (days frm d o : Int) : Prop where
 lo : frm ≤ d - o
 z : 0 ≤ o
 lt : o < days
 op : ∀ j, d - o ≤ j → j < d → p j = false
 st : d - o = frm ∨ p (d - o - 1) = true
structure HitD (p : Int → Bool) (days frm e : Int) : Prop where
 lo : frm ≤ e - days + 1
 op : ∀ j, e - days + 1 ≤ j → j ≤ e → p j = false
theorem InvD.next {p : Int → Bool} {days frm d o : Int} (h : InvD p days frm d o) (hd : 1 ≤ days) (hn : ¬ (if p d then 0 else o + 1) = days) : InvD p days frm (d + 1) (if p d then 0 else o + 1) := by
 obtain ⟨h1, h2, h3, h4, h5⟩ := h
 cases hp : p d
 ·rw [hp] at hn
  simp only [Bool.false_eq_true, if_false] at hn ⊢
  refine ⟨by omega, by omega, by omega, fun j a b => ?_, ?_⟩
  ·by_cases hj : j = d
   ·rw [hj, hp]
   ·exact h4 j (by omega) (by omega)
  ·rw [show d + 1 - (o + 1) = d - o by omega]; exact h5
 ·simp only [if_true]
  refine ⟨by omega, by omega, by omega, fun j a b => by omega, .inr ?_⟩
  rw [show d + 1 - 0 - 1 = d by omega, hp]
structure Cd where
 o : ByteArray
 f : Int
 t : Int
end Go.Proofs.YtnmgpbihknjdjaaDoor

/- The best set of targets (plain laws). -/
namespace Go.Proofs.YtnmgpbihknjdjaaDoor
set_option linter.unusedVariables false
structure Tg where
 nm : ByteArray
 c : Int
 s : Int
def tgI (l : List Tg) (i : Nat) : Tg := l.getD i ⟨ByteArray.empty, 0, 0⟩
def costL (l : List Tg) : List Nat → Int
 | [] => 0
 | i :: S => (tgI l i).c + costL l S
def scoreL (l : List Tg) : List Nat → Int
 | [] => 0
 | i :: S => (tgI l i).s + scoreL l S
structure BestS (l : List Tg) (B : Int) (N : Nat) (st : List Nat × Int) : Prop where
 set : ∃ X, X < N + 1 ∧ st.1 = mbL X
 cost : costL l st.1 ≤ B
 score : scoreL l st.1 = st.2
 most : ∀ X, X < N → costL l (mbL X) ≤ B → scoreL l (mbL X) ≤ st.2
end Go.Proofs.YtnmgpbihknjdjaaDoor

/- Chapter 9: bodies: volumes, tops, cells, the order: plain law. -/
namespace Go.Proofs.YtnmgpbihknjdjaaDoor
open Go.RowKit
set_option linter.unusedVariables false
def colS (w : List Nat) (k : Nat) : Int := (w.map fun s => bitI s k).sum
theorem colS_cons (s : Nat) (w : List Nat) (k : Nat) : colS (s :: w) k = bitI s k + colS w k := by simp [colS]
theorem colS_app (w v : List Nat) (k : Nat) : colS (w ++ v) k = colS w k + colS v k := by simp [colS]
theorem colS_le : ∀ (w : List Nat) (k : Nat), 0 ≤ colS w k ∧ colS w k ≤ w.length
 | [], k => by simp [colS]
 | s :: w, k => by
  rw [colS_cons]
  have h1 := colS_le w k
  have h2 := bitI_le s k
  simp only [List.length_cons]
  omega
theorem plusV_get (s : Nat) : ∀ (v : List Int) (i j : Nat), (plusV s i v)[j]? = (v[j]?).map (· + bitI s (i + j))
 | [], i, j => by simp [plusV]
 | x :: v, i, 0 => by simp [plusV]
 | x :: v, i, j + 1 => by
  simp only [plusV, List.getElem?_cons_succ, plusV_get s v (i + 1) j]
  rw [show i + 1 + j = i + (j + 1) by omega]
theorem sumV_get : ∀ (w : List Nat) (k : Nat), k < 5 → (sumV w)[k]? = some (colS w k)
 | [], k, h => by
  match k, h with
  | 0, _ => rfl
  | 1, _ => rfl
  | 2, _ => rfl
  | 3, _ => rfl
  | 4, _ => rfl
 | s :: w, k, h => by
  rw [sumV_cons, plusV_get, sumV_get w k h, colS_cons, Nat.zero_add]
  simp [Int.add_comm]
theorem sumV_eq (w : List Nat) : sumV w = [colS w 0, colS w 1, colS w 2, colS w 3, colS w 4] := by
 refine List.ext_getElem? fun k => ?_
 by_cases h : k < 5
 ·rw [sumV_get w k h]
  match k, h with
  | 0, _ => rfl
  | 1, _ => rfl
  | 2, _ => rfl
  | 3, _ => rfl
  | 4, _ => rfl
 ·rw [List.getElem?_eq_none (by rw [sumV_len]; omega), List.getElem?_eq_none (by simp; omega)]
theorem hasB_iff {C : List (Int × Int)} (hC : C.length ≤ 5) {w : List Nat} : hasB C (sumV w) = true ↔ ∀ (k : Nat) c, C[k]? = some c → c.1 ≤ colS w k ∧ colS w k ≤ c.2 := by
 unfold hasB
 rw [List.all_eq_true]
 constructor
 ·intro h k c hc
  have hk := (List.getElem?_eq_some_iff.1 hc).1
  have h2 : inB (colS w k) c.1 c.2 = true := h (c, colS w k) (List.mem_of_getElem? (i := k) (by rw [List.getElem?_zip_eq_some]; exact ⟨hc, sumV_get w k (by omega)⟩))
  exact of_decide_eq_true h2
 ·rintro h ⟨c, x⟩ hp
  obtain ⟨k, hk⟩ := List.getElem?_of_mem hp
  rw [List.getElem?_zip_eq_some] at hk
  obtain ⟨h1, h2⟩ := hk
  have hk5 := (List.getElem?_eq_some_iff.1 h1).1
  rw [sumV_get w k (by omega)] at h2
  cases h2
  show inB (colS w k) c.1 c.2 = true
  exact decide_eq_true (h k c h1)
theorem mem_rows {n : Nat} {lo hi : Int} {s : Nat} : s ∈ rowSets n lo hi ↔ s < 2 ^ n ∧ lo ≤ pc s ∧ (pc s : Int) ≤ hi := by
 unfold rowSets rowOk inB
 rw [List.mem_filter, List.mem_range, decide_eq_true_eq]
theorem rowsOk_iff {R : List (Int × Int)} {n : Nat} : ∀ {w : List Nat} {c : Nat}, RowsOk R n anyP c w ↔ ∀ (i s : Nat), w[i]? = some s → s < 2 ^ n ∧ (R.getD (c + i) (0, 0)).1 ≤ pc s ∧ (pc s : Int) ≤ (R.getD (c + i) (0, 0)).2
 | [], c => by simp [RowsOk]
 | s :: w, c => by
  simp only [RowsOk, rowsOk_iff (w := w), mem_rows, and_true]
  constructor
  ·rintro ⟨h1, h2⟩ i x hx
   cases i with
   | zero => simp at hx; subst hx; exact h1
   | succ i => have := h2 i x (by simpa using hx); rw [show c + (i + 1) = c + 1 + i by omega]; exact this
  ·intro h
   refine ⟨h 0 s rfl, fun i x hx => ?_⟩
   have := h (i + 1) x (by simpa using hx)
   rw [show c + 1 + i = c + (i + 1) by omega]; exact this
theorem isBody_iff {R C : List (Int × Int)} (hC : C.length ≤ 5) {w : List Nat} : IsBody R C w ↔ w.length = R.length ∧ (∀ (i s : Nat) r, w[i]? = some s → R[i]? = some r → s < 2 ^ C.length ∧ r.1 ≤ pc s ∧ (pc s : Int) ≤ r.2) ∧ ∀ (k : Nat) c, C[k]? = some c → c.1 ≤ colS w k ∧ colS w k ≤ c.2 := by
 constructor
 ·rintro ⟨h1, h2, h3⟩
  refine ⟨h1, fun i s r hs hr => ?_, (hasB_iff hC).1 h3⟩
  have := rowsOk_iff.1 h2 i s hs
  rw [Nat.zero_add, List.getD_eq_getElem?_getD, hr] at this
  exact this
 ·rintro ⟨h1, h2, h3⟩
  refine ⟨h1, rowsOk_iff.2 fun i s hs => ?_, (hasB_iff hC).2 h3⟩
  have hi : i < R.length := by rw [← h1]; exact (List.getElem?_eq_some_iff.1 hs).1
  have := h2 i s R[i] hs (by simp [hi])
  rw [Nat.zero_add, List.getD_eq_getElem?_getD, List.getElem?_eq_getElem hi]
  exact this
def volS (w : List Nat) : Int := (sumV w).sum
theorem bits_sum : ∀ s : Nat, s < 32 → bitI s 0 + bitI s 1 + bitI s 2 + bitI s 3 + bitI s 4 = (pc s : Nat) := by decide
theorem volS_eq (w : List Nat) : volS w = colS w 0 + colS w 1 + colS w 2 + colS w 3 + colS w 4 := by
 unfold volS
 rw [sumV_eq]
 simp only [List.sum_cons, List.sum_nil]
 omega
theorem volS_cons {s : Nat} (w : List Nat) (hs : s < 32) : volS (s :: w) = pc s + volS w := by
 rw [volS_eq, volS_eq, ← bits_sum s hs]
 simp only [colS_cons]
 omega
def volL (R C : List (Int × Int)) : List Int := ((reachL R C.length anyP R.length).filter (hasB C)).map List.sum
theorem mem_volL {R C : List (Int × Int)} {x : Int} : x ∈ volL R C ↔ ∃ w, IsBody R C w ∧ x = volS w := by
 unfold volL
 rw [List.mem_map]
 constructor
 ·rintro ⟨u, h1, rfl⟩
  rw [List.mem_filter, mem_reachL R C.length anyP R.length (Nat.le_refl _)] at h1
  obtain ⟨⟨w, k1, k2, rfl⟩, h2⟩ := h1
  rw [Nat.sub_self] at k2
  exact ⟨w, ⟨k1, k2, h2⟩, rfl⟩
 ·rintro ⟨w, h, rfl⟩
  refine ⟨sumV w, ?_, rfl⟩
  rw [List.mem_filter, mem_reachL R C.length anyP R.length (Nat.le_refl _)]
  exact ⟨⟨w, h.len, by rw [Nat.sub_self]; exact h.rows, rfl⟩, h.has⟩
def mnL : List Int → Int
 | [] => 0
 | x :: l => l.foldl (fun a b => if b < a then b else a) x
def mxL : List Int → Int
 | [] => 0
 | x :: l => l.foldl (fun a b => if a < b then b else a) x
theorem mn_fold : ∀ (l : List Int) (a : Int), (l.foldl (fun a b => if b < a then b else a) a ∈ a :: l) ∧ ∀ x ∈ a :: l, l.foldl (fun a b => if b < a then b else a) a ≤ x
 | [], a => by simp
 | b :: l, a => by
  have h := mn_fold l (if b < a then b else a)
  rw [List.foldl_cons]
  generalize l.foldl (fun a b => if b < a then b else a) (if b < a then b else a) = m at *
  obtain ⟨h1, h2⟩ := h
  refine ⟨?_, fun x hx => ?_⟩
  ·rcases List.mem_cons.1 h1 with h | h
   ·rw [h]; split <;> simp
   ·simp [h]
  ·have h3 := h2 _ (List.mem_cons_self)
   rcases List.mem_cons.1 hx with rfl | hx
   ·split at h3 <;> omega
   ·rcases List.mem_cons.1 hx with rfl | hx
    ·split at h3 <;> omega
    ·exact h2 x (List.mem_cons_of_mem _ hx)
theorem mx_fold : ∀ (l : List Int) (a : Int), (l.foldl (fun a b => if a < b then b else a) a ∈ a :: l) ∧ ∀ x ∈ a :: l, x ≤ l.foldl (fun a b => if a < b then b else a) a
 | [], a => by simp
 | b :: l, a => by
  have h := mx_fold l (if a < b then b else a)
  rw [List.foldl_cons]
  generalize l.foldl (fun a b => if a < b then b else a) (if a < b then b else a) = m at *
  obtain ⟨h1, h2⟩ := h
  refine ⟨?_, fun x hx => ?_⟩
  ·rcases List.mem_cons.1 h1 with h | h
   ·rw [h]; split <;> simp
   ·simp [h]
  ·have h3 := h2 _ (List.mem_cons_self)
   rcases List.mem_cons.1 hx with rfl | hx
   ·split at h3 <;> omega
   ·rcases List.mem_cons.1 hx with rfl | hx
    ·split at h3 <;> omega
    ·exact h2 x (List.mem_cons_of_mem _ hx)
theorem mn_mem {l : List Int} (h : l ≠ []) : mnL l ∈ l ∧ ∀ x ∈ l, mnL l ≤ x := by
 cases l with
 | nil => exact absurd rfl h
 | cons a l => exact mn_fold l a
theorem mx_mem {l : List Int} (h : l ≠ []) : mxL l ∈ l ∧ ∀ x ∈ l, x ≤ mxL l := by
 cases l with
 | nil => exact absurd rfl h
 | cons a l => exact mx_fold l a
theorem mn_ext {l m : List Int} (h : l ≠ []) (he : ∀ x, x ∈ l ↔ x ∈ m) : mnL l = mnL m := by
 have hm : m ≠ [] := fun e => by
  obtain ⟨x, hx⟩ := List.exists_mem_of_ne_nil _ h
  rw [he, e] at hx; cases hx
 obtain ⟨a1, a2⟩ := mn_mem h
 obtain ⟨b1, b2⟩ := mn_mem hm
 have := a2 _ ((he _).2 b1)
 have := b2 _ ((he _).1 a1)
 omega
theorem mx_ext {l m : List Int} (h : l ≠ []) (he : ∀ x, x ∈ l ↔ x ∈ m) : mxL l = mxL m := by
 have hm : m ≠ [] := fun e => by
  obtain ⟨x, hx⟩ := List.exists_mem_of_ne_nil _ h
  rw [he, e] at hx; cases hx
 obtain ⟨a1, a2⟩ := mx_mem h
 obtain ⟨b1, b2⟩ := mx_mem hm
 have := a2 _ ((he _).2 b1)
 have := b2 _ ((he _).1 a1)
 omega
def sumBits (f : Nat → Bool) : Nat → Nat
 | 0 => 0
 | n + 1 => sumBits f n + if f n then 2 ^ n else 0
theorem sumBits_lt (f : Nat → Bool) : ∀ n, sumBits f n < 2 ^ n
 | 0 => by simp [sumBits]
 | n + 1 => by
  have h := sumBits_lt f n
  simp only [sumBits]
  have : 2 ^ (n + 1) = 2 ^ n + 2 ^ n := by rw [Nat.pow_succ]; omega
  split <;> omega
theorem testBit_sumBits (f : Nat → Bool) : ∀ n k, (sumBits f n).testBit k = (decide (k < n) && f k)
 | 0, k => by simp [sumBits]
 | n + 1, k => by
  have hlt := sumBits_lt f n
  have ih := testBit_sumBits f n k
  simp only [sumBits]
  split
  ·rename_i hf
   have h2 := Nat.two_pow_add_eq_or_of_lt hlt 1
   rw [Nat.mul_one] at h2
   rw [Nat.add_comm, h2, Nat.testBit_or, ih, Nat.testBit_two_pow]
   by_cases e : n = k
   ·subst e; simp [hf]
   ·have : decide (k < n + 1) = decide (k < n) := by rw [decide_eq_decide]; omega
    simp [e, this]
  ·rename_i hf
   rw [Nat.add_zero, ih]
   by_cases e : n = k
   ·subst e; simp [hf]
   ·have : decide (k < n + 1) = decide (k < n) := by rw [decide_eq_decide]; omega
    rw [this]
theorem bitI_tb (s k : Nat) : bitI s k = if s.testBit k then 1 else 0 := by
 unfold bitI
 rw [Nat.testBit_eq_decide_div_mod_eq]
 have : s / 2 ^ k % 2 = 0 ∨ s / 2 ^ k % 2 = 1 := by omega
 rcases this with h | h <;> simp [h]
def cellP (at_ k : Nat) (d : Bool) (row set : Nat) : Bool := decide (row ≠ at_) || (set.testBit k == d)
theorem cell_iff {R C : List (Int × Int)} {at_ k : Nat} {d : Bool} (ha : at_ < R.length) : possB R C (cellP at_ k d) = true ↔ ∃ w, IsBody R C w ∧ (w.getD at_ 0).testBit k = d := by
 rw [possB_iff]
 constructor
 ·rintro ⟨w, h1, h2⟩
  have hl : at_ < w.length := by rw [h1.len]; exact ha
  have := h2 at_ w[at_] (by simp [hl])
  refine ⟨w, h1, ?_⟩
  rw [List.getD_eq_getElem?_getD, List.getElem?_eq_getElem hl, Option.getD_some]
  simpa [cellP] using this
 ·rintro ⟨w, h1, h2⟩
  refine ⟨w, h1, fun i s hs => ?_⟩
  unfold cellP
  by_cases e : i = at_
  ·subst e
   rw [List.getD_eq_getElem?_getD, hs, Option.getD_some] at h2
   simp [h2]
  ·simp [e]
def alwB (R C : List (Int × Int)) (at_ : Nat) : Nat := sumBits (fun k => !possB R C (cellP at_ k false)) C.length
def nevB (R C : List (Int × Int)) (at_ : Nat) : Nat := sumBits (fun k => !possB R C (cellP at_ k true)) C.length
theorem alw_tb {R C : List (Int × Int)} {at_ : Nat} (ha : at_ < R.length) (k : Nat) : (alwB R C at_).testBit k = true ↔ k < C.length ∧ ∀ w, IsBody R C w → (w.getD at_ 0).testBit k = true := by
 unfold alwB
 rw [testBit_sumBits, Bool.and_eq_true, decide_eq_true_eq, Bool.not_eq_true', Bool.eq_false_iff, Ne, cell_iff ha]
 constructor
 ·rintro ⟨h1, h2⟩
  refine ⟨h1, fun w hw => ?_⟩
  cases h : (w.getD at_ 0).testBit k
  ·exact absurd ⟨w, hw, h⟩ h2
  ·rfl
 ·rintro ⟨h1, h2⟩
  refine ⟨h1, fun ⟨w, hw, h⟩ => ?_⟩
  rw [h2 w hw] at h; cases h
theorem nev_tb {R C : List (Int × Int)} {at_ : Nat} (ha : at_ < R.length) (k : Nat) : (nevB R C at_).testBit k = true ↔ k < C.length ∧ ∀ w, IsBody R C w → (w.getD at_ 0).testBit k = false := by
 unfold nevB
 rw [testBit_sumBits, Bool.and_eq_true, decide_eq_true_eq, Bool.not_eq_true', Bool.eq_false_iff, Ne, cell_iff ha]
 constructor
 ·rintro ⟨h1, h2⟩
  refine ⟨h1, fun w hw => ?_⟩
  cases h : (w.getD at_ 0).testBit k
  ·rfl
  ·exact absurd ⟨w, hw, h⟩ h2
 ·rintro ⟨h1, h2⟩
  refine ⟨h1, fun ⟨w, hw, h⟩ => ?_⟩
  rw [h2 w hw] at h; cases h
theorem first_body {R C : List (Int × Int)} (hp : possB R C anyP = true) : IsBody R C (bodyB R C R.length) := by
 have hne := poss_any.1 hp
 exact mem_all.1 (List.mem_of_mem_head? (by rw [body_first hne]; rfl))
end Go.Proofs.YtnmgpbihknjdjaaDoor

/- Chapter 9: exact shadows, other cells, rows and columns exchanged: plain law. -/
namespace Go.Proofs.YtnmgpbihknjdjaaDoor
open Go.RowKit
set_option linter.unusedVariables false
theorem pc_bits : ∀ n, n < 6 → ∀ s, s < 32 → s < 2 ^ n → pc s ≤ n ∧ pc (2 ^ n - 1 - s) = n - pc s ∧ 2 ^ n - 1 - s < 32 := by decide
theorem comp_bit : ∀ n, n < 6 → ∀ s, s < 32 → s < 2 ^ n → ∀ k, k < 5 → bitI (2 ^ n - 1 - s) k = if k < n then 1 - bitI s k else 0 := by decide
theorem hi_bit : ∀ n, n < 6 → ∀ s, s < 32 → s < 2 ^ n → ∀ k, k < 5 → n ≤ k → bitI s k = 0 := by decide
theorem lt_pow5 {n s : Nat} (hn : n ≤ 5) (h : s < 2 ^ n) : s < 32 := by have := pow_le5 n hn; omega
def oth (n : Nat) (R : List (Int × Int)) : List (Int × Int) := R.map fun r => ((n : Int) - r.2, (n : Int) - r.1)
theorem oth_oth (n : Nat) (R : List (Int × Int)) : oth n (oth n R) = R := by
 unfold oth
 rw [List.map_map]
 conv => rhs; rw [← List.map_id R]
 refine List.map_congr_left fun r _ => ?_
 simp only [Function.comp, id]
 ext <;> simp only <;> omega
theorem oth_len (n : Nat) (R : List (Int × Int)) : (oth n R).length = R.length := by simp [oth]
def cmpl (n : Nat) (w : List Nat) : List Nat := w.map fun s => 2 ^ n - 1 - s
theorem cmpl_len (n : Nat) (w : List Nat) : (cmpl n w).length = w.length := by simp [cmpl]
theorem cmpl_cmpl {n : Nat} {w : List Nat} (hw : ∀ s ∈ w, s < 2 ^ n) : cmpl n (cmpl n w) = w := by
 unfold cmpl
 rw [List.map_map]
 conv => rhs; rw [← List.map_id w]
 refine List.map_congr_left fun s hs => ?_
 have := hw s hs
 simp only [Function.comp, id]
 omega
theorem colS_cmpl {n : Nat} (hn : n ≤ 5) {k : Nat} (hk : k < 5) : ∀ {w : List Nat}, (∀ s ∈ w, s < 2 ^ n) → colS (cmpl n w) k = if k < n then (w.length : Int) - colS w k else 0
 | [], _ => by simp [cmpl, colS]
 | s :: w, h => by
  have ih := colS_cmpl hn hk (w := w) fun x hx => h x (List.mem_cons_of_mem _ hx)
  have hs := h s (by simp)
  have e := comp_bit n (by omega) s (lt_pow5 hn hs) hs k hk
  have e2 : cmpl n (s :: w) = (2 ^ n - 1 - s) :: cmpl n w := rfl
  rw [e2, colS_cons, colS_cons, ih, e]
  simp only [List.length_cons]
  split <;> omega
theorem volS_cmpl {n : Nat} (hn : n ≤ 5) : ∀ {w : List Nat}, (∀ s ∈ w, s < 2 ^ n) → volS (cmpl n w) = (w.length : Int) * n - volS w
 | [], _ => by simp [cmpl]; rfl
 | s :: w, h => by
  have ih := volS_cmpl hn (w := w) fun x hx => h x (List.mem_cons_of_mem _ hx)
  have hs := h s (by simp)
  obtain ⟨p1, p2, p3⟩ := pc_bits n (by omega) s (lt_pow5 hn hs) hs
  have e2 : cmpl n (s :: w) = (2 ^ n - 1 - s) :: cmpl n w := rfl
  rw [e2, volS_cons _ p3, volS_cons _ (lt_pow5 hn hs), ih, p2]
  have e3 : (((s :: w).length : Nat) : Int) * (n : Int) = (w.length : Int) * n + n := by
   rw [List.length_cons]
   push_cast
   rw [Int.add_mul, Int.one_mul]
  rw [e3]
  have e4 : ((n - pc s : Nat) : Int) = (n : Int) - (pc s : Nat) := by omega
  rw [e4]
  omega
theorem IsBody.lt {R C : List (Int × Int)} (hC : C.length ≤ 5) {w : List Nat} (h : IsBody R C w) : ∀ s ∈ w, s < 2 ^ C.length := fun s hs => by
 obtain ⟨i, hi⟩ := List.getElem?_of_mem hs
 have hl : i < R.length := by rw [← h.len]; exact (List.getElem?_eq_some_iff.1 hi).1
 exact (((isBody_iff hC).1 h).2.1 i s R[i] hi (by simp [hl])).1
theorem cmpl_body {R C : List (Int × Int)} (hC : C.length ≤ 5) {w : List Nat} (h : IsBody R C w) : IsBody (oth C.length R) (oth R.length C) (cmpl C.length w) := by
 have hlt := h.lt hC
 obtain ⟨h1, h2, h3⟩ := (isBody_iff hC).1 h
 refine (isBody_iff (by rw [oth_len]; exact hC)).2 ⟨by rw [cmpl_len, oth_len, h1], fun i s r hs hr => ?_, fun k c hc => ?_⟩
 ·simp only [cmpl, List.getElem?_map, Option.map_eq_some_iff] at hs
  simp only [oth, List.getElem?_map, Option.map_eq_some_iff] at hr
  obtain ⟨s, hs, rfl⟩ := hs
  obtain ⟨r, hr, rfl⟩ := hr
  obtain ⟨a1, a2, a3⟩ := h2 i s r hs hr
  obtain ⟨p1, p2, p3⟩ := pc_bits C.length (by omega) s (lt_pow5 hC a1) a1
  rw [oth_len, p2]
  exact ⟨by omega, by (simp only; omega), by (simp only; omega)⟩
 ·have hk : k < C.length := by have := (List.getElem?_eq_some_iff.1 hc).1; rwa [oth_len] at this
  simp only [oth, List.getElem?_map, Option.map_eq_some_iff] at hc
  obtain ⟨c, hc, rfl⟩ := hc
  obtain ⟨a1, a2⟩ := h3 k c hc
  rw [colS_cmpl hC (by omega) hlt, if_pos hk, h1]
  simp only
  omega
theorem cmpl_iff {R C : List (Int × Int)} (hC : C.length ≤ 5) {w : List Nat} : IsBody (oth C.length R) (oth R.length C) w ↔ ∃ v, IsBody R C v ∧ w = cmpl C.length v := by
 constructor
 ·intro h
  have hlt : ∀ s ∈ w, s < 2 ^ C.length := by
   have := h.lt (by rw [oth_len]; exact hC)
   rwa [oth_len] at this
  have := cmpl_body (by rw [oth_len]; exact hC) h
  rw [oth_len, oth_len, oth_oth, oth_oth] at this
  exact ⟨_, this, (cmpl_cmpl hlt).symm⟩
 ·rintro ⟨v, h, rfl⟩
  exact cmpl_body hC h
theorem poss_oth {R C : List (Int × Int)} (hC : C.length ≤ 5) : possB (oth C.length R) (oth R.length C) anyP = possB R C anyP := by
 rw [Bool.eq_iff_iff, possB_iff, possB_iff]
 constructor
 ·rintro ⟨w, h, _⟩
  obtain ⟨v, hv, _⟩ := (cmpl_iff hC).1 h
  exact ⟨v, hv, fun _ _ _ => rfl⟩
 ·rintro ⟨v, hv, _⟩
  exact ⟨_, cmpl_body hC hv, fun _ _ _ => rfl⟩
theorem vol_oth {R C : List (Int × Int)} (hC : C.length ≤ 5) (hp : possB R C anyP = true) : mnL (volL (oth C.length R) (oth R.length C)) = (R.length : Int) * C.length - mxL (volL R C) ∧ mxL (volL (oth C.length R) (oth R.length C)) = (R.length : Int) * C.length - mnL (volL R C) := by
 obtain ⟨w, hw, _⟩ := possB_iff.1 hp
 have hne : volL R C ≠ [] := fun e => by
  have := mem_volL.2 ⟨w, hw, rfl⟩
  rw [e] at this; cases this
 have hne2 : volL (oth C.length R) (oth R.length C) ≠ [] := fun e => by
  have := mem_volL.2 ⟨_, cmpl_body hC hw, rfl⟩
  rw [e] at this; cases this
 have hiff : ∀ x, x ∈ volL (oth C.length R) (oth R.length C) ↔ (R.length : Int) * C.length - x ∈ volL R C := fun x => by
  rw [mem_volL, mem_volL]
  constructor
  ·rintro ⟨v, h, rfl⟩
   obtain ⟨u, hu, rfl⟩ := (cmpl_iff hC).1 h
   refine ⟨u, hu, ?_⟩
   rw [volS_cmpl hC (hu.lt hC), hu.len]
   omega
  ·rintro ⟨u, hu, e⟩
   refine ⟨_, cmpl_body hC hu, ?_⟩
   rw [volS_cmpl hC (hu.lt hC), hu.len]
   omega
 generalize (R.length : Int) * C.length = N at *
 obtain ⟨a1, a2⟩ := mn_mem hne
 obtain ⟨b1, b2⟩ := mx_mem hne
 obtain ⟨c1, c2⟩ := mn_mem hne2
 obtain ⟨d1, d2⟩ := mx_mem hne2
 have e1 := c2 (N - mxL (volL R C)) ((hiff _).2 (by rw [show N - (N - mxL (volL R C)) = mxL (volL R C) by omega]; exact b1))
 have e2 := b2 _ ((hiff _).1 c1)
 have e3 := d2 (N - mnL (volL R C)) ((hiff _).2 (by rw [show N - (N - mnL (volL R C)) = mnL (volL R C) by omega]; exact a1))
 have e4 := a2 _ ((hiff _).1 d1)
 omega
theorem testBit_cmpl {n s : Nat} (hs : s < 2 ^ n) (k : Nat) : (2 ^ n - 1 - s).testBit k = (decide (k < n) && !s.testBit k) := by
 have := Nat.testBit_two_pow_sub_succ hs k
 rw [show 2 ^ n - 1 - s = 2 ^ n - (s + 1) by omega, this]
theorem cmpl_getD {n : Nat} {w : List Nat} {i : Nat} (hi : i < w.length) : (cmpl n w).getD i 0 = 2 ^ n - 1 - w.getD i 0 := by
 simp [cmpl, List.getD_eq_getElem?_getD, hi]
theorem alw_oth {R C : List (Int × Int)} (hC : C.length ≤ 5) {i : Nat} (hi : i < R.length) : alwB (oth C.length R) (oth R.length C) i = nevB R C i := by
 refine Nat.eq_of_testBit_eq fun k => ?_
 rw [Bool.eq_iff_iff, alw_tb (by rw [oth_len]; exact hi), nev_tb hi, oth_len]
 refine and_congr_right fun hk => ?_
 have key : ∀ v, IsBody R C v → (((cmpl C.length v).getD i 0).testBit k = true ↔ (v.getD i 0).testBit k = false) := fun v hv => by
  have hl : i < v.length := by rw [hv.len]; exact hi
  rw [cmpl_getD hl, testBit_cmpl (hv.lt hC _ (by rw [List.getD_eq_getElem?_getD, List.getElem?_eq_getElem hl]; simp))]
  simp [hk]
 constructor
 ·intro h v hv
  exact (key v hv).1 (h _ (cmpl_body hC hv))
 ·intro h w hw
  obtain ⟨v, hv, rfl⟩ := (cmpl_iff hC).1 hw
  exact (key v hv).2 (h v hv)
theorem nev_oth {R C : List (Int × Int)} (hC : C.length ≤ 5) {i : Nat} (hi : i < R.length) : nevB (oth C.length R) (oth R.length C) i = alwB R C i := by
 refine Nat.eq_of_testBit_eq fun k => ?_
 rw [Bool.eq_iff_iff, nev_tb (by rw [oth_len]; exact hi), alw_tb hi, oth_len]
 refine and_congr_right fun hk => ?_
 have key : ∀ v, IsBody R C v → (((cmpl C.length v).getD i 0).testBit k = false ↔ (v.getD i 0).testBit k = true) := fun v hv => by
  have hl : i < v.length := by rw [hv.len]; exact hi
  rw [cmpl_getD hl, testBit_cmpl (hv.lt hC _ (by rw [List.getD_eq_getElem?_getD, List.getElem?_eq_getElem hl]; simp))]
  simp [hk]
 constructor
 ·intro h v hv
  exact (key v hv).1 (h _ (cmpl_body hC hv))
 ·intro h w hw
  obtain ⟨v, hv, rfl⟩ := (cmpl_iff hC).1 hw
  exact (key v hv).2 (h v hv)
def trW (n : Nat) (w : List Nat) : List Nat := (List.range n).map fun k => sumBits (fun i => (w.getD i 0).testBit k) w.length
theorem trW_len (n : Nat) (w : List Nat) : (trW n w).length = n := by simp [trW]
theorem colS_five : ∀ (w : List Nat) (k : Nat), w.length ≤ 5 → colS w k = (if 0 < w.length then bitI (w.getD 0 0) k else 0) + (if 1 < w.length then bitI (w.getD 1 0) k else 0) + (if 2 < w.length then bitI (w.getD 2 0) k else 0) + (if 3 < w.length then bitI (w.getD 3 0) k else 0) + (if 4 < w.length then bitI (w.getD 4 0) k else 0)
 | [], k, _ => by simp [colS]
 | [a], k, _ => by simp [colS]
 | [a, b], k, _ => by simp [colS]
 | [a, b, c], k, _ => by simp [colS]; omega
 | [a, b, c, d], k, _ => by simp [colS]; omega
 | [a, b, c, d, e], k, _ => by simp [colS]; omega
 | _ :: _ :: _ :: _ :: _ :: _ :: _, _, h => absurd h (by simp)
theorem bitI_sum (f : Nat → Bool) (m k : Nat) : bitI (sumBits f m) k = if k < m ∧ f k = true then 1 else 0 := by
 rw [bitI_tb, testBit_sumBits]
 simp
theorem sumBits_lt32 (f : Nat → Bool) {m : Nat} (hm : m ≤ 5) : sumBits f m < 32 := by
 have h1 := sumBits_lt f m
 have h2 := pow_le5 m hm
 omega
theorem pc_tr {w : List Nat} (hw : w.length ≤ 5) (k : Nat) : (pc (sumBits (fun i => (w.getD i 0).testBit k) w.length) : Int) = colS w k := by
 rw [← bits_sum _ (sumBits_lt32 _ hw), colS_five w k hw]
 simp only [bitI_sum]
 have key : ∀ i, (if i < w.length ∧ (w.getD i 0).testBit k = true then (1 : Int) else 0) = if i < w.length then bitI (w.getD i 0) k else 0 := fun i => by
  rw [bitI_tb]
  by_cases h : i < w.length <;> simp [h]
 simp only [key]
theorem col_tr {n : Nat} {w : List Nat} (hn : n ≤ 5) (hw : ∀ s ∈ w, s < 2 ^ n) {i : Nat} (hi : i < w.length) : colS (trW n w) i = pc (w.getD i 0) := by
 have hs := hw (w.getD i 0) (by rw [List.getD_eq_getElem?_getD, List.getElem?_eq_getElem hi]; simp)
 rw [colS_five _ _ (by rw [trW_len]; exact hn), trW_len, ← bits_sum _ (lt_pow5 hn hs)]
 have key : ∀ k, k < 5 → (if k < n then bitI ((trW n w).getD k 0) i else 0) = bitI (w.getD i 0) k := fun k hk => by
  by_cases h : k < n
  ·have e : (trW n w).getD k 0 = sumBits (fun i => (w.getD i 0).testBit k) w.length := by
    simp [trW, List.getD_eq_getElem?_getD, h]
   rw [if_pos h, e, bitI_sum, bitI_tb]
   simp [hi]
  ·rw [if_neg h, hi_bit n (by omega) _ (lt_pow5 hn hs) hs k hk (by omega)]
 rw [key 0 (by decide), key 1 (by decide), key 2 (by decide), key 3 (by decide), key 4 (by decide)]
theorem tr_body {R C : List (Int × Int)} (hR : R.length ≤ 5) (hC : C.length ≤ 5) {w : List Nat} (h : IsBody R C w) : IsBody C R (trW C.length w) := by
 obtain ⟨h1, h2, h3⟩ := (isBody_iff hC).1 h
 refine (isBody_iff hR).2 ⟨trW_len _ _, fun k s c hs hc => ?_, fun i r hr => ?_⟩
 ·simp only [trW, List.getElem?_map, Option.map_eq_some_iff] at hs
  obtain ⟨a, e1, rfl⟩ := hs
  have : a = k := by
   have h2 := (List.getElem?_eq_some_iff.1 e1).2
   simpa using h2.symm
  subst this
  obtain ⟨b1, b2⟩ := h3 a c hc
  refine ⟨by rw [← h1]; exact sumBits_lt _ _, ?_, ?_⟩ <;> rw [pc_tr (by omega)] <;> omega
 ·have hi : i < w.length := by rw [h1]; exact (List.getElem?_eq_some_iff.1 hr).1
  rw [col_tr hC (h.lt hC) hi]
  have := h2 i w[i] r (by simp [hi]) hr
  rw [List.getD_eq_getElem?_getD, List.getElem?_eq_getElem hi, Option.getD_some]
  exact this.2
theorem volS_five : ∀ (w : List Nat), w.length ≤ 5 → (∀ s ∈ w, s < 32) → volS w = (if 0 < w.length then (pc (w.getD 0 0) : Int) else 0) + (if 1 < w.length then (pc (w.getD 1 0) : Int) else 0) + (if 2 < w.length then (pc (w.getD 2 0) : Int) else 0) + (if 3 < w.length then (pc (w.getD 3 0) : Int) else 0) + (if 4 < w.length then (pc (w.getD 4 0) : Int) else 0)
 | [], _, _ => rfl
 | [a], _, h => by rw [volS_cons _ (h a (by simp)), show volS [] = 0 from rfl]; simp
 | [a, b], _, h => by rw [volS_cons _ (h a (by simp)), volS_cons _ (h b (by simp)), show volS [] = 0 from rfl]; simp
 | [a, b, c], _, h => by rw [volS_cons _ (h a (by simp)), volS_cons _ (h b (by simp)), volS_cons _ (h c (by simp)), show volS [] = 0 from rfl]; simp; omega
 | [a, b, c, d], _, h => by rw [volS_cons _ (h a (by simp)), volS_cons _ (h b (by simp)), volS_cons _ (h c (by simp)), volS_cons _ (h d (by simp)), show volS [] = 0 from rfl]; simp; omega
 | [a, b, c, d, e], _, h => by rw [volS_cons _ (h a (by simp)), volS_cons _ (h b (by simp)), volS_cons _ (h c (by simp)), volS_cons _ (h d (by simp)), volS_cons _ (h e (by simp)), show volS [] = 0 from rfl]; simp; omega
 | _ :: _ :: _ :: _ :: _ :: _ :: _, h, _ => absurd h (by simp)
theorem vol_tr {n : Nat} {w : List Nat} (hn : n ≤ 5) (hm : w.length ≤ 5) (hw : ∀ s ∈ w, s < 2 ^ n) : volS (trW n w) = volS w := by
 have h32 : ∀ s ∈ trW n w, s < 32 := fun s hs => by
  simp only [trW, List.mem_map] at hs
  obtain ⟨k, _, rfl⟩ := hs
  exact sumBits_lt32 _ hm
 rw [volS_five _ (by rw [trW_len]; exact hn) h32, volS_eq, trW_len]
 have key : ∀ k, k < 5 → (if k < n then (pc ((trW n w).getD k 0) : Int) else 0) = colS w k := fun k hk => by
  by_cases h : k < n
  ·have e : (trW n w).getD k 0 = sumBits (fun i => (w.getD i 0).testBit k) w.length := by
    simp [trW, List.getD_eq_getElem?_getD, h]
   rw [if_pos h, e, pc_tr hm]
  ·rw [if_neg h]
   have : ∀ (v : List Nat), (∀ s ∈ v, s < 2 ^ n) → colS v k = 0 := fun v => by
    induction v with
    | nil => intro _; rfl
    | cons s v ih =>
     intro hv
     have hs := hv s (by simp)
     rw [colS_cons, ih fun x hx => hv x (List.mem_cons_of_mem _ hx), hi_bit n (by omega) s (lt_pow5 hn hs) hs k hk (by omega)]; rfl
   rw [this w hw]
 rw [key 0 (by decide), key 1 (by decide), key 2 (by decide), key 3 (by decide), key 4 (by decide)]
theorem tr_vol {R C : List (Int × Int)} (hR : R.length ≤ 5) (hC : C.length ≤ 5) {x : Int} (h : x ∈ volL R C) : x ∈ volL C R := by
 obtain ⟨w, hw, rfl⟩ := mem_volL.1 h
 exact mem_volL.2 ⟨_, tr_body hR hC hw, (vol_tr hC (by rw [hw.len]; exact hR) (hw.lt hC)).symm⟩
theorem vol_exch {R C : List (Int × Int)} (hR : R.length ≤ 5) (hC : C.length ≤ 5) (hp : possB R C anyP = true) : mnL (volL C R) = mnL (volL R C) ∧ mxL (volL C R) = mxL (volL R C) := by
 obtain ⟨w, hw, _⟩ := possB_iff.1 hp
 have hne : volL R C ≠ [] := fun e => by
  have := mem_volL.2 ⟨w, hw, rfl⟩
  rw [e] at this; cases this
 have hi : ∀ x, x ∈ volL R C ↔ x ∈ volL C R := fun x => ⟨tr_vol hR hC, tr_vol hC hR⟩
 exact ⟨(mn_ext hne hi).symm, (mx_ext hne hi).symm⟩
theorem poss_exch {R C : List (Int × Int)} (hR : R.length ≤ 5) (hC : C.length ≤ 5) : possB C R anyP = possB R C anyP := by
 rw [Bool.eq_iff_iff, possB_iff, possB_iff]
 constructor
 ·rintro ⟨w, h, _⟩; exact ⟨_, tr_body hC hR h, fun _ _ _ => rfl⟩
 ·rintro ⟨w, h, _⟩; exact ⟨_, tr_body hR hC h, fun _ _ _ => rfl⟩
theorem colS_rev (w : List Nat) (k : Nat) : colS w.reverse k = colS w k := by
 unfold colS
 rw [List.map_reverse, List.sum_reverse]
theorem rev_body {R C : List (Int × Int)} (hC : C.length ≤ 5) {w : List Nat} (h : IsBody R C w) : IsBody R.reverse C w.reverse ∧ volS w.reverse = volS w := by
 obtain ⟨h1, h2, h3⟩ := (isBody_iff hC).1 h
 refine ⟨(isBody_iff hC).2 ⟨by simp [h1], fun i s r hs hr => ?_, fun k c hc => by rw [colS_rev]; exact h3 k c hc⟩, by rw [volS_eq, volS_eq]; simp only [colS_rev]⟩
 have hi : i < R.length := by have := (List.getElem?_eq_some_iff.1 hr).1; simpa using this
 rw [List.getElem?_reverse (by omega)] at hs
 rw [List.getElem?_reverse hi, ← h1] at hr
 exact h2 _ s r hs hr
end Go.Proofs.YtnmgpbihknjdjaaDoor

/- Chapter 9: all bodies, one after the other, without those that cannot be: plain law. -/
namespace Go.Proofs.YtnmgpbihknjdjaaDoor
open Go.RowKit
set_option linter.unusedVariables false
theorem getD_some {α : Type} {l : List α} {k : Nat} {c d : α} (h : l[k]? = some c) : l.getD k d = c := by rw [List.getD_eq_getElem?_getD, h]; rfl
theorem mnL_app {l : List Int} (h : l ≠ []) (x : Int) : mnL (l ++ [x]) = if x < mnL l then x else mnL l := by
 cases l with
 | nil => exact absurd rfl h
 | cons a l => unfold mnL; rw [List.cons_append]; simp only [List.foldl_append, List.foldl_cons, List.foldl_nil]
theorem mxL_app {l : List Int} (h : l ≠ []) (x : Int) : mxL (l ++ [x]) = if mxL l < x then x else mxL l := by
 cases l with
 | nil => exact absurd rfl h
 | cons a l => unfold mxL; rw [List.cons_append]; simp only [List.foldl_append, List.foldl_cons, List.foldl_nil]
end Go.Proofs.YtnmgpbihknjdjaaDoor

/- Contracts: fractions. -/
namespace Go.Proofs.YtnmgpbihknjdjaaDoor
open Go.RowKit
set_option linter.unusedVariables false
end Go.Proofs.YtnmgpbihknjdjaaDoor

/- Contracts: names. -/
namespace Go.Proofs.YtnmgpbihknjdjaaDoor
open Go.RowKit
set_option linter.unusedVariables false
end Go.Proofs.YtnmgpbihknjdjaaDoor

/- Contracts: names, as the document says. -/
namespace Go.Proofs.YtnmgpbihknjdjaaDoor
open Go.RowKit
set_option linter.unusedVariables false
end Go.Proofs.YtnmgpbihknjdjaaDoor

/- The first item that is not valid (plain). -/
namespace Go.Proofs.YtnmgpbihknjdjaaDoor
set_option linter.unusedVariables false
def firG {α : Type} (G : Nat → α → Int) : Nat → List α → Int × Int
 | _, [] => (0, 0)
 | i, c :: l => if G i c = 0 then firG G (i + 1) l else (i, G i c)
theorem firG_ok {α : Type} {G : Nat → α → Int} : ∀ {l : List α} {i : Nat}, (firG G i l).2 = 0 → ∀ (j : Nat) (h : j < l.length), G (i + j) l[j] = 0
 | [], _, _, j, h => absurd h (Nat.not_lt_zero _)
 | c :: l, i, hz, j, h => by
  rw [firG] at hz
  split at hz
  ·rename_i h0
   cases j with
   | zero => exact h0
   | succ j =>
    have := firG_ok hz j (by simpa using h)
    rw [show i + (j + 1) = i + 1 + j by omega]
    exact this
  ·rename_i h0; exact absurd hz h0
end Go.Proofs.YtnmgpbihknjdjaaDoor

/- Contracts: calendars. -/
namespace Go.Proofs.YtnmgpbihknjdjaaDoor
open Go.RowKit
set_option linter.unusedVariables false
end Go.Proofs.YtnmgpbihknjdjaaDoor

/- Chapter 9: which shadows are valid. -/
namespace Go.Proofs.YtnmgpbihknjdjaaDoor
open Go.RowKit
set_option linter.unusedVariables false
theorem mf_eachRg : MT.mf 43 = some ⟨25, [(.tmp 4), (.tmp 5)], (.seq (.reg [gO 4 (.mv (cI 0)), gO 5 (.mv (cI 0))]) (.seq (.seq (.reg [gO 9 (.mv (.s 0)), gO 10 (.len (.s 9)), gO 11 (.mv (cI 0))]) (.block 0 (.loop [11, 10, 9, 1] (.seq (.reg [gO 12 (.bin .lss (.s 11) (.s 10))]) (.seq (.cond (.s 12) .skip (.exit 0)) (.seq (.block 1 (.seq (.reg [gO 13 (.mv (.s 11)), gO 14 (.ia 2 (.s 9) (.s 11)), gO 15 (.ld (some 2) (.s 14)), gO 7 (.new (.agg [(.lit (.int .i64 0)), (.lit (.int .i64 0))])), gO 6 (.mv (.s 13)), ⟨none, none, .st 2 (.s 7) (.s 15)⟩]) (.seq (.reg [gO 16 (.mv (.s 1)), gO 17 (.mv (.s 6)), gO 18 (.ld (some 2) (.s 7)), gO 19 (.callv (.s 16) [.s 17, .s 18]), gO 8 (.mv (.s 19))]) (.seq (.reg [gO 20 (.mv (.s 8)), gO 21 (.bin .neq (.s 20) (cI 0))]) (.cond (.s 21) (.seq (.reg [gO 22 (.mv (.s 6)), gO 23 (.mv (.s 8)), gO 4 (.mv (.s 22)), gO 5 (.mv (.s 23))]) .ret) .skip))))) (.reg [gO 24 (.bin .add (.s 11) (cI 1)), gO 11 (.mv (.s 24))]))))))) (.seq (.reg [gO 4 (.mv (cI 0)), gO 5 (.mv (cI 0))]) .ret)))⟩ := by kernel_rfl
theorem eachRg_z (k g : Nat) (caps : List MV) (G : Nat → (Int × Int) → Int) (zs : List (Int × Int)) (hx : zs.length ≤ 1000) (hcl : ltL 0 caps = true) (hg : ∀ (i : Nat) (hi : i < zs.length) h, orA k g (I64 (i : Int) :: encP zs[i] :: caps) h = some (I64 (G i zs[i]), h)) :
  runZ MT (orA k) (itA k) 4000000 43 [.sl (zs.map encP), .fn g 0 caps] [] = some (.tup [I64 (firG G 0 zs).1, I64 (firG G 0 zs).2], []) := by
 have hl : (MV.sl (zs.map encP)).slen = some zs.length := by simp [MV.slen]
 refine runZ_of mf_eachRg (by simp) ?_
 simp only [argsL]
 repeat (first | apply ef_seq | (apply ef_mv; exact rfl; exact rfl) | (apply ef_len; exact rfl; exact rfl; (assumption)) | apply ef_nil | apply seqQ.normal | apply ef_block)
 refine ef_loopf (α := Nat) (fun i => i ≤ zs.length ∧ firG G 0 zs = firG G i (zs.drop i)) (fun i => [(11, I64 (i : Int))]) [(10, I64 (zs.length : Int)), (9, .sl (zs.map encP)), (1, .fn g 0 caps)] (fun _ => []) (fun i => zs.length - i) 0 [11] (fun _ => rfl) (by ((repeat (refine Hold.cons (by exact rfl) ?_)); exact Hold.nil)) (by ((repeat (refine Hold.cons (by exact rfl) ?_)); exact Hold.nil)) rfl rfl ⟨by omega, rfl⟩ (by simp; omega) ?_
 rintro i ⟨hi, hz⟩
 by_cases hlt : i < zs.length
 ·have e1 := at_map encP zs i hlt
  have HD := Lib.hid (drop_at zs i hlt)
  have HZ := Lib.hid hz
  have hg1 := hg i hlt
  clear hz
  generalize zs[i] = z at e1 HD hg1
  obtain ⟨t, ht⟩ : ∃ t, G i z = t := ⟨_, rfl⟩
  have HT := Lib.hid ht
  rw [ht] at hg1
  clear ht
  have hlz : (encP z).lt 0 = true := by rfl
  by_cases h0 : t = 0
  ·subst h0
   repeat (first | apply ef_seq | (apply ef_mv; exact rfl; exact rfl) | (apply ef_bin; (iterate 3 exact rfl); (exact cmp_t rfl (by first | exact rfl | (simp only [cmpP]; omega)))) | (apply ef_ldr; exact rfl; exact rfl; (exact rd_2 rfl rfl)) | (apply ef_ldp; exact rfl; exact rfl; (exact rfl); exact rfl; (exact rfl); (exact rd_2 rfl rfl)) | (apply ef_ias; (iterate 3 exact rfl); (omega); assumption; exact rfl) | (apply ef_new; exact rfl) | (apply ef_st; (iterate 6 exact rfl); (exact rfl); exact rfl) | apply ef_nil | apply seqQ.normal | apply ef_block | apply ef_skip | (apply ef_condt; exact rfl; (exact (rfl : true = true))))
   (apply ef_callv; (· exact rfl); (· exact rfl); (· ((repeat (apply XVs.cons; exact rfl)); exact XVs.nil)); (· exact rfl); (· exact hg1 _))
   repeat (first | apply ef_seq | (apply ef_mv; exact rfl; exact rfl) | (apply ef_bin; (iterate 3 exact rfl); (first | exact cmp_f rfl (by simp only [cmpP]; omega) | ((with_reducible refine bin_add (wrap_of ?_ ?_)) <;> omega))) | apply ef_nil | apply seqQ.normal | apply blockQ.normal | apply ef_skip | (apply ef_condf; exact rfl; (exact (rfl : false = false))))
   (refine loopQ.normal _ _ ⟨i + 1, ⟨hlt, by rw [HZ.out, HD.out, firG, if_pos HT.out]⟩, (by first | (simp only; omega) | omega), ⟨by ((repeat (refine Hold.cons (by exact rfl) ?_)); exact Hold.nil), by ((repeat (refine Hold.cons (by exact rfl) ?_)); exact Hold.nil)⟩, .inr ⟨by ((repeat (refine hdl_cons rfl (by first | rfl | (simp [MV.lt, ltL, encP_lt, hcl])) ?_)); exact hdl_nil), by first | rfl | (simp [hltL, ltL, MV.lt, ltL, encP_lt, hcl])⟩, by first | exact rfl | (simp only [List.map_append, List.map_set]; exact rfl)⟩)
  ·repeat (first | apply ef_seq | (apply ef_mv; exact rfl; exact rfl) | (apply ef_bin; (iterate 3 exact rfl); (exact cmp_t rfl (by first | exact rfl | (simp only [cmpP]; omega)))) | (apply ef_ldr; exact rfl; exact rfl; (exact rd_2 rfl rfl)) | (apply ef_ldp; exact rfl; exact rfl; (exact rfl); exact rfl; (exact rfl); (exact rd_2 rfl rfl)) | (apply ef_ias; (iterate 3 exact rfl); (omega); assumption; exact rfl) | (apply ef_new; exact rfl) | (apply ef_st; (iterate 6 exact rfl); (exact rfl); exact rfl) | apply ef_nil | apply seqQ.normal | apply ef_block | apply ef_skip | (apply ef_condt; exact rfl; (exact (rfl : true = true))))
   (apply ef_callv; (· exact rfl); (· exact rfl); (· ((repeat (apply XVs.cons; exact rfl)); exact XVs.nil)); (· exact rfl); (· exact hg1 _))
   repeat (first | apply ef_seq | (apply ef_mv; exact rfl; exact rfl) | (apply ef_bin; (iterate 3 exact rfl); (exact cmp_t rfl (by first | exact rfl | (simp only [cmpP]; omega)))) | apply ef_nil | apply seqQ.normal | apply loopQ.ret | apply ef_ret | apply seqQ.ret | apply blockQ.ret | (apply ef_condt; exact rfl; (exact (rfl : true = true))))
   (refine fin2 rfl (by exact rfl) (by exact rfl) ?_)
   rw [HZ.out, HD.out, firG, HT.out, if_neg h0]
 ·repeat (first | apply ef_seq | (apply ef_mv; exact rfl; exact rfl) | (apply ef_bin; (iterate 3 exact rfl); (exact cmp_f rfl (by simp only [cmpP]; omega))) | apply ef_nil | apply seqQ.normal | apply loopQ.exit | apply ef_ret | apply ef_exit | apply seqQ.exit | apply blockQ.here | (apply ef_condf; exact rfl; (exact (rfl : false = false))))
  (refine fin2 rfl (by exact rfl) (by exact rfl) ?_)
  rw [hz, List.drop_eq_nil_of_le (by omega)]; rfl
theorem eachRg_c (k g : Nat) (caps : List MV) (G : Nat → (Int × Int) → Int) (zs : List (Int × Int)) (h : MHeap) {v fv : MV} (hx : zs.length ≤ 1000) (hcl : ltL 0 caps = true) (hg : ∀ (i : Nat) (hi : i < zs.length) h, orA k g (I64 (i : Int) :: encP zs[i] :: caps) h = some (I64 (G i zs[i]), h)) (hv : frz 0 [] h 8 v = some (.sl (zs.map encP))) (hf : frz 0 [] h 8 fv = some (.fn g 0 caps)) :
  orA (k + 1) 43 [v, fv] h = some (.tup [I64 (firG G 0 zs).1, I64 (firG G 0 zs).2], h) :=
 callTT (args' := [.sl (zs.map encP), .fn g 0 caps]) (by simp [List.mapM_cons, hv, hf]) rfl (eachRg_z k g caps G zs hx hcl hg)
def rgE (most : Int) (p : Int × Int) : Int := if inB p.1 0 most && inB p.2 0 most then (if p.1 ≤ p.2 then 0 else 9) else 2
def chkS (R C : List (Int × Int)) : Int × Int :=
 if R.length = 0 ∨ C.length = 0 then (0, 10) else if 5 < R.length ∨ 5 < C.length then (0, 8)
 else if (firG (fun _ => rgE C.length) 0 R).2 = 0 then firG (fun _ => rgE R.length) 0 C else firG (fun _ => rgE C.length) 0 R
theorem mf_Chk1 : MT.mf 42 = some ⟨25, [(.tmp 5)], (.seq (.reg [gO 4 (.box 2 (.s 1)), gO 5 (.mv (cI 0))]) (.seq (.reg [gO 6 (.fa 0 (.s 4)), gO 7 (.ld none (.s 6)), gO 8 (.ld none (.s 2)), gO 9 (.call 34 [.s 7, (cI 0), .s 8]), gO 10 (.mv (.s 9)), ⟨some (10, true), some 11, .fa 1 (.s 4)⟩, ⟨some (10, true), some 12, .ld none (.s 11)⟩, ⟨some (10, true), some 13, .ld none (.s 2)⟩, ⟨some (10, true), some 14, .call 34 [.s 12, (cI 0), .s 13]⟩, gO 15 (.pick (.s 10) (.s 14) cF), gO 16 (.call 33 [.s 15, (cI 2)]), gO 17 (.fa 0 (.s 4)), gO 18 (.ld none (.s 17)), gO 19 (.fa 1 (.s 4)), gO 20 (.ld none (.s 19)), gO 21 (.bin .leq (.s 18) (.s 20)), gO 22 (.call 33 [.s 21, (cI 9)]), gO 23 (.bsl (.lit (.int .i64 0)) 1 2 [(0, (.s 16)), (1, (.s 22))]), gO 24 (.call 32 [.s 23]), gO 5 (.mv (.s 24))]) .ret))⟩ := by kernel_rfl
theorem Chk1_c (k : Nat) (i : Nat) (z : Int × Int) (m : Int) (h : MHeap) : orA (k + 4) 42 (I64 (i : Int) :: encP z :: [.rp (I64 m) 0]) h = some (I64 (rgE m z), h) := by
 refine callL (args' := I64 (i : Int) :: encP z :: [.rp (I64 m) 0]) (frzL_lt rfl) rfl (runZ_of mf_Chk1 (by simp) ?_)
 simp only [argsL]
 have HE := Lib.hid (show rgE m z = if inB z.1 0 m && inB z.2 0 m then (if z.1 ≤ z.2 then 0 else 9) else 2 from rfl)
 have hu := fun b n h => unless_c (k + 2) b n h rfl
 by_cases a1 : z.1 ≤ z.2
 ·cases a2 : inB z.1 0 m
  ·repeat (first | apply ef_seq | (apply ef_mv; exact rfl; exact rfl) | (apply ef_bin; (iterate 3 exact rfl); (exact cmp_t rfl (by first | exact rfl | (simp only [cmpP]; omega)))) | (apply ef_gn; exact rfl; (exact (rfl : false = false)); exact rfl) | (apply ef_pick; (iterate 3 exact rfl)) | (apply ef_ldr; exact rfl; exact rfl; (exact rfl)) | (apply ef_ldp; exact rfl; exact rfl; (exact rfl); exact rfl; (exact rfl); (exact rfl)) | (apply ef_fap; exact rfl; exact rfl) | (apply ef_box; (iterate 4 exact rfl)) | (apply ef_bsl; exact rfl; (repeat (apply XVs.cons; exact rfl)); exact XVs.nil; exact rfl) | apply ef_nil | apply seqQ.normal | apply ef_ret | (apply ef_call; exact rfl; ((repeat (apply XVs.cons; exact rfl)); exact XVs.nil); (with_reducible first | exact within_c (k + 2) _ _ _ _ a2 | exact hu _ _ _)) | (apply ef_call; exact rfl; ((repeat (apply XVs.cons; exact rfl)); exact XVs.nil); (with_reducible apply first2_c); (iterate 3 exact rfl); (exact rfl)))
   (refine fin1 rfl (by exact rfl) rfl ?_)
   rw [HE.out, a2]; rfl
  ·cases a3 : inB z.2 0 m
   ·repeat (first | apply ef_seq | (apply ef_mv; exact rfl; exact rfl) | (apply ef_bin; (iterate 3 exact rfl); (exact cmp_t rfl (by first | exact rfl | (simp only [cmpP]; omega)))) | (apply ef_gy; exact rfl; (exact (rfl : true = true))) | (apply ef_pick; (iterate 3 exact rfl)) | (apply ef_ldr; exact rfl; exact rfl; (exact rfl)) | (apply ef_ldp; exact rfl; exact rfl; (exact rfl); exact rfl; (exact rfl); (exact rfl)) | (apply ef_fap; exact rfl; exact rfl) | (apply ef_box; (iterate 4 exact rfl)) | (apply ef_bsl; exact rfl; (repeat (apply XVs.cons; exact rfl)); exact XVs.nil; exact rfl) | apply ef_nil | apply seqQ.normal | apply ef_ret | (apply ef_call; exact rfl; ((repeat (apply XVs.cons; exact rfl)); exact XVs.nil); (with_reducible first | exact within_c (k + 2) _ _ _ _ a2 | exact within_c (k + 2) _ _ _ _ a3 | exact hu _ _ _)) | (apply ef_call; exact rfl; ((repeat (apply XVs.cons; exact rfl)); exact XVs.nil); (with_reducible apply first2_c); (iterate 3 exact rfl); (exact rfl)))
    (refine fin1 rfl (by exact rfl) rfl ?_)
    rw [HE.out, a2, a3]; rfl
   ·repeat (first | apply ef_seq | (apply ef_mv; exact rfl; exact rfl) | (apply ef_bin; (iterate 3 exact rfl); (exact cmp_t rfl (by first | exact rfl | (simp only [cmpP]; omega)))) | (apply ef_gy; exact rfl; (exact (rfl : true = true))) | (apply ef_pick; (iterate 3 exact rfl)) | (apply ef_ldr; exact rfl; exact rfl; (exact rfl)) | (apply ef_ldp; exact rfl; exact rfl; (exact rfl); exact rfl; (exact rfl); (exact rfl)) | (apply ef_fap; exact rfl; exact rfl) | (apply ef_box; (iterate 4 exact rfl)) | (apply ef_bsl; exact rfl; (repeat (apply XVs.cons; exact rfl)); exact XVs.nil; exact rfl) | apply ef_nil | apply seqQ.normal | apply ef_ret | (apply ef_call; exact rfl; ((repeat (apply XVs.cons; exact rfl)); exact XVs.nil); (with_reducible first | exact within_c (k + 2) _ _ _ _ a2 | exact within_c (k + 2) _ _ _ _ a3 | exact hu _ _ _)) | (apply ef_call; exact rfl; ((repeat (apply XVs.cons; exact rfl)); exact XVs.nil); (with_reducible apply first2_c); (iterate 3 exact rfl); (exact rfl)))
    (refine fin1 rfl (by exact rfl) rfl ?_)
    rw [HE.out, a2, a3, if_pos (by rfl), if_pos a1]; rfl
 ·cases a2 : inB z.1 0 m
  ·repeat (first | apply ef_seq | (apply ef_mv; exact rfl; exact rfl) | (apply ef_bin; (iterate 3 exact rfl); (exact cmp_f rfl (by simp only [cmpP]; omega))) | (apply ef_gn; exact rfl; (exact (rfl : false = false)); exact rfl) | (apply ef_pick; (iterate 3 exact rfl)) | (apply ef_ldr; exact rfl; exact rfl; (exact rfl)) | (apply ef_ldp; exact rfl; exact rfl; (exact rfl); exact rfl; (exact rfl); (exact rfl)) | (apply ef_fap; exact rfl; exact rfl) | (apply ef_box; (iterate 4 exact rfl)) | (apply ef_bsl; exact rfl; (repeat (apply XVs.cons; exact rfl)); exact XVs.nil; exact rfl) | apply ef_nil | apply seqQ.normal | apply ef_ret | (apply ef_call; exact rfl; ((repeat (apply XVs.cons; exact rfl)); exact XVs.nil); (with_reducible first | exact within_c (k + 2) _ _ _ _ a2 | exact hu _ _ _)) | (apply ef_call; exact rfl; ((repeat (apply XVs.cons; exact rfl)); exact XVs.nil); (with_reducible apply first2_c); (iterate 3 exact rfl); (exact rfl)))
   (refine fin1 rfl (by exact rfl) rfl ?_)
   rw [HE.out, a2]; rfl
  ·cases a3 : inB z.2 0 m
   ·repeat (first | apply ef_seq | (apply ef_mv; exact rfl; exact rfl) | (apply ef_bin; (iterate 3 exact rfl); (exact cmp_f rfl (by simp only [cmpP]; omega))) | (apply ef_gy; exact rfl; (exact (rfl : true = true))) | (apply ef_pick; (iterate 3 exact rfl)) | (apply ef_ldr; exact rfl; exact rfl; (exact rfl)) | (apply ef_ldp; exact rfl; exact rfl; (exact rfl); exact rfl; (exact rfl); (exact rfl)) | (apply ef_fap; exact rfl; exact rfl) | (apply ef_box; (iterate 4 exact rfl)) | (apply ef_bsl; exact rfl; (repeat (apply XVs.cons; exact rfl)); exact XVs.nil; exact rfl) | apply ef_nil | apply seqQ.normal | apply ef_ret | (apply ef_call; exact rfl; ((repeat (apply XVs.cons; exact rfl)); exact XVs.nil); (with_reducible first | exact within_c (k + 2) _ _ _ _ a2 | exact within_c (k + 2) _ _ _ _ a3 | exact hu _ _ _)) | (apply ef_call; exact rfl; ((repeat (apply XVs.cons; exact rfl)); exact XVs.nil); (with_reducible apply first2_c); (iterate 3 exact rfl); (exact rfl)))
    (refine fin1 rfl (by exact rfl) rfl ?_)
    rw [HE.out, a2, a3]; rfl
   ·repeat (first | apply ef_seq | (apply ef_mv; exact rfl; exact rfl) | (apply ef_bin; (iterate 3 exact rfl); (exact cmp_f rfl (by simp only [cmpP]; omega))) | (apply ef_gy; exact rfl; (exact (rfl : true = true))) | (apply ef_pick; (iterate 3 exact rfl)) | (apply ef_ldr; exact rfl; exact rfl; (exact rfl)) | (apply ef_ldp; exact rfl; exact rfl; (exact rfl); exact rfl; (exact rfl); (exact rfl)) | (apply ef_fap; exact rfl; exact rfl) | (apply ef_box; (iterate 4 exact rfl)) | (apply ef_bsl; exact rfl; (repeat (apply XVs.cons; exact rfl)); exact XVs.nil; exact rfl) | apply ef_nil | apply seqQ.normal | apply ef_ret | (apply ef_call; exact rfl; ((repeat (apply XVs.cons; exact rfl)); exact XVs.nil); (with_reducible first | exact within_c (k + 2) _ _ _ _ a2 | exact within_c (k + 2) _ _ _ _ a3 | exact hu _ _ _)) | (apply ef_call; exact rfl; ((repeat (apply XVs.cons; exact rfl)); exact XVs.nil); (with_reducible apply first2_c); (iterate 3 exact rfl); (exact rfl)))
    (refine fin1 rfl (by exact rfl) rfl ?_)
    rw [HE.out, a2, a3, if_pos (by rfl), if_neg a1]; rfl
theorem mf_ChkS : MT.mf 31 = some ⟨56, [(.tmp 2), (.tmp 3)], (.seq (.reg [gO 1 (.box 2 (.s 0)), gO 2 (.mv (cI 0)), gO 3 (.mv (cI 0))]) (.seq (.reg [gO 11 (.fa 0 (.s 1)), gO 12 (.ld none (.s 11)), gO 13 (.len (.s 12)), gO 14 (.fa 1 (.s 1)), gO 15 (.ld none (.s 14)), gO 16 (.len (.s 15)), gO 4 (.mv (.s 13)), gO 5 (.mv (.s 16))]) (.seq (.seq (.reg [gO 17 (.mv (.s 4)), gO 18 (.bin .gtr (.s 17) (cI 0)), gO 19 (.mv (.s 18)), ⟨some (19, true), some 20, .mv (.s 5)⟩, ⟨some (19, true), some 21, .bin .gtr (.s 20) (cI 0)⟩, gO 22 (.pick (.s 19) (.s 21) cF), gO 23 (.call 33 [.s 22, (cI 10)]), gO 24 (.mv (.s 4)), gO 25 (.bin .leq (.s 24) (cI 5)), gO 26 (.mv (.s 25)), ⟨some (26, true), some 27, .mv (.s 5)⟩, ⟨some (26, true), some 28, .bin .leq (.s 27) (cI 5)⟩, gO 29 (.pick (.s 26) (.s 28) cF), gO 30 (.call 33 [.s 29, (cI 8)]), gO 31 (.bsl (.lit (.int .i64 0)) 1 2 [(0, (.s 23)), (1, (.s 30))]), gO 32 (.call 32 [.s 31]), gO 6 (.mv (.s 32))]) (.seq (.reg [gO 33 (.mv (.s 6)), gO 34 (.bin .neq (.s 33) (cI 0))]) (.cond (.s 34) (.seq (.reg [gO 35 (.mv (.s 6)), gO 2 (.mv (cI 0)), gO 3 (.mv (.s 35))]) .ret) .skip))) (.seq (.reg [gO 36 (.mv (.s 5)), gO 7 (.new (.lit (.int .i64 0))), ⟨none, none, .st 1 (.s 7) (.s 36)⟩]) (.seq (.reg [gO 37 (.mf 42 0 [.s 7]), gO 8 (.mv (.s 37))]) (.seq (.seq (.reg [gO 39 (.fa 0 (.s 1)), gO 40 (.ld none (.s 39)), gO 41 (.mv (.s 8)), gO 42 (.call 43 [.s 40, .s 41]), gO 38 (.mv (.s 42)), gO 43 (.ext (.s 38) 0), gO 44 (.ext (.s 38) 1), gO 9 (.mv (.s 43)), gO 10 (.mv (.s 44))]) (.seq (.reg [gO 45 (.mv (.s 10)), gO 46 (.bin .neq (.s 45) (cI 0))]) (.cond (.s 46) (.seq (.reg [gO 47 (.mv (.s 9)), gO 48 (.mv (.s 10)), gO 2 (.mv (.s 47)), gO 3 (.mv (.s 48))]) .ret) .skip))) (.seq (.reg [gO 49 (.mv (.s 4)), ⟨none, none, .st 1 (.s 7) (.s 49)⟩]) (.seq (.reg [gO 50 (.fa 1 (.s 1)), gO 51 (.ld none (.s 50)), gO 52 (.mv (.s 8)), gO 53 (.call 43 [.s 51, .s 52]), gO 54 (.ext (.s 53) 0), gO 55 (.ext (.s 53) 1), gO 2 (.mv (.s 54)), gO 3 (.mv (.s 55))]) .ret))))))))⟩ := by kernel_rfl
abbrev outI (r : Int × Int) : MV := .tup [I64 r.1, I64 r.2]
set_option maxHeartbeats 1000000 in
theorem ChkS_z (k : Nat) (R C : List (Int × Int)) (hR : R.length ≤ 100) (hC : C.length ≤ 100) : runZ MT (orA (k + 5)) (itA (k + 5)) 4000000 31 [encS R C] [] = some (outI (chkS R C), []) := by
 refine runZ_of mf_ChkS (by simp) ?_
 simp only [argsL]
 have hs1 : (MV.sl (R.map encP)).slen = some R.length := by simp [MV.slen]
 have hs2 : (MV.sl (C.map encP)).slen = some C.length := by simp [MV.slen]
 have HC := Lib.hid (show chkS R C = _ from rfl)
 have hu := fun b n h => unless_c (k + 4) b n h rfl
 by_cases hb : R.length = 0 ∨ C.length = 0 ∨ 5 < R.length ∨ 5 < C.length
 ·by_cases a1 : R.length = 0 <;> by_cases a2 : C.length = 0 <;> by_cases a3 : 5 < R.length <;> by_cases a4 : 5 < C.length
  all_goals first | (exfalso; omega) | skip
  all_goals have HC2 := Lib.hid (show chkS R C = _ by unfold chkS; simp only [a1, a2, a3, a4, or_self, or_true, true_or, or_false, false_or, if_true, if_false]; rfl)
  all_goals repeat (first | apply ef_seq | (apply ef_mv; exact rfl; exact rfl) | (apply ef_bin; (iterate 3 exact rfl); (first | exact cmp_t rfl (by first | exact rfl | (simp only [cmpP]; omega)) | exact cmp_f rfl (by simp only [cmpP]; omega) | exact rfl)) | (apply ef_gy; exact rfl; (exact (rfl : true = true))) | (apply ef_gn; exact rfl; (exact (rfl : false = false)); exact rfl) | (apply ef_pick; (iterate 3 exact rfl)) | (apply ef_len; exact rfl; exact rfl; (assumption)) | (apply ef_ldp; exact rfl; exact rfl; (exact rfl); exact rfl; (exact rfl); (exact rfl)) | (apply ef_fap; exact rfl; exact rfl) | (apply ef_box; (iterate 4 exact rfl)) | (apply ef_bsl; exact rfl; (repeat (apply XVs.cons; exact rfl)); exact XVs.nil; exact rfl) | apply ef_nil | apply seqQ.normal | apply ef_ret | apply seqQ.ret | (apply ef_condt; exact rfl; (exact (rfl : true = true))) | (apply ef_call; exact rfl; ((repeat (apply XVs.cons; exact rfl)); exact XVs.nil); (with_reducible exact hu _ _ _)) | (apply ef_call; exact rfl; ((repeat (apply XVs.cons; exact rfl)); exact XVs.nil); (with_reducible apply first2_c); (iterate 3 exact rfl); (exact rfl)))
  all_goals (refine fin2 rfl (by exact rfl) (by exact rfl) ?_)
  all_goals rw [HC2.out]
  all_goals rfl
 ·have HC3 := Lib.hid (show chkS R C = if (firG (fun _ => rgE C.length) 0 R).2 = 0 then firG (fun _ => rgE R.length) 0 C else firG (fun _ => rgE C.length) 0 R by unfold chkS; rw [if_neg (by omega), if_neg (by omega)])
  clear HC
  have e1 := fun h fv (hf : frz 0 [] h 8 fv = some (.fn 42 0 [.rp (I64 C.length) 0])) => eachRg_c (k + 4) 42 [.rp (I64 C.length) 0] (fun _ => rgE C.length) R h (v := .sl (R.map encP)) (by omega) rfl (fun i hi h => Chk1_c k i R[i] C.length h) (frz_sl (encP_lt 0 R)) hf
  have e2 := fun h fv (hf : frz 0 [] h 8 fv = some (.fn 42 0 [.rp (I64 R.length) 0])) => eachRg_c (k + 4) 42 [.rp (I64 R.length) 0] (fun _ => rgE R.length) C h (v := .sl (C.map encP)) (by omega) rfl (fun i hi h => Chk1_c k i C[i] R.length h) (frz_sl (encP_lt 0 C)) hf
  by_cases h0 : (firG (fun _ => rgE C.length) 0 R).2 = 0
  ·have HC4 := Lib.hid (HC3.out.trans (if_pos h0))
   clear HC3
   generalize firG (fun _ => rgE C.length) 0 R = r1 at e1 h0
   generalize firG (fun _ => rgE R.length) 0 C = r2 at e2 HC4
   repeat (first | apply ef_seq | (apply ef_mv; exact rfl; exact rfl) | (apply ef_bin; (iterate 3 exact rfl); (first | exact cmp_t rfl (by first | exact rfl | (simp only [cmpP]; omega)) | exact rfl)) | (apply ef_gy; exact rfl; (exact (rfl : true = true))) | (apply ef_pick; (iterate 3 exact rfl)) | (apply ef_len; exact rfl; exact rfl; (assumption)) | (apply ef_ldp; exact rfl; exact rfl; (exact rfl); exact rfl; (exact rfl); (exact rfl)) | (apply ef_fap; exact rfl; exact rfl) | (apply ef_box; (iterate 4 exact rfl)) | (apply ef_newst; (iterate 3 exact rfl); (exact rfl); exact rfl) | (apply ef_bsl; exact rfl; (repeat (apply XVs.cons; exact rfl)); exact XVs.nil; exact rfl) | (apply ef_mf; exact rfl; (repeat (apply XVs.cons; exact rfl)); exact XVs.nil) | apply ef_nil | apply seqQ.normal | apply ef_skip | (apply ef_condf; exact rfl; (exact (rfl : false = false))) | (apply ef_call; exact rfl; ((repeat (apply XVs.cons; exact rfl)); exact XVs.nil); (with_reducible exact hu _ _ _)) | (apply ef_call; exact rfl; ((repeat (apply XVs.cons; exact rfl)); exact XVs.nil); (with_reducible apply first2_c); (iterate 3 exact rfl); (exact rfl)))
   (apply ef_call; (· exact rfl); (· ((repeat (apply XVs.cons; exact rfl)); exact XVs.nil)); · exact e1 _ _ rfl)
   repeat (first | apply ef_seq | (apply ef_mv; exact rfl; exact rfl) | (apply ef_bin; (iterate 3 exact rfl); (exact cmp_f rfl (by simp only [cmpP]; omega))) | (apply ef_ldp; exact rfl; exact rfl; (exact rfl); exact rfl; (exact rfl); (exact rfl)) | (apply ef_fap; exact rfl; exact rfl) | (apply ef_ext; (iterate 3 exact rfl)) | (apply ef_st; (iterate 6 exact rfl); (exact rfl); exact rfl) | apply ef_nil | apply seqQ.normal | apply ef_skip | (apply ef_condf; exact rfl; (exact (rfl : false = false))))
   (apply ef_call; (· exact rfl); (· ((repeat (apply XVs.cons; exact rfl)); exact XVs.nil)); · exact e2 _ _ rfl)
   repeat (first | (apply ef_mv; exact rfl; exact rfl) | (apply ef_ext; (iterate 3 exact rfl)) | apply ef_nil | apply seqQ.normal | apply ef_ret)
   (refine fin2 rfl (by exact rfl) (by exact rfl) ?_)
   rw [HC4.out]
  ·have HC4 := Lib.hid (HC3.out.trans (if_neg h0))
   clear HC3
   generalize firG (fun _ => rgE C.length) 0 R = r1 at e1 h0 HC4
   repeat (first | apply ef_seq | (apply ef_mv; exact rfl; exact rfl) | (apply ef_bin; (iterate 3 exact rfl); (first | exact cmp_t rfl (by first | exact rfl | (simp only [cmpP]; omega)) | exact rfl)) | (apply ef_gy; exact rfl; (exact (rfl : true = true))) | (apply ef_pick; (iterate 3 exact rfl)) | (apply ef_len; exact rfl; exact rfl; (assumption)) | (apply ef_ldp; exact rfl; exact rfl; (exact rfl); exact rfl; (exact rfl); (exact rfl)) | (apply ef_fap; exact rfl; exact rfl) | (apply ef_box; (iterate 4 exact rfl)) | (apply ef_newst; (iterate 3 exact rfl); (exact rfl); exact rfl) | (apply ef_bsl; exact rfl; (repeat (apply XVs.cons; exact rfl)); exact XVs.nil; exact rfl) | (apply ef_mf; exact rfl; (repeat (apply XVs.cons; exact rfl)); exact XVs.nil) | apply ef_nil | apply seqQ.normal | apply ef_skip | (apply ef_condf; exact rfl; (exact (rfl : false = false))) | (apply ef_call; exact rfl; ((repeat (apply XVs.cons; exact rfl)); exact XVs.nil); (with_reducible exact hu _ _ _)) | (apply ef_call; exact rfl; ((repeat (apply XVs.cons; exact rfl)); exact XVs.nil); (with_reducible apply first2_c); (iterate 3 exact rfl); (exact rfl)))
   (apply ef_call; (· exact rfl); (· ((repeat (apply XVs.cons; exact rfl)); exact XVs.nil)); · exact e1 _ _ rfl)
   repeat (first | apply ef_seq | (apply ef_mv; exact rfl; exact rfl) | (apply ef_bin; (iterate 3 exact rfl); (exact cmp_t rfl (by first | exact rfl | (simp only [cmpP]; omega)))) | (apply ef_ext; (iterate 3 exact rfl)) | apply ef_nil | apply seqQ.normal | apply ef_ret | apply seqQ.ret | (apply ef_condt; exact rfl; (exact (rfl : true = true))))
   (refine fin2 rfl (by exact rfl) (by exact rfl) ?_)
   rw [HC4.out]
theorem ChkS_c (k : Nat) (R C : List (Int × Int)) (hR : R.length ≤ 100) (hC : C.length ≤ 100) (h : MHeap) : orA (k + 6) 31 [encS R C] h = some (outI (chkS R C), h) := callTT (args' := [encS R C]) (frzL_lt (by simp only [ltL, encS_lt, Bool.and_self])) rfl (ChkS_z k R C hR hC)
theorem mf_sides : MT.mf 40 = some ⟨44, [(.tmp 4), (.tmp 5)], (.seq (.reg [gO 4 (.mv (cI 0)), gO 5 (.mv (cI 0))]) (.seq (.seq (.reg [gO 6 (.mv (cI 0))]) (.block 0 (.loop [6, 0, 1] (.seq (.seq (.reg [gO 7 (.mv (.s 6)), gO 8 (.mv (.s 0)), gO 9 (.len (.s 8)), gO 10 (.bin .lss (.s 7) (.s 9))]) (.cond (.s 10) .skip (.exit 0))) (.seq (.block 1 (.seq (.seq (.reg [gO 13 (.mv (.s 0)), gO 14 (.mv (.s 6)), gO 15 (.ia 2 (.s 13) (.s 14)), gO 16 (.fa 0 (.s 15)), gO 17 (.ld none (.s 16)), gO 18 (.mv (.s 1)), gO 19 (.call 10 [.s 17, (cI 0), .s 18]), gO 20 (.un .not (.s 19)), gO 21 (.mv (.s 20)), ⟨some (21, false), some 22, .mv (.s 0)⟩, ⟨some (21, false), some 23, .mv (.s 6)⟩, ⟨some (21, false), some 24, .ia 2 (.s 22) (.s 23)⟩, ⟨some (21, false), some 25, .fa 1 (.s 24)⟩, ⟨some (21, false), some 26, .ld none (.s 25)⟩, ⟨some (21, false), some 27, .mv (.s 1)⟩, ⟨some (21, false), some 28, .call 10 [.s 26, (cI 0), .s 27]⟩, ⟨some (21, false), some 29, .un .not (.s 28)⟩, gO 30 (.pick (.s 21) cT (.s 29))]) (.cond (.s 30) (.seq (.reg [gO 31 (.mv (.s 6)), gO 4 (.mv (.s 31)), gO 5 (.mv (cI 2))]) .ret) .skip)) (.seq (.reg [gO 32 (.mv (.s 0)), gO 33 (.mv (.s 6)), gO 34 (.ia 2 (.s 32) (.s 33)), gO 35 (.fa 0 (.s 34)), gO 36 (.ld none (.s 35)), gO 37 (.mv (.s 0)), gO 38 (.mv (.s 6)), gO 39 (.ia 2 (.s 37) (.s 38)), gO 40 (.fa 1 (.s 39)), gO 41 (.ld none (.s 40)), gO 42 (.bin .gtr (.s 36) (.s 41))]) (.cond (.s 42) (.seq (.reg [gO 43 (.mv (.s 6)), gO 4 (.mv (.s 43)), gO 5 (.mv (cI 9))]) .ret) .skip)))) (.reg [gO 11 (.mv (.s 6)), gO 12 (.bin .add (.s 11) (cI 1)), gO 6 (.mv (.s 12))])))))) (.seq (.reg [gO 4 (.mv (cI 0)), gO 5 (.mv (cI 0))]) .ret)))⟩ := by kernel_rfl
set_option maxHeartbeats 1000000 in
theorem sides_z (k : Nat) (zs : List (Int × Int)) (m : Int) (hx : zs.length ≤ 1000) : runZ MT (orA (k + 1)) (itA (k + 1)) 4000000 40 [.sl (zs.map encP), I64 m] [] = some (outI (firG (fun _ => rgE m) 0 zs), []) := by
 have hl : (MV.sl (zs.map encP)).slen = some zs.length := by simp [MV.slen]
 refine runZ_of mf_sides (by simp) ?_
 simp only [argsL]
 repeat (first | apply ef_seq | (apply ef_mv; exact rfl; exact rfl) | apply ef_nil | apply seqQ.normal | apply ef_block)
 refine ef_loopf (α := Nat) (fun i => i ≤ zs.length ∧ firG (fun _ => rgE m) 0 zs = firG (fun _ => rgE m) i (zs.drop i)) (fun i => [(6, I64 (i : Int))]) [(0, .sl (zs.map encP)), (1, I64 m)] (fun _ => []) (fun i => zs.length - i) 0 [6] (fun _ => rfl) (by ((repeat (refine Hold.cons (by exact rfl) ?_)); exact Hold.nil)) (by ((repeat (refine Hold.cons (by exact rfl) ?_)); exact Hold.nil)) rfl rfl ⟨by omega, rfl⟩ (by simp; omega) ?_
 rintro i ⟨hi, hz⟩
 by_cases hlt : i < zs.length
 ·have e1 := at_map encP zs i hlt
  have HD := Lib.hid (drop_at zs i hlt)
  have HZ := Lib.hid hz
  clear hz
  generalize zs[i] = z at e1 HD
  have HE := Lib.hid (show rgE m z = if inB z.1 0 m && inB z.2 0 m then (if z.1 ≤ z.2 then 0 else 9) else 2 from rfl)
  by_cases a1 : z.1 ≤ z.2
  ·cases a2 : inB z.1 0 m
   ·repeat (first | apply ef_seq | (apply ef_mv; exact rfl; exact rfl) | (apply ef_bin; (iterate 3 exact rfl); (exact cmp_t rfl (by first | exact rfl | (simp only [cmpP]; omega)))) | (apply ef_gn; exact rfl; (exact (rfl : true = true)); exact rfl) | (apply ef_pick; (iterate 3 exact rfl)) | (apply ef_len; exact rfl; exact rfl; (assumption)) | (apply ef_ldr; exact rfl; exact rfl; (exact rfl)) | (apply ef_ias; (iterate 3 exact rfl); (omega); assumption; exact rfl) | (apply ef_far; exact rfl; exact rfl) | (apply ef_notF; exact rfl; exact rfl) | apply ef_nil | apply seqQ.normal | apply loopQ.ret | apply ef_ret | apply seqQ.ret | apply blockQ.ret | apply ef_block | apply ef_skip | (apply ef_condt; exact rfl; (exact (rfl : true = true))) | (apply ef_call; exact rfl; ((repeat (apply XVs.cons; exact rfl)); exact XVs.nil); (with_reducible exact Within_c k _ _ _ _ a2)))
    (refine fin2 rfl (by exact rfl) (by exact rfl) ?_)
    rw [HZ.out, HD.out, firG, HE.out, a2]; rfl
   ·cases a3 : inB z.2 0 m
    ·repeat (first | apply ef_seq | (apply ef_mv; exact rfl; exact rfl) | (apply ef_bin; (iterate 3 exact rfl); (exact cmp_t rfl (by first | exact rfl | (simp only [cmpP]; omega)))) | (apply ef_gy; exact rfl; (exact (rfl : false = false))) | (apply ef_pick; (iterate 3 exact rfl)) | (apply ef_len; exact rfl; exact rfl; (assumption)) | (apply ef_ldr; exact rfl; exact rfl; (exact rfl)) | (apply ef_ias; (iterate 3 exact rfl); (omega); assumption; exact rfl) | (apply ef_far; exact rfl; exact rfl) | (apply ef_notT; exact rfl; exact rfl) | (apply ef_notF; exact rfl; exact rfl) | apply ef_nil | apply seqQ.normal | apply loopQ.ret | apply ef_ret | apply seqQ.ret | apply blockQ.ret | apply ef_block | apply ef_skip | (apply ef_condt; exact rfl; (exact (rfl : true = true))) | (apply ef_call; exact rfl; ((repeat (apply XVs.cons; exact rfl)); exact XVs.nil); (with_reducible first | exact Within_c k _ _ _ _ a2 | exact Within_c k _ _ _ _ a3)))
     (refine fin2 rfl (by exact rfl) (by exact rfl) ?_)
     rw [HZ.out, HD.out, firG, HE.out, a2, a3]; rfl
    ·repeat (first | apply ef_seq | (apply ef_mv; exact rfl; exact rfl) | (apply ef_bin; (iterate 3 exact rfl); (first | exact cmp_t rfl (by first | exact rfl | (simp only [cmpP]; omega)) | exact cmp_f rfl (by simp only [cmpP]; omega) | ((with_reducible refine bin_add (wrap_of ?_ ?_)) <;> omega))) | (apply ef_gy; exact rfl; (exact (rfl : false = false))) | (apply ef_pick; (iterate 3 exact rfl)) | (apply ef_len; exact rfl; exact rfl; (assumption)) | (apply ef_ldr; exact rfl; exact rfl; (exact rfl)) | (apply ef_ias; (iterate 3 exact rfl); (omega); assumption; exact rfl) | (apply ef_far; exact rfl; exact rfl) | (apply ef_notT; exact rfl; exact rfl) | apply ef_nil | apply seqQ.normal | apply blockQ.normal | apply ef_block | apply ef_skip | (apply ef_condt; exact rfl; (exact (rfl : true = true))) | (apply ef_condf; exact rfl; (exact (rfl : false = false))) | (apply ef_call; exact rfl; ((repeat (apply XVs.cons; exact rfl)); exact XVs.nil); (with_reducible first | exact Within_c k _ _ _ _ a2 | exact Within_c k _ _ _ _ a3)))
     (refine loopQ.normal _ _ ⟨i + 1, ⟨hlt, by rw [HZ.out, HD.out, firG, if_pos (by rw [HE.out, a2, a3]; simp [a1])]⟩, (by first | (simp only; omega) | omega), ⟨by ((repeat (refine Hold.cons (by exact rfl) ?_)); exact Hold.nil), by ((repeat (refine Hold.cons (by exact rfl) ?_)); exact Hold.nil)⟩, .inl (Nat.le_refl _), (by first | exact List.take_length | exact rfl | exact takeF rfl rfl)⟩)
  ·cases a2 : inB z.1 0 m
   ·repeat (first | apply ef_seq | (apply ef_mv; exact rfl; exact rfl) | (apply ef_bin; (iterate 3 exact rfl); (exact cmp_t rfl (by first | exact rfl | (simp only [cmpP]; omega)))) | (apply ef_gn; exact rfl; (exact (rfl : true = true)); exact rfl) | (apply ef_pick; (iterate 3 exact rfl)) | (apply ef_len; exact rfl; exact rfl; (assumption)) | (apply ef_ldr; exact rfl; exact rfl; (exact rfl)) | (apply ef_ias; (iterate 3 exact rfl); (omega); assumption; exact rfl) | (apply ef_far; exact rfl; exact rfl) | (apply ef_notF; exact rfl; exact rfl) | apply ef_nil | apply seqQ.normal | apply loopQ.ret | apply ef_ret | apply seqQ.ret | apply blockQ.ret | apply ef_block | apply ef_skip | (apply ef_condt; exact rfl; (exact (rfl : true = true))) | (apply ef_call; exact rfl; ((repeat (apply XVs.cons; exact rfl)); exact XVs.nil); (with_reducible exact Within_c k _ _ _ _ a2)))
    (refine fin2 rfl (by exact rfl) (by exact rfl) ?_)
    rw [HZ.out, HD.out, firG, HE.out, a2]; rfl
   ·cases a3 : inB z.2 0 m
    ·repeat (first | apply ef_seq | (apply ef_mv; exact rfl; exact rfl) | (apply ef_bin; (iterate 3 exact rfl); (exact cmp_t rfl (by first | exact rfl | (simp only [cmpP]; omega)))) | (apply ef_gy; exact rfl; (exact (rfl : false = false))) | (apply ef_pick; (iterate 3 exact rfl)) | (apply ef_len; exact rfl; exact rfl; (assumption)) | (apply ef_ldr; exact rfl; exact rfl; (exact rfl)) | (apply ef_ias; (iterate 3 exact rfl); (omega); assumption; exact rfl) | (apply ef_far; exact rfl; exact rfl) | (apply ef_notT; exact rfl; exact rfl) | (apply ef_notF; exact rfl; exact rfl) | apply ef_nil | apply seqQ.normal | apply loopQ.ret | apply ef_ret | apply seqQ.ret | apply blockQ.ret | apply ef_block | apply ef_skip | (apply ef_condt; exact rfl; (exact (rfl : true = true))) | (apply ef_call; exact rfl; ((repeat (apply XVs.cons; exact rfl)); exact XVs.nil); (with_reducible first | exact Within_c k _ _ _ _ a2 | exact Within_c k _ _ _ _ a3)))
     (refine fin2 rfl (by exact rfl) (by exact rfl) ?_)
     rw [HZ.out, HD.out, firG, HE.out, a2, a3]; rfl
    ·repeat (first | apply ef_seq | (apply ef_mv; exact rfl; exact rfl) | (apply ef_bin; (iterate 3 exact rfl); (exact cmp_t rfl (by first | exact rfl | (simp only [cmpP]; omega)))) | (apply ef_gy; exact rfl; (exact (rfl : false = false))) | (apply ef_pick; (iterate 3 exact rfl)) | (apply ef_len; exact rfl; exact rfl; (assumption)) | (apply ef_ldr; exact rfl; exact rfl; (exact rfl)) | (apply ef_ias; (iterate 3 exact rfl); (omega); assumption; exact rfl) | (apply ef_far; exact rfl; exact rfl) | (apply ef_notT; exact rfl; exact rfl) | apply ef_nil | apply seqQ.normal | apply loopQ.ret | apply ef_ret | apply seqQ.ret | apply blockQ.ret | apply ef_block | apply ef_skip | (apply ef_condt; exact rfl; (exact (rfl : true = true))) | (apply ef_condf; exact rfl; (exact (rfl : false = false))) | (apply ef_call; exact rfl; ((repeat (apply XVs.cons; exact rfl)); exact XVs.nil); (with_reducible first | exact Within_c k _ _ _ _ a2 | exact Within_c k _ _ _ _ a3)))
     (refine fin2 rfl (by exact rfl) (by exact rfl) ?_)
     rw [HZ.out, HD.out, firG, HE.out, a2, a3, if_pos (show (true && true) = true from rfl), if_neg a1]; rfl
 ·repeat (first | apply ef_seq | (apply ef_mv; exact rfl; exact rfl) | (apply ef_bin; (iterate 3 exact rfl); (exact cmp_f rfl (by simp only [cmpP]; omega))) | (apply ef_len; exact rfl; exact rfl; (assumption)) | apply ef_nil | apply seqQ.normal | apply loopQ.exit | apply ef_ret | apply ef_exit | apply seqQ.exit | apply blockQ.here | (apply ef_condf; exact rfl; (exact (rfl : false = false))))
  (refine fin2 rfl (by exact rfl) (by exact rfl) ?_)
  rw [hz, List.drop_eq_nil_of_le (by omega)]; rfl
theorem mf_rChkS : MT.mf 17 = some ⟨47, [(.tmp 2), (.tmp 3)], (.seq (.reg [gO 1 (.box 2 (.s 0)), gO 2 (.mv (cI 0)), gO 3 (.mv (cI 0))]) (.seq (.seq (.reg [gO 6 (.fa 0 (.s 1)), gO 7 (.ld none (.s 6)), gO 8 (.len (.s 7)), gO 9 (.bin .eql (.s 8) (cI 0)), gO 10 (.mv (.s 9)), ⟨some (10, false), some 11, .fa 1 (.s 1)⟩, ⟨some (10, false), some 12, .ld none (.s 11)⟩, ⟨some (10, false), some 13, .len (.s 12)⟩, ⟨some (10, false), some 14, .bin .eql (.s 13) (cI 0)⟩, gO 15 (.pick (.s 10) cT (.s 14))]) (.cond (.s 15) (.seq (.reg [gO 2 (.mv (cI 0)), gO 3 (.mv (cI 10))]) .ret) .skip)) (.seq (.seq (.reg [gO 16 (.fa 0 (.s 1)), gO 17 (.ld none (.s 16)), gO 18 (.len (.s 17)), gO 19 (.bin .gtr (.s 18) (cI 5)), gO 20 (.mv (.s 19)), ⟨some (20, false), some 21, .fa 1 (.s 1)⟩, ⟨some (20, false), some 22, .ld none (.s 21)⟩, ⟨some (20, false), some 23, .len (.s 22)⟩, ⟨some (20, false), some 24, .bin .gtr (.s 23) (cI 5)⟩, gO 25 (.pick (.s 20) cT (.s 24))]) (.cond (.s 25) (.seq (.reg [gO 2 (.mv (cI 0)), gO 3 (.mv (cI 8))]) .ret) .skip)) (.seq (.seq (.reg [gO 27 (.fa 0 (.s 1)), gO 28 (.ld none (.s 27)), gO 29 (.fa 1 (.s 1)), gO 30 (.ld none (.s 29)), gO 31 (.len (.s 30)), gO 32 (.call 40 [.s 28, .s 31]), gO 26 (.mv (.s 32)), gO 33 (.ext (.s 26) 0), gO 34 (.ext (.s 26) 1), gO 4 (.mv (.s 33)), gO 5 (.mv (.s 34))]) (.seq (.reg [gO 35 (.mv (.s 5)), gO 36 (.bin .neq (.s 35) (cI 0))]) (.cond (.s 36) (.seq (.reg [gO 37 (.mv (.s 4)), gO 38 (.mv (.s 5)), gO 2 (.mv (.s 37)), gO 3 (.mv (.s 38))]) .ret) .skip))) (.seq (.reg [gO 39 (.fa 1 (.s 1)), gO 40 (.ld none (.s 39)), gO 41 (.fa 0 (.s 1)), gO 42 (.ld none (.s 41)), gO 43 (.len (.s 42)), gO 44 (.call 40 [.s 40, .s 43]), gO 45 (.ext (.s 44) 0), gO 46 (.ext (.s 44) 1), gO 2 (.mv (.s 45)), gO 3 (.mv (.s 46))]) .ret)))))⟩ := by kernel_rfl
set_option maxHeartbeats 1000000 in
theorem rChkS_z (k : Nat) (R C : List (Int × Int)) : runZ MT (orA (k + 2)) (itA (k + 2)) 4000000 17 [encS R C] [] = some (outI (chkS R C), []) := by
 refine runZ_of mf_rChkS (by simp) ?_
 simp only [argsL]
 have hs1 : (MV.sl (R.map encP)).slen = some R.length := by simp [MV.slen]
 have hs2 : (MV.sl (C.map encP)).slen = some C.length := by simp [MV.slen]
 by_cases hb : R.length = 0 ∨ C.length = 0 ∨ 5 < R.length ∨ 5 < C.length
 ·by_cases a1 : R.length = 0 <;> by_cases a2 : C.length = 0 <;> by_cases a3 : 5 < R.length <;> by_cases a4 : 5 < C.length
  all_goals first | (exfalso; omega) | skip
  all_goals have HC2 := Lib.hid (show chkS R C = _ by unfold chkS; simp only [a1, a2, a3, a4, or_self, or_true, true_or, or_false, false_or, if_true, if_false]; rfl)
  all_goals repeat (first | apply ef_seq | (apply ef_mv; exact rfl; exact rfl) | (apply ef_bin; (iterate 3 exact rfl); (first | exact cmp_t rfl (by first | exact rfl | (simp only [cmpP]; omega)) | exact cmp_f rfl (by simp only [cmpP]; omega))) | (apply ef_gy; exact rfl; (exact (rfl : false = false))) | (apply ef_gn; exact rfl; (exact (rfl : true = true)); exact rfl) | (apply ef_pick; (iterate 3 exact rfl)) | (apply ef_len; exact rfl; exact rfl; (assumption)) | (apply ef_ldp; exact rfl; exact rfl; (exact rfl); exact rfl; (exact rfl); (exact rfl)) | (apply ef_fap; exact rfl; exact rfl) | (apply ef_box; (iterate 4 exact rfl)) | apply ef_nil | apply seqQ.normal | apply ef_ret | apply seqQ.ret | apply ef_skip | (apply ef_condt; exact rfl; (exact (rfl : true = true))) | (apply ef_condf; exact rfl; (exact (rfl : false = false))))
  all_goals (refine fin2 rfl (by exact rfl) (by exact rfl) ?_)
  all_goals rw [HC2.out]
  all_goals rfl
 ·have HC3 := Lib.hid (show chkS R C = if (firG (fun _ => rgE C.length) 0 R).2 = 0 then firG (fun _ => rgE R.length) 0 C else firG (fun _ => rgE C.length) 0 R by unfold chkS; rw [if_neg (by omega), if_neg (by omega)])
  have e1 := fun (h : MHeap) => callTT (k := k + 1) (h := h) (args := [.sl (R.map encP), I64 C.length]) (args' := [.sl (R.map encP), I64 C.length]) (frzL_lt (by simp only [ltL, MV.lt, encP_lt, Bool.and_self])) rfl (sides_z k R C.length (by omega))
  have e2 := fun (h : MHeap) => callTT (k := k + 1) (h := h) (args := [.sl (C.map encP), I64 R.length]) (args' := [.sl (C.map encP), I64 R.length]) (frzL_lt (by simp only [ltL, MV.lt, encP_lt, Bool.and_self])) rfl (sides_z k C R.length (by omega))
  by_cases h0 : (firG (fun _ => rgE C.length) 0 R).2 = 0
  ·have HC4 := Lib.hid (HC3.out.trans (if_pos h0))
   clear HC3
   generalize firG (fun _ => rgE C.length) 0 R = r1 at e1 h0
   generalize firG (fun _ => rgE R.length) 0 C = r2 at e2 HC4
   repeat (first | apply ef_seq | (apply ef_mv; exact rfl; exact rfl) | (apply ef_bin; (iterate 3 exact rfl); (exact cmp_f rfl (by simp only [cmpP]; omega))) | (apply ef_gy; exact rfl; (exact (rfl : false = false))) | (apply ef_pick; (iterate 3 exact rfl)) | (apply ef_len; exact rfl; exact rfl; (assumption)) | (apply ef_ldp; exact rfl; exact rfl; (exact rfl); exact rfl; (exact rfl); (exact rfl)) | (apply ef_fap; exact rfl; exact rfl) | (apply ef_box; (iterate 4 exact rfl)) | apply ef_nil | apply seqQ.normal | apply ef_skip | (apply ef_condf; exact rfl; (exact (rfl : false = false))))
   (apply ef_call; (· exact rfl); (· ((repeat (apply XVs.cons; exact rfl)); exact XVs.nil)); · exact e1 _)
   repeat (first | apply ef_seq | (apply ef_mv; exact rfl; exact rfl) | (apply ef_bin; (iterate 3 exact rfl); (exact cmp_f rfl (by simp only [cmpP]; omega))) | (apply ef_len; exact rfl; exact rfl; (assumption)) | (apply ef_ldp; exact rfl; exact rfl; (exact rfl); exact rfl; (exact rfl); (exact rfl)) | (apply ef_fap; exact rfl; exact rfl) | (apply ef_ext; (iterate 3 exact rfl)) | apply ef_nil | apply seqQ.normal | apply ef_skip | (apply ef_condf; exact rfl; (exact (rfl : false = false))))
   (apply ef_call; (· exact rfl); (· ((repeat (apply XVs.cons; exact rfl)); exact XVs.nil)); · exact e2 _)
   repeat (first | (apply ef_mv; exact rfl; exact rfl) | (apply ef_ext; (iterate 3 exact rfl)) | apply ef_nil | apply seqQ.normal | apply ef_ret)
   (refine fin2 rfl (by exact rfl) (by exact rfl) ?_)
   rw [HC4.out]
  ·have HC4 := Lib.hid (HC3.out.trans (if_neg h0))
   clear HC3
   generalize firG (fun _ => rgE C.length) 0 R = r1 at e1 h0 HC4
   repeat (first | apply ef_seq | (apply ef_mv; exact rfl; exact rfl) | (apply ef_bin; (iterate 3 exact rfl); (exact cmp_f rfl (by simp only [cmpP]; omega))) | (apply ef_gy; exact rfl; (exact (rfl : false = false))) | (apply ef_pick; (iterate 3 exact rfl)) | (apply ef_len; exact rfl; exact rfl; (assumption)) | (apply ef_ldp; exact rfl; exact rfl; (exact rfl); exact rfl; (exact rfl); (exact rfl)) | (apply ef_fap; exact rfl; exact rfl) | (apply ef_box; (iterate 4 exact rfl)) | apply ef_nil | apply seqQ.normal | apply ef_skip | (apply ef_condf; exact rfl; (exact (rfl : false = false))))
   (apply ef_call; (· exact rfl); (· ((repeat (apply XVs.cons; exact rfl)); exact XVs.nil)); · exact e1 _)
   repeat (first | apply ef_seq | (apply ef_mv; exact rfl; exact rfl) | (apply ef_bin; (iterate 3 exact rfl); (exact cmp_t rfl (by first | exact rfl | (simp only [cmpP]; omega)))) | (apply ef_ext; (iterate 3 exact rfl)) | apply ef_nil | apply seqQ.normal | apply ef_ret | apply seqQ.ret | (apply ef_condt; exact rfl; (exact (rfl : true = true))))
   (refine fin2 rfl (by exact rfl) (by exact rfl) ?_)
   rw [HC4.out]
theorem rChkS_c (k : Nat) (R C : List (Int × Int)) (h : MHeap) : orA (k + 3) 17 [encS R C] h = some (outI (chkS R C), h) := callTT (args' := [encS R C]) (frzL_lt (by simp only [ltL, encS_lt, Bool.and_self])) rfl (rChkS_z k R C)
theorem mf_rSErr : MT.mf 5 = some ⟨11, [(.tmp 2)], (.seq (.reg [gO 1 (.box 2 (.s 0)), gO 2 (.mv (cI 0))]) (.seq (.reg [gO 6 (.ld (some 2) (.s 1)), gO 7 (.call 17 [.s 6]), gO 5 (.mv (.s 7)), gO 8 (.ext (.s 5) 0), gO 9 (.ext (.s 5) 1), gO 3 (.mv (.s 8)), gO 4 (.mv (.s 9))]) (.seq (.reg [gO 10 (.mv (.s 4)), gO 2 (.mv (.s 10))]) .ret)))⟩ := by kernel_rfl
theorem rSErr_c (k : Nat) (R C : List (Int × Int)) (h : MHeap) : orA (k + 4) 5 [encS R C] h = some (I64 (chkS R C).2, h) := by
 refine callL (args' := [encS R C]) (frzL_lt (by simp only [ltL, encS_lt, Bool.and_self])) rfl (runZ_of mf_rSErr (by simp) ?_)
 simp only [argsL]
 repeat (first | apply ef_seq | (apply ef_mv; exact rfl; exact rfl) | (apply ef_ldp; exact rfl; exact rfl; (exact rfl); exact rfl; (exact rfl); (exact rd_2 rfl rfl)) | (apply ef_ext; (iterate 3 exact rfl)) | (apply ef_box; (iterate 4 exact rfl)) | apply ef_nil | apply seqQ.normal | apply ef_ret | (apply ef_call; exact rfl; ((repeat (apply XVs.cons; exact rfl)); exact XVs.nil); (with_reducible exact rChkS_c k R C _)))
 (refine fin1 rfl (by exact rfl) rfl ?_)
 rfl
structure ValS (R C : List (Int × Int)) : Prop where
 r1 : 0 < R.length
 r5 : R.length ≤ 5
 c1 : 0 < C.length
 c5 : C.length ≤ 5
 rr : ∀ p ∈ R, 0 ≤ p.1 ∧ p.1 ≤ p.2 ∧ p.2 ≤ C.length
 cc : ∀ p ∈ C, 0 ≤ p.1 ∧ p.1 ≤ p.2 ∧ p.2 ≤ R.length
theorem rgE_zero {m : Int} {p : Int × Int} (h : rgE m p = 0) : 0 ≤ p.1 ∧ p.1 ≤ p.2 ∧ p.2 ≤ m := by
 unfold rgE inB at h
 split at h
 ·rename_i h1
  split at h
  ·simp only [Bool.and_eq_true, decide_eq_true_eq] at h1
   omega
  ·omega
 ·omega
theorem firG_all {α : Type} {g : α → Int} {l : List α} (h : (firG (fun _ => g) 0 l).2 = 0) : ∀ x ∈ l, g x = 0 := fun x hx => by
 obtain ⟨j, hj, rfl⟩ := List.getElem_of_mem hx
 exact firG_ok h j hj
theorem chkS_val {R C : List (Int × Int)} (h : (chkS R C).2 = 0) : ValS R C := by
 unfold chkS at h
 split at h
 ·cases h
 rename_i h1
 split at h
 ·cases h
 rename_i h2
 split at h
 ·rename_i h3
  exact ⟨by omega, by omega, by omega, by omega, fun p hp => rgE_zero (firG_all h3 p hp), fun p hp => rgE_zero (firG_all h p hp)⟩
 ·rename_i h3
  exact absurd h h3
theorem firG_zero {α : Type} {g : α → Int} : ∀ {l : List α} {i : Nat}, (∀ x ∈ l, g x = 0) → firG (fun _ => g) i l = (0, 0)
 | [], _, _ => rfl
 | c :: l, i, h => by rw [firG, if_pos (h c (by simp))]; exact firG_zero fun x hx => h x (List.mem_cons_of_mem _ hx)
theorem val_chkS {R C : List (Int × Int)} (h : ValS R C) : chkS R C = (0, 0) := by
 have g : ∀ {m : Int} {p : Int × Int}, 0 ≤ p.1 ∧ p.1 ≤ p.2 ∧ p.2 ≤ m → rgE m p = 0 := fun {m p} hp => by
  unfold rgE inB
  rw [if_pos (by simp only [Bool.and_eq_true, decide_eq_true_eq]; omega), if_pos hp.2.1]
 have := h.r1; have := h.r5; have := h.c1; have := h.c5
 unfold chkS
 rw [if_neg (by omega), if_neg (by omega), firG_zero fun p hp => g (h.rr p hp), firG_zero fun p hp => g (h.cc p hp)]
 rfl
end Go.Proofs.YtnmgpbihknjdjaaDoor

/- Evaluation: a range over a map with what is behind it. -/
namespace Go.Proofs.YtnmgpbihknjdjaaDoor
open Go.RowKit
set_option linter.unusedVariables false
structure EfT (F : MSt → Option (MX2 × MSt)) (n : Nat) (A : Sl) (h : MHeap) (Q : MX2 → Sl → MHeap → Prop) : Prop where
 run : ∀ s, SRel n A s → ∃ x s' h', F ⟨s, h⟩ = some (x, ⟨s', h'⟩) ∧ ∃ A', SRel n A' s' ∧ Q x A' h'
section
variable {O : Oracle} {I : Iter} {N n : Nat} {lk : Nat → Bool} {A : Sl} {h : MHeap} {Q : MX2 → Sl → MHeap → Prop}
noncomputable def mrkS (O : Oracle) (I : Iter) (N : Nat) (lk : Nat → Bool) (keep ke : List Nat) (id : Nat) (m : MX) (r d e : Nat) (b : MC) (k2 : List Nat) (c : MC) (st : MSt) : Option (MX2 × MSt) := match m.get st.s with
      | .rm es => if r < st.s.length ∧ es.all entP = true then
          mrP es fun es' => (((overS (roundS (evC O I N b lk) keep st.h.length r d e) es' ⟨st.s.set r .junk, st.h⟩).bind (finS ke id st.h.length r d e)).bind fun p => match p with
            | (.normal, st') => evC O I N c lk st'
            | p => some p).map fun p => (p.1, headM k2 st.h.length p.2)
        else none
      | _ => none
theorem ef_mrk {gl : List GO} {keep ke : List Nat} {id : Nat} {m : MX} {r d e : Nat} {b : MC} {k2 : List Nat} {c : MC} (hE : Ef O I N n lk (.reg gl) A h (fun x A1 h1 => x = .normal ∧ EfT (mrkS O I N lk keep ke id m r d e b k2 c) n A1 h1 Q)) : Ef O I N n lk (.mrk gl keep ke id m r d e b k2 c) A h Q := .mk fun s hs => by
 obtain ⟨x, s', h', h1, A', h2, rfl, h3⟩ := hE.run s hs
 simp only [evC, Option.map_eq_some_iff, Prod.mk.injEq, true_and, exists_eq_right] at h1
 obtain ⟨y, s2, h2', k1, k2'⟩ := h3.run s' h2
 refine ⟨y, s2, h2', ?_, k2'⟩
 simp only [evC, h1]
 exact k1
theorem finl_eq2 {n : Nat} {A B : Sl} {ke : List Nat} {s : List MV} (hs : SRel n A s) (hB : ∀ t ∈ ke, ∃ v, look A t = some v ∧ look B t = some v) : keepS ke 0 s = finl n ke B := by
 refine List.ext_getElem? fun t => ?_
 by_cases ht : t < n
 ·have hlen : t < s.length := by rw [hs.len]; exact ht
  have e0 : (finl n ke B)[t]? = some (if t ∈ ke then (look B t).getD .junk else .junk) := by simp [finl, ht]
  rw [e0, keepS_get', List.getElem?_eq_getElem hlen, Option.map_some, Nat.zero_add]
  by_cases hk : t ∈ ke
  ·obtain ⟨v, h1, h2⟩ := hB t hk
   have := hs.get t v h1
   rw [List.getD_eq_getElem?_getD, List.getElem?_eq_getElem hlen, Option.getD_some] at this
   simp [hk, h2, this]
  ·simp [hk]
 ·rw [List.getElem?_eq_none (by rw [keepS_len', hs.len]; omega), List.getElem?_eq_none (by simp [finl]; omega)]
theorem eft_mrk {keep ke : List Nat} {id : Nat} {m : MX} {r d e : Nat} {b : MC} {k2 : List Nat} {c : MC} {es : List MV} (J : List MV → Sl → MHeap → Prop) (x : MX2) (B : Sl) (hF : MHeap)
  (hm : XV A m (.rm es)) (hes : es.all entP = true) (hr : Nat.blt r n = true) (hdn : Nat.blt d n = true) (hen : Nat.blt e n = true) (hrk : keep.contains r = false)
  (hkn : keep.all (fun t => Nat.blt t n) = true) (hke : ke.all (fun t => Nat.blt t n && (!Nat.beq t r && (!Nat.beq t d && !Nat.beq t e))) = true) (hk2 : k2.all (fun t => Nat.blt t n) = true)
  (B0 : Sl) (hB0 : Hold A B0) (hB0r : look B0 r = none) (h0 : J [] B0 h)
  (hb : ∀ p k v l B1 h1, (p ++ .tup [k, v] :: l).Perm es → J p B1 h1 → ∃ B2 h2, Hold B1 B2 ∧ (B2.map (·.1)).all (fun t => keep.contains t) = true ∧ HeadIs keep h.length B1 h1 h2 ∧ (∀ t ∈ keep, ∃ v, look B1 t = some v ∧ v.lt h2.length = true) ∧ hltL h2.length h2 = true ∧
   Ef O I N n lk b ((e, .junk) :: (d, .junk) :: (r, .itr k v) :: B2) h2 (fun y A' h' => y = .normal ∧ (∃ k' v', look A' r = some (.itr k' v')) ∧ ∃ B3, Hold A' B3 ∧ J (p ++ [.tup [k, v]]) B3 h'))
  (hfin : ∀ p B1 h1, p.Perm es → J p B1 h1 → ∃ B2 h2, Hold B1 B2 ∧ (B2.map (·.1)).all (fun t => ke.contains t) = true ∧ HeadIs ke h.length B1 h1 h2 ∧ (∀ t ∈ ke, ∃ v, look B1 t = some v ∧ v.lt h2.length = true) ∧ hltL h2.length h2 = true ∧
   Ef O I N n lk c B2 h2 (fun y A' h' => y = x ∧ (∀ t ∈ k2, ∃ v, look A' t = some v ∧ look B t = some v) ∧ HeadIs k2 h.length A' h' hF))
  (hBk : (B.map (·.1)).all (fun t => k2.contains t) = true) (hQ : Q x B hF) : EfT (mrkS O I N lk keep ke id m r d e b k2 c) n A h Q := .mk fun s hs => by
 have hr' : r < n := by simpa [Nat.blt_eq] using hr
 have hd' : d < n := by simpa [Nat.blt_eq] using hdn
 have he' : e < n := by simpa [Nat.blt_eq] using hen
 have key : ∀ (l p : List MV) (A1 B1 : Sl) (s1 : List MV) (h1 : MHeap), (p ++ l).Perm es → SRel n A1 s1 → Sub B1 A1 → J p B1 h1 →
   (((overS (roundS (evC O I N b lk) keep h.length r d e) l ⟨s1, h1⟩).bind (finS ke id h.length r d e)).bind fun p => match p with
         | (.normal, st') => evC O I N c lk st'
         | p => some p).map (fun p => (p.1, headM k2 h.length p.2)) = some (x, ⟨finl n k2 B, hF⟩) := by
  intro l
  induction l with
  | nil =>
   intro p A1 B1 s1 h1 hpm hs1 hA1 hJ
   rw [List.append_nil] at hpm
   obtain ⟨B2, h2, f1, f2, f3, f4, f5, f6⟩ := hfin p B1 h1 hpm hJ
   have hS1 : SRel n B1 s1 := ⟨hs1.len, fun t v ht => hs1.get t v (hA1 t v ht)⟩
   have e1 : headM ke h.length ⟨s1, h1⟩ = ⟨keepS ke 0 s1, h2⟩ := headM_is hS1 (by
    rw [List.all_eq_true]; intro t ht; have := List.all_eq_true.1 hke t ht; rw [Bool.and_eq_true] at this; exact this.1) f3
   have hkk : ∀ t ∈ ke, t < n ∧ t ≠ r ∧ t ≠ d ∧ t ≠ e := fun t ht => by
    have := List.all_eq_true.1 hke t ht
    simp only [Bool.and_eq_true, Nat.blt_eq, Bool.not_eq_true'] at this
    exact ⟨this.1, nbeq this.2.1, nbeq this.2.2.1, nbeq this.2.2.2⟩
   have hl3 : ((((keepS ke 0 s1).set r .junk).set d .junk).set e .junk).length = n := by simp [keepS_len', hs1.len]
   have get3 : ∀ t ∈ ke, ((((keepS ke 0 s1).set r .junk).set d .junk).set e .junk)[t]? = s1[t]? := fun t ht => by
    obtain ⟨n0, n1, n2, n3⟩ := hkk t ht
    have hlen : t < s1.length := by rw [hs1.len]; exact n0
    rw [List.getElem?_set_ne (Ne.symm n3), List.getElem?_set_ne (Ne.symm n2), List.getElem?_set_ne (Ne.symm n1), keepS_get', List.getElem?_eq_getElem hlen]
    simp [ht]
   have hcl : ltL h2.length ((((keepS ke 0 s1).set r .junk).set d .junk).set e .junk) = true := ltL_iff'.2 fun v hv => by
    obtain ⟨t, ht⟩ := List.getElem?_of_mem hv
    by_cases hk : t ∈ ke
    ·rw [get3 t hk] at ht
     obtain ⟨w, q1, q2⟩ := f4 t hk
     have := hS1.get t w q1
     rw [List.getD_eq_getElem?_getD, ht, Option.getD_some] at this
     rw [this]; exact q2
    ·rw [List.getElem?_set, List.getElem?_set, List.getElem?_set] at ht
     have junk : v = .junk → v.lt h2.length = true := fun h => by subst h; rfl
     split at ht
     ·split at ht
      ·exact junk (Option.some.inj ht).symm
      ·cases ht
     ·split at ht
      ·split at ht
       ·exact junk (Option.some.inj ht).symm
       ·cases ht
      ·split at ht
       ·split at ht
        ·exact junk (Option.some.inj ht).symm
        ·cases ht
       ·rw [keepS_get', Option.map_eq_some_iff] at ht
        obtain ⟨w, q1, q2⟩ := ht
        rw [Nat.zero_add, if_neg (by simpa using hk)] at q2
        exact junk q2.symm
   have hfs : finS ke id h.length r d e (.normal, ⟨s1, h1⟩) = some (.normal, ⟨(((keepS ke 0 s1).set r .junk).set d .junk).set e .junk, h2⟩) := by
    unfold finS
    dsimp only
    simp only [e1]
    rw [if_pos (by simp only [clean, okLen, hcl, f5, hs1.len, hr', hd', he', decide_true, Bool.and_self])]
    simp
   have hS2 : SRel n B2 ((((keepS ke 0 s1).set r .junk).set d .junk).set e .junk) := ⟨hl3, fun t v ht => by
    have hk : t ∈ ke := by
     have := List.all_eq_true.1 f2 t (look_mem ht)
     simpa using this
    rw [List.getD_eq_getElem?_getD, get3 t hk, ← List.getD_eq_getElem?_getD]
    exact hS1.get t v (f1.sub t v ht)⟩
   obtain ⟨y, s', h', k1, A', k2', rfl, k4, k5⟩ := f6.run _ hS2
   simp only [overS, Option.bind_some, hfs, k1, Option.map_some]
   rw [headM_is k2' hk2 k5, finl_eq2 k2' k4]
  | cons c0 l ih =>
   intro p A1 B1 s1 h1 hpm hs1 hA1 hJ
   have hce : entP c0 = true := List.all_eq_true.1 hes c0 (hpm.mem_iff.1 (by simp))
   obtain ⟨k, v, rfl⟩ : ∃ k v, c0 = .tup [k, v] := by
    unfold entP at hce
    split at hce
    ·exact ⟨_, _, rfl⟩
    ·cases hce
   obtain ⟨B2, h2, f1, f2, f3, f4, f5, f6⟩ := hb p k v l B1 h1 hpm hJ
   have hS1 : SRel n B1 s1 := ⟨hs1.len, fun t v ht => hs1.get t v (hA1 t v ht)⟩
   have e1 : headM keep h.length ⟨s1, h1⟩ = ⟨keepS keep 0 s1, h2⟩ := headM_is hS1 hkn f3
   have hsk : SRel n B2 (keepS keep 0 s1) := ⟨by rw [keepS_len', hs1.len], fun t v ht => by
    have hk : t ∈ keep := by
     have := List.all_eq_true.1 f2 t (look_mem ht)
     simpa using this
    rw [keepS_getD hk]
    exact hS1.get t v (f1.sub t v ht)⟩
   have hcl : ltL h2.length (keepS keep 0 s1) = true := ltL_iff'.2 fun v hv => by
    obtain ⟨t, ht⟩ := List.getElem?_of_mem hv
    rw [keepS_get', Option.map_eq_some_iff] at ht
    obtain ⟨v0, h3, rfl⟩ := ht
    simp only [Nat.zero_add]
    split
    ·rename_i hc
     obtain ⟨v, q1, q2⟩ := f4 t (by simpa using hc)
     have := hS1.get t v q1
     rw [List.getD_eq_getElem?_getD, h3, Option.getD_some] at this
     rw [this]; exact q2
    ·rfl
   obtain ⟨y, s', h', k1, A', k2', rfl, ⟨k', v', k3⟩, B3, k4, k5⟩ := f6.run ((((keepS keep 0 s1).set r (.itr k v)).set d .junk).set e .junk) (((hsk.put hr' _).put hd' _).put he' _)
   have hcok : (clean ⟨keepS keep 0 s1, h2⟩ && okLen r d e s1) = true := by simp only [clean, okLen, hcl, f5, hs1.len, hr', hd', he', decide_true, Bool.and_self]
   have hro : roundS (evC O I N b lk) keep h.length r d e (.tup [k, v]) ⟨s1, h1⟩ = some (.normal, ⟨s', h'⟩) := by
    unfold roundS
    simp only [e1]
    rw [if_pos hcok, k1]
    exact if_pos (by rw [k2'.get r _ k3]; rfl)
   simp only [overS, hro]
   exact ih (p ++ [.tup [k, v]]) A' B3 s' h' (by simpa using hpm) k2' k4.sub k5
 refine ⟨x, finl n k2 B, hF, ?_, B, ⟨by simp [finl], fun t v ht => ?_⟩, hQ⟩
 ·unfold mrkS
  rw [hs.x hm]
  dsimp only
  rw [if_pos ⟨by rw [hs.len]; exact hr', hes⟩]
  refine mrP_of fun es' hp => ?_
  refine key es' [] B0 B0 _ h hp ⟨by rw [List.length_set, hs.len], fun t v ht => ?_⟩ (fun _ _ h => h) h0
  ·have hne : r ≠ t := fun e => by subst e; rw [hB0r] at ht; cases ht
   rw [List.getD_eq_getElem?_getD, List.getElem?_set_ne hne, ← List.getD_eq_getElem?_getD]
   exact hs.get t v (hB0.sub t v ht)
 ·have hk : t ∈ k2 := by
   have := List.all_eq_true.1 hBk t (look_mem ht)
   simpa using this
  have htn : t < n := by have := List.all_eq_true.1 hk2 t hk; simpa [Nat.blt_eq] using this
  simp [finl, List.getD_eq_getElem?_getD, htn, hk, ht]
end
end Go.Proofs.YtnmgpbihknjdjaaDoor

/- Chapter 9: shadows that have bodies, their volumes. -/
namespace Go.Proofs.YtnmgpbihknjdjaaDoor
open Go.RowKit
set_option linter.unusedVariables false
def opnE (R C : List (Int × Int)) : Int := if (chkS R C).2 = 0 then (if possB R C anyP then 0 else 12) else (chkS R C).2
abbrev outS (R C : List (Int × Int)) (e : Int) : MV := .tup [encS R C, I64 e]
theorem openS_z (k : Nat) (R C : List (Int × Int)) (hR : R.length ≤ 100) (hC : C.length ≤ 100) : runZ MT (orA (k + 6)) (itA (k + 6)) 4000000 18 [encS R C] [] = some (outS R C (opnE R C), []) := by
 refine runZ_of mf_open (by simp) ?_
 simp only [argsL]
 have hlt := encS_lt 0 R C
 have hck := ChkS_c k R C hR hC
 by_cases h0 : (chkS R C).2 = 0
 ·have hv := chkS_val h0
  have HE := Lib.hid (show opnE R C = if possB R C anyP then 0 else 12 from if_pos h0)
  have hp := fun h => possible_c k R C (.fn 20 0 []) anyP hv.r5 hv.c5 (may_any (k + 3) _) h
  generalize chkS R C = ck at *
  cases hb : possB R C anyP
  ·rw [hb] at hp
   rw [hb] at HE
   repeat (first | apply ef_seq | (apply ef_mv; exact rfl; exact rfl) | (apply ef_ldp; exact rfl; exact rfl; (exact rfl); exact rfl; (exact rfl); (exact rd_2 rfl rfl)) | (apply ef_box; (iterate 4 exact rfl)) | (apply ef_new; exact rfl) | apply ef_nil | apply seqQ.normal)
   (apply ef_call; (· exact rfl); (· ((repeat (apply XVs.cons; exact rfl)); exact XVs.nil)); · exact hck _)
   repeat (first | apply ef_seq | (apply ef_mv; exact rfl; exact rfl) | (apply ef_bin; (iterate 3 exact rfl); (exact cmp_t rfl (by first | exact rfl | (simp only [cmpP]; omega)))) | (apply ef_ldp; exact rfl; exact rfl; (exact rfl); exact rfl; (exact rfl); (exact rd_2 rfl rfl)) | (apply ef_ext; (iterate 3 exact rfl)) | (apply ef_newst; (iterate 3 exact rfl); (exact rfl); exact rfl) | (apply ef_build; exact rfl; (repeat (apply XVs.cons; exact rfl)); exact XVs.nil; exact rfl; exact rfl) | apply ef_nil | apply seqQ.normal | (apply ef_condt; exact rfl; (exact (rfl : true = true))))
   (apply ef_call; (· exact rfl); (· ((repeat (apply XVs.cons; exact rfl)); exact XVs.nil)); · exact hp _)
   repeat (fail)
   (apply ef_call; (· exact rfl); (· ((repeat (apply XVs.cons; exact rfl)); exact XVs.nil)); · exact unless_c (k + 5) false 12 _ (e := 12) rfl)
   repeat (first | apply ef_seq | (apply ef_mv; exact rfl; exact rfl) | (apply ef_ldp; exact rfl; exact rfl; (exact rfl); exact rfl; (exact rfl); (exact rd_2 rfl rfl)) | (apply ef_st; (iterate 6 exact rfl); (exact rfl); exact rfl) | apply ef_nil | apply seqQ.normal | apply ef_ret)
   refine finR2 (v := encS R C) (w := I64 12) rfl ?_ (by exact rfl) hlt rfl (by rw [HE.out]; rfl)
   apply resC <;> exact rfl
  ·rw [hb] at hp
   rw [hb] at HE
   repeat (first | apply ef_seq | (apply ef_mv; exact rfl; exact rfl) | (apply ef_ldp; exact rfl; exact rfl; (exact rfl); exact rfl; (exact rfl); (exact rd_2 rfl rfl)) | (apply ef_box; (iterate 4 exact rfl)) | (apply ef_new; exact rfl) | apply ef_nil | apply seqQ.normal)
   (apply ef_call; (· exact rfl); (· ((repeat (apply XVs.cons; exact rfl)); exact XVs.nil)); · exact hck _)
   repeat (first | apply ef_seq | (apply ef_mv; exact rfl; exact rfl) | (apply ef_bin; (iterate 3 exact rfl); (exact cmp_t rfl (by first | exact rfl | (simp only [cmpP]; omega)))) | (apply ef_ldp; exact rfl; exact rfl; (exact rfl); exact rfl; (exact rfl); (exact rd_2 rfl rfl)) | (apply ef_ext; (iterate 3 exact rfl)) | (apply ef_newst; (iterate 3 exact rfl); (exact rfl); exact rfl) | (apply ef_build; exact rfl; (repeat (apply XVs.cons; exact rfl)); exact XVs.nil; exact rfl; exact rfl) | apply ef_nil | apply seqQ.normal | (apply ef_condt; exact rfl; (exact (rfl : true = true))))
   (apply ef_call; (· exact rfl); (· ((repeat (apply XVs.cons; exact rfl)); exact XVs.nil)); · exact hp _)
   repeat (fail)
   (apply ef_call; (· exact rfl); (· ((repeat (apply XVs.cons; exact rfl)); exact XVs.nil)); · exact unless_c (k + 5) true 12 _ (e := 0) rfl)
   repeat (first | apply ef_seq | (apply ef_mv; exact rfl; exact rfl) | (apply ef_ldp; exact rfl; exact rfl; (exact rfl); exact rfl; (exact rfl); (exact rd_2 rfl rfl)) | (apply ef_st; (iterate 6 exact rfl); (exact rfl); exact rfl) | apply ef_nil | apply seqQ.normal | apply ef_ret)
   refine finR2 (v := encS R C) (w := I64 0) rfl ?_ (by exact rfl) hlt rfl (by rw [HE.out]; rfl)
   apply resC <;> exact rfl
 ·have HE := Lib.hid (show opnE R C = (chkS R C).2 from if_neg h0)
  generalize chkS R C = ck at *
  repeat (first | apply ef_seq | (apply ef_mv; exact rfl; exact rfl) | (apply ef_ldp; exact rfl; exact rfl; (exact rfl); exact rfl; (exact rfl); (exact rd_2 rfl rfl)) | (apply ef_box; (iterate 4 exact rfl)) | (apply ef_new; exact rfl) | apply ef_nil | apply seqQ.normal)
  (apply ef_call; (· exact rfl); (· ((repeat (apply XVs.cons; exact rfl)); exact XVs.nil)); · exact hck _)
  repeat (first | apply ef_seq | (apply ef_mv; exact rfl; exact rfl) | (apply ef_bin; (iterate 3 exact rfl); (exact cmp_f rfl (by simp only [cmpP]; omega))) | (apply ef_ldp; exact rfl; exact rfl; (exact rfl); exact rfl; (exact rfl); (exact rd_2 rfl rfl)) | (apply ef_ext; (iterate 3 exact rfl)) | (apply ef_newst; (iterate 3 exact rfl); (exact rfl); exact rfl) | (apply ef_build; exact rfl; (repeat (apply XVs.cons; exact rfl)); exact XVs.nil; exact rfl; exact rfl) | (apply ef_st; (iterate 6 exact rfl); (exact rfl); exact rfl) | apply ef_nil | apply seqQ.normal | apply ef_ret | apply ef_skip | (apply ef_condf; exact rfl; (exact (rfl : false = false))))
  refine finR2 (v := encS R C) (w := I64 ck.2) rfl ?_ (by exact rfl) hlt rfl (by rw [HE.out])
  apply resC <;> exact rfl
theorem ltS0 (R C : List (Int × Int)) : ltL 0 [encS R C] = true := by
 show ((encS R C).lt 0 && true) = true
 rw [encS_lt]; rfl
theorem openS_c (k : Nat) (R C : List (Int × Int)) (hR : R.length ≤ 100) (hC : C.length ≤ 100) (h : MHeap) : orA (k + 7) 18 [encS R C] h = some (outS R C (opnE R C), h) := by
 have := callA (k := k + 6) (h := h) (args := [encS R C]) (args' := [encS R C]) (frzL_lt (ltS0 R C)) rfl (openS_z k R C hR hC) (by rw [ltS0]; show ((MV.lt 0 (encS R C) && true) && _) = true; rw [encS_lt]; rfl) rfl
 simpa [shV, sh1] using this
theorem total_z (k : Nat) (a b c d e : Int) (ha : 0 ≤ a ∧ a ≤ 100) (hb : 0 ≤ b ∧ b ≤ 100) (hc : 0 ≤ c ∧ c ≤ 100) (hd : 0 ≤ d ∧ d ≤ 100) (he : 0 ≤ e ∧ e ≤ 100) : runZ MT (orA k) (itA k) 4000000 22 [keyA [a, b, c, d, e]] [] = some (I64 [a, b, c, d, e].sum, []) := by
 have hz : runZ MT (orA k) (itA k) 4000000 22 [keyA [a, b, c, d, e]] [] = some (W64 (IntKind.i64.wrap (IntKind.i64.wrap (IntKind.i64.wrap (IntKind.i64.wrap (0 + a) + b) + c) + d) + e), []) := by kernel_rfl
 rw [hz]
 have w : ∀ z : Int, 0 ≤ z ∧ z ≤ 1000 → IntKind.i64.wrap z = z := fun z hz => wrap_of (by omega) (by omega)
 simp only [W64]
 rw [w (0 + a) (by omega), w (0 + a + b) (by omega), w (0 + a + b + c) (by omega), w (0 + a + b + c + d) (by omega), w (0 + a + b + c + d + e) (by omega)]
 simp only [List.sum_cons, List.sum_nil]
 rw [show (0 + a + b + c + d + e : Int) = a + (b + (c + (d + (e + 0)))) by omega]
theorem total_c (k : Nat) (v : List Int) (hl : v.length = 5) (hv : ∀ x ∈ v, 0 ≤ x ∧ x ≤ 100) (h : MHeap) : orA (k + 1) 22 [keyA v] h = some (I64 v.sum, h) := by
 obtain ⟨a, b, c, d, e, rfl⟩ : ∃ a b c d e, v = [a, b, c, d, e] := by
  match v, hl with
  | [a, b, c, d, e], _ => exact ⟨a, b, c, d, e, rfl⟩
 exact callL (args' := [keyA [a, b, c, d, e]]) (frzL_lt (by show ((keyA [a, b, c, d, e]).lt 0 && true) = true; rw [keyA_lt]; rfl)) rfl (total_z k a b c d e (hv a (by simp)) (hv b (by simp)) (hv c (by simp)) (hv d (by simp)) (hv e (by simp)))
theorem mf_Min : MT.mf 23 = some ⟨25, [(.tmp 2)], (.seq (.reg [gO 2 (.mv (cI 0))]) (.seq (.seq (.reg [gO 5 (.mv (.s 0)), gO 6 (.len (.s 5)), gO 7 (.bin .lss (.s 6) (cI 1))]) (.cond (.s 7) (.reg [gO 8 (.bad), ⟨none, none, .bad⟩]) .skip)) (.seq (.reg [gO 9 (.mv (.s 0)), gO 10 (.ia 1 (.s 9) (cI 0)), gO 11 (.ld none (.s 10)), gO 3 (.mv (.s 11))]) (.seq (.seq (.reg [gO 4 (.mv (cI 1))]) (.block 0 (.loop [4, 0, 3] (.seq (.seq (.reg [gO 12 (.mv (.s 4)), gO 13 (.mv (.s 0)), gO 14 (.len (.s 13)), gO 15 (.bin .lss (.s 12) (.s 14))]) (.cond (.s 15) .skip (.exit 0))) (.seq (.block 1 (.reg [gO 18 (.mv (.s 3)), gO 19 (.mv (.s 0)), gO 20 (.mv (.s 4)), gO 21 (.ia 1 (.s 19) (.s 20)), gO 22 (.ld none (.s 21)), gO 23 (.mn (.s 18) (.s 22)), gO 3 (.mv (.s 23))])) (.reg [gO 16 (.mv (.s 4)), gO 17 (.bin .add (.s 16) (cI 1)), gO 4 (.mv (.s 17))])))))) (.seq (.reg [gO 24 (.mv (.s 3)), gO 2 (.mv (.s 24))]) .ret)))))⟩ := by kernel_rfl
theorem mf_Max : MT.mf 24 = some ⟨25, [(.tmp 2)], (.seq (.reg [gO 2 (.mv (cI 0))]) (.seq (.seq (.reg [gO 5 (.mv (.s 0)), gO 6 (.len (.s 5)), gO 7 (.bin .lss (.s 6) (cI 1))]) (.cond (.s 7) (.reg [gO 8 (.bad), ⟨none, none, .bad⟩]) .skip)) (.seq (.reg [gO 9 (.mv (.s 0)), gO 10 (.ia 1 (.s 9) (cI 0)), gO 11 (.ld none (.s 10)), gO 3 (.mv (.s 11))]) (.seq (.seq (.reg [gO 4 (.mv (cI 1))]) (.block 0 (.loop [4, 0, 3] (.seq (.seq (.reg [gO 12 (.mv (.s 4)), gO 13 (.mv (.s 0)), gO 14 (.len (.s 13)), gO 15 (.bin .lss (.s 12) (.s 14))]) (.cond (.s 15) .skip (.exit 0))) (.seq (.block 1 (.reg [gO 18 (.mv (.s 3)), gO 19 (.mv (.s 0)), gO 20 (.mv (.s 4)), gO 21 (.ia 1 (.s 19) (.s 20)), gO 22 (.ld none (.s 21)), gO 23 (.mx (.s 18) (.s 22)), gO 3 (.mv (.s 23))])) (.reg [gO 16 (.mv (.s 4)), gO 17 (.bin .add (.s 16) (cI 1)), gO 4 (.mv (.s 17))])))))) (.seq (.reg [gO 24 (.mv (.s 3)), gO 2 (.mv (.s 24))]) .ret)))))⟩ := by kernel_rfl
theorem mn_next (x : Int) (l : List Int) (j : Nat) (h : j < l.length) : mnL (x :: l.take (j + 1)) = if l[j] < mnL (x :: l.take j) then l[j] else mnL (x :: l.take j) := by
 rw [List.take_add_one, List.getElem?_eq_getElem h]
 exact mnL_app (l := x :: l.take j) (by simp) _
theorem mx_next (x : Int) (l : List Int) (j : Nat) (h : j < l.length) : mxL (x :: l.take (j + 1)) = if mxL (x :: l.take j) < l[j] then l[j] else mxL (x :: l.take j) := by
 rw [List.take_add_one, List.getElem?_eq_getElem h]
 exact mxL_app (l := x :: l.take j) (by simp) _
theorem Min_z (k : Nat) (x : Int) (l : List Int) (hx : l.length ≤ 1000000) : runZ MT (orA k) (itA k) 4000000 23 [.sl ((x :: l).map I64)] [] = some (I64 (mnL (x :: l)), []) := by
 have hl : (MV.sl ((x :: l).map I64)).slen = some (l.length + 1) := by simp [MV.slen]
 have h0 : ((x :: l).map I64)[(0 : Int).toNat]? = some (I64 x) := rfl
 refine runZ_of mf_Min (by simp) ?_
 simp only [argsL]
 repeat (first | apply ef_seq | (apply ef_mv; exact rfl; exact rfl) | (apply ef_bin; (iterate 3 exact rfl); (exact cmp_f rfl (by simp only [cmpP]; omega))) | (apply ef_len; exact rfl; exact rfl; (assumption)) | (apply ef_ldr; exact rfl; exact rfl; (exact rfl)) | (apply ef_ias; (iterate 3 exact rfl); (omega); assumption; exact rfl) | apply ef_nil | apply seqQ.normal | apply ef_block | apply ef_skip | (apply ef_condf; exact rfl; (exact (rfl : false = false))))
 refine ef_loopf (α := Nat × Int) (fun a => a.1 ≤ l.length ∧ a.2 = mnL (x :: l.take a.1)) (fun a => [(4, I64 ((a.1 + 1 : Nat) : Int)), (3, I64 a.2)]) [(0, .sl ((x :: l).map I64))] (fun _ => []) (fun a => l.length - a.1) (0, x) [4, 3] (fun _ => rfl) (by ((repeat (refine Hold.cons (by exact rfl) ?_)); exact Hold.nil)) (by ((repeat (refine Hold.cons (by exact rfl) ?_)); exact Hold.nil)) rfl rfl ⟨Nat.zero_le _, rfl⟩ (by simp; omega) ?_
 rintro ⟨j, m⟩ ⟨hj, hm⟩
 simp only at hj hm
 by_cases hlt : j < l.length
 ·have e1 : ((x :: l).map I64)[((j + 1 : Nat) : Int).toNat]? = some (I64 l[j]) := by
   rw [Int.toNat_natCast, List.getElem?_map, List.getElem?_cons_succ, List.getElem?_eq_getElem hlt]; rfl
  have HN := Lib.hid (mn_next x l j hlt)
  rw [← hm] at HN
  generalize l[j] = y at *
  clear hm
  repeat (first | apply ef_seq | (apply ef_mv; exact rfl; exact rfl) | (apply ef_bin; (iterate 3 exact rfl); (first | exact cmp_t rfl (by first | exact rfl | (simp only [cmpP]; omega)) | ((with_reducible refine bin_add (wrap_of ?_ ?_)) <;> omega))) | (apply ef_len; exact rfl; exact rfl; (assumption)) | (apply ef_ldr; exact rfl; exact rfl; (exact rfl)) | (apply ef_ias; (iterate 3 exact rfl); (omega); assumption; exact rfl) | (apply ef_mn; (iterate 3 exact rfl)) | apply ef_nil | apply seqQ.normal | apply blockQ.normal | apply ef_block | apply ef_skip | (apply ef_condt; exact rfl; (exact (rfl : true = true))))
  (refine loopQ.normal _ _ ⟨(j + 1, mn m y), ⟨hlt, HN.out.symm⟩, (by first | (simp only; omega) | omega), ⟨by ((repeat (refine Hold.cons (by exact rfl) ?_)); exact Hold.nil), by ((repeat (refine Hold.cons (by exact rfl) ?_)); exact Hold.nil)⟩, .inl (Nat.le_refl _), (by first | exact List.take_length | exact rfl | exact takeF rfl rfl)⟩)
 ·obtain rfl : j = l.length := by omega
  have HM := Lib.hid hm
  clear hm
  repeat (first | apply ef_seq | (apply ef_mv; exact rfl; exact rfl) | (apply ef_bin; (iterate 3 exact rfl); (exact cmp_f rfl (by simp only [cmpP]; omega))) | (apply ef_len; exact rfl; exact rfl; (assumption)) | apply ef_nil | apply seqQ.normal | apply loopQ.exit | apply ef_ret | apply ef_exit | apply seqQ.exit | apply blockQ.here | (apply ef_condf; exact rfl; (exact (rfl : false = false))))
  (refine fin1 rfl (by exact rfl) rfl ?_)
  rw [HM.out, List.take_length]
theorem Max_z (k : Nat) (x : Int) (l : List Int) (hx : l.length ≤ 1000000) : runZ MT (orA k) (itA k) 4000000 24 [.sl ((x :: l).map I64)] [] = some (I64 (mxL (x :: l)), []) := by
 have hl : (MV.sl ((x :: l).map I64)).slen = some (l.length + 1) := by simp [MV.slen]
 have h0 : ((x :: l).map I64)[(0 : Int).toNat]? = some (I64 x) := rfl
 refine runZ_of mf_Max (by simp) ?_
 simp only [argsL]
 repeat (first | apply ef_seq | (apply ef_mv; exact rfl; exact rfl) | (apply ef_bin; (iterate 3 exact rfl); (exact cmp_f rfl (by simp only [cmpP]; omega))) | (apply ef_len; exact rfl; exact rfl; (assumption)) | (apply ef_ldr; exact rfl; exact rfl; (exact rfl)) | (apply ef_ias; (iterate 3 exact rfl); (omega); assumption; exact rfl) | apply ef_nil | apply seqQ.normal | apply ef_block | apply ef_skip | (apply ef_condf; exact rfl; (exact (rfl : false = false))))
 refine ef_loopf (α := Nat × Int) (fun a => a.1 ≤ l.length ∧ a.2 = mxL (x :: l.take a.1)) (fun a => [(4, I64 ((a.1 + 1 : Nat) : Int)), (3, I64 a.2)]) [(0, .sl ((x :: l).map I64))] (fun _ => []) (fun a => l.length - a.1) (0, x) [4, 3] (fun _ => rfl) (by ((repeat (refine Hold.cons (by exact rfl) ?_)); exact Hold.nil)) (by ((repeat (refine Hold.cons (by exact rfl) ?_)); exact Hold.nil)) rfl rfl ⟨Nat.zero_le _, rfl⟩ (by simp; omega) ?_
 rintro ⟨j, m⟩ ⟨hj, hm⟩
 simp only at hj hm
 by_cases hlt : j < l.length
 ·have e1 : ((x :: l).map I64)[((j + 1 : Nat) : Int).toNat]? = some (I64 l[j]) := by
   rw [Int.toNat_natCast, List.getElem?_map, List.getElem?_cons_succ, List.getElem?_eq_getElem hlt]; rfl
  have HN := Lib.hid (mx_next x l j hlt)
  rw [← hm] at HN
  generalize l[j] = y at *
  clear hm
  repeat (first | apply ef_seq | (apply ef_mv; exact rfl; exact rfl) | (apply ef_bin; (iterate 3 exact rfl); (first | exact cmp_t rfl (by first | exact rfl | (simp only [cmpP]; omega)) | ((with_reducible refine bin_add (wrap_of ?_ ?_)) <;> omega))) | (apply ef_len; exact rfl; exact rfl; (assumption)) | (apply ef_ldr; exact rfl; exact rfl; (exact rfl)) | (apply ef_ias; (iterate 3 exact rfl); (omega); assumption; exact rfl) | (apply ef_mx; (iterate 3 exact rfl)) | apply ef_nil | apply seqQ.normal | apply blockQ.normal | apply ef_block | apply ef_skip | (apply ef_condt; exact rfl; (exact (rfl : true = true))))
  (refine loopQ.normal _ _ ⟨(j + 1, mx m y), ⟨hlt, HN.out.symm⟩, (by first | (simp only; omega) | omega), ⟨by ((repeat (refine Hold.cons (by exact rfl) ?_)); exact Hold.nil), by ((repeat (refine Hold.cons (by exact rfl) ?_)); exact Hold.nil)⟩, .inl (Nat.le_refl _), (by first | exact List.take_length | exact rfl | exact takeF rfl rfl)⟩)
 ·obtain rfl : j = l.length := by omega
  have HM := Lib.hid hm
  clear hm
  repeat (first | apply ef_seq | (apply ef_mv; exact rfl; exact rfl) | (apply ef_bin; (iterate 3 exact rfl); (exact cmp_f rfl (by simp only [cmpP]; omega))) | (apply ef_len; exact rfl; exact rfl; (assumption)) | apply ef_nil | apply seqQ.normal | apply loopQ.exit | apply ef_ret | apply ef_exit | apply seqQ.exit | apply blockQ.here | (apply ef_condf; exact rfl; (exact (rfl : false = false))))
  (refine fin1 rfl (by exact rfl) rfl ?_)
  rw [HM.out, List.take_length]
theorem Min_c (k : Nat) (xs : List Int) (h : MHeap) {v : MV} (hx : xs.length ≤ 1000000) (h0 : xs ≠ []) (hv : frz 0 [] h 8 v = some (.sl (xs.map I64))) : orA (k + 1) 23 [v] h = some (I64 (mnL xs), h) := by
 cases xs with
 | nil => exact absurd rfl h0
 | cons x l => exact callL (args' := [.sl ((x :: l).map I64)]) (by simp [List.mapM_cons, hv]) rfl (Min_z k x l (by simp at hx; omega))
theorem Max_c (k : Nat) (xs : List Int) (h : MHeap) {v : MV} (hx : xs.length ≤ 1000000) (h0 : xs ≠ []) (hv : frz 0 [] h 8 v = some (.sl (xs.map I64))) : orA (k + 1) 24 [v] h = some (I64 (mxL xs), h) := by
 cases xs with
 | nil => exact absurd rfl h0
 | cons x l => exact callL (args' := [.sl ((x :: l).map I64)]) (by simp [List.mapM_cons, hv]) rfl (Max_z k x l (by simp at hx; omega))
end Go.Proofs.YtnmgpbihknjdjaaDoor
