/- Evaluation with open values: slots as a list of what is known, rules for control. -/
import Derived.Test.YtgjpdjihjphbdaaLI
/- Evaluation with open values: slots as a list of what is known, rules for control. -/
namespace Go.Proofs.Ytgjpdjihjphbdaa
open Go.RowKit
set_option linter.unusedVariables false

abbrev Sl := List (Nat × MV)
def look : Sl → Nat → Option MV
  | [], _ => none
  | (u, v) :: A, t => if t = u then some v else look A t
theorem look_cons (u : Nat) (v : MV) (A : Sl) (t : Nat) : look ((u, v) :: A) t = if t = u then some v else look A t := rfl
theorem look_here {u : Nat} {v : MV} {A : Sl} : look ((u, v) :: A) u = some v := if_pos rfl
theorem look_next {u w : Nat} {v x : MV} {A : Sl} (h : Nat.beq w u = false) (h2 : look A w = some x) : look ((u, v) :: A) w = some x := (if_neg (fun e => by rw [e] at h; have : Nat.beq u u = true := Nat.beq_refl u; rw [this] at h; cases h)).trans h2

/-- What is known of slots. -/
structure SRel (n : Nat) (A : Sl) (s : List MV) : Prop where
  len : s.length = n
  get : ∀ t v, look A t = some v → s.getD t (.lit undef) = v

theorem SRel.put {n : Nat} {A : Sl} {s : List MV} (h : SRel n A s) {t : Nat} (ht : t < n) (v : MV) : SRel n ((t, v) :: A) (s.set t v) := by
  refine ⟨by rw [List.length_set, h.len], fun u x hu => ?_⟩
  rw [look_cons] at hu
  by_cases e : u = t
  · subst e
    have hl := h.len
    rw [if_pos rfl] at hu
    cases hu
    simp [List.getD_eq_getElem?_getD, show u < s.length by omega]
  · rw [if_neg e] at hu
    rw [← h.get u x hu]
    simp [List.getD_eq_getElem?_getD, show ¬ t = u from fun x => e x.symm]

/-- An operand's value is known. -/
def XV (A : Sl) : MX → MV → Prop
  | .s t, v => look A t = some v
  | .c c, v => c = v
theorem SRel.x {n : Nat} {A : Sl} {s : List MV} (h : SRel n A s) {x : MX} {v : MV} (hx : XV A x v) : MX.get s x = v := by
  cases x with
  | s t => exact h.get t v hx
  | c c => exact hx
def XVs (A : Sl) : List MX → List MV → Prop
  | [], vs => vs = []
  | x :: xs, vs => ∃ v us, vs = v :: us ∧ XV A x v ∧ XVs A xs us
theorem XVs.nil {A : Sl} : XVs A [] [] := rfl
theorem XVs.cons {A : Sl} {x : MX} {xs : List MX} {v : MV} {vs : List MV} (h : XV A x v) (hs : XVs A xs vs) : XVs A (x :: xs) (v :: vs) := ⟨v, vs, rfl, h, hs⟩
theorem SRel.xs {n : Nat} {A : Sl} {s : List MV} (h : SRel n A s) : ∀ {xs : List MX} {vs : List MV}, XVs A xs vs → xs.map (MX.get s) = vs
  | [], vs, hx => by cases hx; rfl
  | x :: xs, vs, hx => by
    obtain ⟨v, us, rfl, h1, h2⟩ := hx
    simp only [List.map_cons, h.x h1, h.xs h2]

/-- How code goes on. -/
structure Ef (O : Oracle) (I : Iter) (N n : Nat) (lk : Nat → Bool) (mc : MC) (A : Sl) (h : MHeap) (Q : MX2 → Sl → MHeap → Prop) : Prop where
  run : ∀ s, SRel n A s → ∃ x s' h', evC O I N mc lk ⟨s, h⟩ = some (x, ⟨s', h'⟩) ∧ ∃ A', SRel n A' s' ∧ Q x A' h'

section
variable {O : Oracle} {I : Iter} {N n : Nat} {lk : Nat → Bool} {A : Sl} {h : MHeap} {Q : MX2 → Sl → MHeap → Prop}

theorem Ef.mono {mc : MC} {Q' : MX2 → Sl → MHeap → Prop} (hE : Ef O I N n lk mc A h Q) (hQ : ∀ x A h, Q x A h → Q' x A h) : Ef O I N n lk mc A h Q' := .mk fun s hs => by
  obtain ⟨x, s', h', h1, A', h2, h3⟩ := hE.run s hs
  exact ⟨x, s', h', h1, A', h2, hQ _ _ _ h3⟩

inductive seqQ (O : Oracle) (I : Iter) (N n : Nat) (lk : Nat → Bool) (b : MC) (Q : MX2 → Sl → MHeap → Prop) : MX2 → Sl → MHeap → Prop
  | normal (A : Sl) (h : MHeap) : Ef O I N n lk b A h Q → seqQ O I N n lk b Q .normal A h
  | ret (A : Sl) (h : MHeap) : Q .ret A h → seqQ O I N n lk b Q .ret A h
  | exit (id : Nat) (A : Sl) (h : MHeap) : Q (.exit id) A h → seqQ O I N n lk b Q (.exit id) A h
inductive blockQ (id : Nat) (Q : MX2 → Sl → MHeap → Prop) : MX2 → Sl → MHeap → Prop
  | normal (A : Sl) (h : MHeap) : Q .normal A h → blockQ id Q .normal A h
  | ret (A : Sl) (h : MHeap) : Q .ret A h → blockQ id Q .ret A h
  | here (A : Sl) (h : MHeap) : Q .normal A h → blockQ id Q (.exit id) A h
  | there (k : Nat) (A : Sl) (h : MHeap) : k ≠ id → Q (.exit k) A h → blockQ id Q (.exit k) A h

theorem ef_skip (hQ : Q .normal A h) : Ef O I N n lk .skip A h Q := .mk fun s hs => ⟨_, s, h, rfl, A, hs, hQ⟩
theorem ef_ret (hQ : Q .ret A h) : Ef O I N n lk .ret A h Q := .mk fun s hs => ⟨_, s, h, rfl, A, hs, hQ⟩
theorem ef_exit {id : Nat} (hQ : Q (.exit id) A h) : Ef O I N n lk (.exit id) A h Q := .mk fun s hs => ⟨_, s, h, rfl, A, hs, hQ⟩
theorem ef_seq {a b : MC} (hE : Ef O I N n lk a A h (seqQ O I N n lk b Q)) : Ef O I N n lk (.seq a b) A h Q := .mk fun s hs => by
  obtain ⟨x, s', h', h1, A', h2, h3⟩ := hE.run s hs
  cases h3 with
  | normal _ _ h3 =>
    obtain ⟨y, s2, h2', k1, k2⟩ := h3.run s' h2
    exact ⟨y, s2, h2', by simp only [evC, h1, k1], k2⟩
  | exit id _ _ h3 => exact ⟨_, s', h', by simp only [evC, h1], A', h2, h3⟩
  | ret _ _ h3 => exact ⟨_, s', h', by simp only [evC, h1], A', h2, h3⟩
theorem ef_block {id : Nat} {b : MC} (hE : Ef O I N n lk b A h (blockQ id Q)) : Ef O I N n lk (.block id b) A h Q := .mk fun s hs => by
  obtain ⟨x, s', h', h1, A', h2, h3⟩ := hE.run s hs
  cases h3 with
  | normal _ _ h3 => exact ⟨_, s', h', by simp only [evC, h1], A', h2, h3⟩
  | ret _ _ h3 => exact ⟨_, s', h', by simp only [evC, h1], A', h2, h3⟩
  | here _ _ h3 => exact ⟨.normal, s', h', by simp only [evC, h1, if_true], A', h2, h3⟩
  | there k _ _ hk h3 => exact ⟨.exit k, s', h', by simp only [evC, h1, if_neg hk], A', h2, h3⟩
theorem ef_cond {c : MX} {a b : MC} {t : Bool} (hc : XV A c (.lit (.bool t))) (h1 : t = true → Ef O I N n lk a A h Q) (h2 : t = false → Ef O I N n lk b A h Q) : Ef O I N n lk (.cond c a b) A h Q := .mk fun s hs => by
  have hc' := hs.x hc
  cases t
  · obtain ⟨x, s', h', k1, k2⟩ := (h2 rfl).run s hs
    exact ⟨x, s', h', by simp only [evC, hc', Bool.false_eq_true, if_false, k1], k2⟩
  · obtain ⟨x, s', h', k1, k2⟩ := (h1 rfl).run s hs
    exact ⟨x, s', h', by simp only [evC, hc', if_true, k1], k2⟩
theorem ef_condt {c : MX} {a b : MC} {t : Bool} (hc : XV A c (.lit (.bool t))) (ht : t = true) (h1 : Ef O I N n lk a A h Q) : Ef O I N n lk (.cond c a b) A h Q := ef_cond hc (fun _ => h1) fun e => by rw [ht] at e; cases e
theorem ef_condf {c : MX} {a b : MC} {t : Bool} (hc : XV A c (.lit (.bool t))) (ht : t = false) (h1 : Ef O I N n lk b A h Q) : Ef O I N n lk (.cond c a b) A h Q := ef_cond hc (fun e => by rw [ht] at e; cases e) fun _ => h1
theorem ef_nil (hQ : Q .normal A h) : Ef O I N n lk (.reg []) A h Q := .mk fun s hs => ⟨_, s, h, rfl, A, hs, hQ⟩
theorem ef_reg {g : GO} {os : List GO} (hE : ∀ s, SRel n A s → ∃ s1 h1 A1, evG lk O g ⟨s, h⟩ = some ⟨s1, h1⟩ ∧ SRel n A1 s1 ∧ Ef O I N n lk (.reg os) A1 h1 Q) : Ef O I N n lk (.reg (g :: os)) A h Q := .mk fun s hs => by
  obtain ⟨s1, h1, A1, e1, e2, e3⟩ := hE s hs
  obtain ⟨x, s', h', k1, k2⟩ := e3.run s1 e2
  refine ⟨x, s', h', ?_, k2⟩
  simp only [evC, Option.map_eq_some_iff] at k1 ⊢
  obtain ⟨st, k3, k4⟩ := k1
  exact ⟨st, by simp only [evR, e1, Option.bind_some, k3], k4⟩
/-- An operation, its value, what it leaves. -/
theorem ef_op {t : Nat} {op : MO} {os : List GO} {v : MV} {h1 : MHeap} (he : ∀ s, SRel n A s → evO lk O s h op = some (v, h1)) (ht : Nat.blt t n = true) (hE : Ef O I N n lk (.reg os) ((t, v) :: A) h1 Q) : Ef O I N n lk (.reg (⟨none, some t, op⟩ :: os)) A h Q :=
  ef_reg fun s hs => ⟨s.set t v, h1, _, by simp only [evG, wantM, he s hs, if_true, putM], hs.put (by simpa [Nat.blt_eq] using ht) v, hE⟩
theorem ef_op0 {op : MO} {os : List GO} {v : MV} {h1 : MHeap} (he : ∀ s, SRel n A s → evO lk O s h op = some (v, h1)) (hE : Ef O I N n lk (.reg os) A h1 Q) : Ef O I N n lk (.reg (⟨none, none, op⟩ :: os)) A h Q :=
  ef_reg fun s hs => ⟨s, h1, _, by simp only [evG, wantM, he s hs, if_true, putM], hs, hE⟩
theorem wantM_x {s : List MV} (hs : SRel n A s) {u : Nat} {b x : Bool} (hg : look A u = some (.lit (.bool x))) : wantM s (some (u, b)) = some (x == b) := by
  simp only [wantM, hs.get u _ hg]
/-- Guards. -/
theorem ef_gy {u : Nat} {b : Bool} {t : Option Nat} {op : MO} {os : List GO} {x : Bool} (hg : look A u = some (.lit (.bool x))) (hx : x = b) (hE : Ef O I N n lk (.reg (⟨none, t, op⟩ :: os)) A h Q) : Ef O I N n lk (.reg (⟨some (u, b), t, op⟩ :: os)) A h Q := .mk fun s hs => by
  subst hx
  obtain ⟨y, s', h', k1, k2⟩ := hE.run s hs
  refine ⟨y, s', h', ?_, k2⟩
  simp only [evC, evR] at k1 ⊢
  have e1 : evG lk O ⟨some (u, x), t, op⟩ ⟨s, h⟩ = evG lk O ⟨none, t, op⟩ ⟨s, h⟩ := by
    simp only [evG, wantM_x hs hg, beq_self_eq_true]
    rfl
  rw [e1]; exact k1
theorem ef_gn {u t : Nat} {b x : Bool} {op : MO} {os : List GO} (hg : look A u = some (.lit (.bool x))) (hx : x = !b) (ht : Nat.blt t n = true)
    (hE : Ef O I N n lk (.reg os) ((t, .lit undef) :: A) h Q) : Ef O I N n lk (.reg (⟨some (u, b), some t, op⟩ :: os)) A h Q :=
  ef_reg fun s hs => ⟨s.set t (.lit undef), h, _, by
    simp only [evG, wantM_x hs hg, hx]
    cases b <;> simp [putM], hs.put (by simpa [Nat.blt_eq] using ht) _, hE⟩
theorem ef_gn0 {u : Nat} {b x : Bool} {op : MO} {os : List GO} (hg : look A u = some (.lit (.bool x))) (hx : x = !b)
    (hE : Ef O I N n lk (.reg os) A h Q) : Ef O I N n lk (.reg (⟨some (u, b), none, op⟩ :: os)) A h Q :=
  ef_reg fun s hs => ⟨s, h, _, by
    simp only [evG, wantM_x hs hg, hx]
    cases b <;> simp [putM], hs, hE⟩
/-- A guarded operation whose guard was not reached itself. -/
theorem ef_gu {t u : Nat} {b : Bool} {op : MO} {os : List GO} (hg : look A u = some (.lit undef)) (ht : Nat.blt t n = true)
    (hE : Ef O I N n lk (.reg os) ((t, .lit undef) :: A) h Q) : Ef O I N n lk (.reg (⟨some (u, b), some t, op⟩ :: os)) A h Q :=
  ef_reg fun s hs => ⟨s.set t (.lit undef), h, _, by
    have : wantM s (some (u, b)) = some false := by simp only [wantM]; rw [hs.get u _ hg]; rfl
    simp [evG, this, putM], hs.put (by simpa [Nat.blt_eq] using ht) _, hE⟩

theorem blockQ_there {id k : Nat} (hk : Nat.beq k id = false) (hE : Q (.exit k) A h) : blockQ id Q (.exit k) A h :=
  .there k _ _ (fun e => by subst e; have h2 : Nat.beq k k = true := Nat.beq_refl k; rw [h2] at hk; cases hk) hE

/-- Less knowledge. -/
def Sub (B A : Sl) : Prop := ∀ t v, look B t = some v → look A t = some v
theorem Ef.sub {mc : MC} {B : Sl} (hE : Ef O I N n lk mc B h Q) (hk : Sub B A) : Ef O I N n lk mc A h Q := .mk fun s hs =>
  hE.run s ⟨hs.len, fun t v ht => hs.get t v (hk t v ht)⟩
def Hold (A : Sl) (l : Sl) : Prop := ∀ p ∈ l, look A p.1 = some p.2
theorem Hold.nil {A : Sl} : Hold A [] := fun _ h => by cases h
theorem Hold.cons {A : Sl} {t : Nat} {v : MV} {l : Sl} (h : look A t = some v) (hl : Hold A l) : Hold A ((t, v) :: l) := fun p hp => by
  rcases List.mem_cons.1 hp with rfl | hp
  · exact h
  · exact hl p hp
theorem Hold.sub {A B : Sl} (h : Hold A B) : Sub B A := by
  intro t v ht
  induction B with
  | nil => simp [look] at ht
  | cons p B ih =>
    obtain ⟨u, x⟩ := p
    rw [look_cons] at ht
    split at ht
    · rename_i e
      cases ht
      subst e
      exact h _ List.mem_cons_self
    · exact ih (fun p hp => h p (List.mem_cons_of_mem _ hp)) ht
/-- A cut: what is known behind a part of the code. -/
theorem ef_cut {a : MC} (B : Sl) (h2 : MHeap) (h1 : Ef O I N n lk a A h fun x A' h' => x = .normal ∧ h' = h2 ∧ Hold A' B) (hQ : Q .normal B h2) : Ef O I N n lk a A h Q := .mk fun s hs => by
  obtain ⟨x, s', h', k1, A', k2, rfl, rfl, k3⟩ := h1.run s hs
  exact ⟨_, s', h', k1, B, ⟨k2.len, fun t v ht => k2.get t v (k3.sub t v ht)⟩, hQ⟩

theorem keepS_get' (keep : List Nat) : ∀ (s : List MV) (i t : Nat), (keepS keep i s)[t]? = (s[t]?).map fun v => if keep.contains (i + t) then v else .junk
  | [], i, t => by simp [keepS]
  | v :: s, i, 0 => by simp [keepS]
  | v :: s, i, t + 1 => by
    simp only [keepS, List.getElem?_cons_succ]
    rw [keepS_get' keep s (i + 1) t, show i + 1 + t = i + (t + 1) by omega]
theorem keepS_len' (keep : List Nat) : ∀ (s : List MV) (i : Nat), (keepS keep i s).length = s.length
  | [], i => rfl
  | v :: s, i => by simp [keepS, keepS_len' keep s]
theorem keepS_getD {keep : List Nat} {s : List MV} {t : Nat} (ht : t ∈ keep) : (keepS keep 0 s).getD t (.lit undef) = s.getD t (.lit undef) := by
  rw [List.getD_eq_getElem?_getD, keepS_get', List.getD_eq_getElem?_getD]
  cases s[t]? <;> simp [ht]

/-- What the head of a loop leaves of memory. -/
def headH (keep : List Nat) (m : Nat) (A : Sl) (h : MHeap) : Prop := h.length ≤ m ∨ ((∀ t ∈ keep, ∃ v, look A t = some v ∧ v.lt m = true) ∧ hltL m (h.take m) = true)
theorem ltL_iff' {n : Nat} : ∀ {l : List MV}, ltL n l = true ↔ ∀ m ∈ l, m.lt n = true
  | [] => by simp [ltL]
  | v :: l => by simp [ltL, ltL_iff' (l := l)]
theorem headM_take {keep : List Nat} {m : Nat} {s : List MV} (hs : SRel n A s) (hh : headH keep m A h) : headM keep m ⟨s, h⟩ = ⟨keepS keep 0 s, h.take m⟩ := by
  unfold headM
  dsimp only
  split
  · rename_i hl
    rw [List.take_of_length_le hl]
  · rename_i hl
    rcases hh with h1 | ⟨h1, h2⟩
    · exact absurd h1 hl
    · rw [if_pos]
      rw [Bool.and_eq_true]
      refine ⟨ltL_iff'.2 fun v hv => ?_, h2⟩
      obtain ⟨t, ht⟩ := List.getElem?_of_mem hv
      rw [keepS_get', Option.map_eq_some_iff] at ht
      obtain ⟨v0, h3, rfl⟩ := ht
      simp only [Nat.zero_add]
      split
      · rename_i hc
        have hc' : t ∈ keep := by simpa using hc
        obtain ⟨v, q1, q2⟩ := h1 t hc'
        have := hs.get t v q1
        rw [List.getD_eq_getElem?_getD, h3] at this
        simp only [Option.getD_some] at this
        rw [this]
        exact q2
      · rfl

inductive loopQ (R : Sl → MHeap → Prop) (Q : MX2 → Sl → MHeap → Prop) : MX2 → Sl → MHeap → Prop
  | normal (A : Sl) (h : MHeap) : R A h → loopQ R Q .normal A h
  | ret (A : Sl) (h : MHeap) : Q .ret A h → loopQ R Q .ret A h
  | exit (id : Nat) (A : Sl) (h : MHeap) : Q (.exit id) A h → loopQ R Q (.exit id) A h
theorem look_mem {t : Nat} {v : MV} : ∀ {B : Sl}, look B t = some v → t ∈ B.map (·.1)
  | [], ht => by simp [look] at ht
  | (u, x) :: B, ht => by
    rw [look_cons] at ht
    split at ht
    · rename_i e; simp [e]
    · simp [look_mem ht]
/-- A loop: hd tells the slots at its head, hp the memory there. -/
theorem ef_loop {α : Type} {keep : List Nat} {b : MC} (Inv : α → Prop) (hd : α → Sl) (hp : α → MHeap) (ms : α → Nat) (a0 : α) (ks : List Nat) (hks : ∀ a, (hd a).map (·.1) = ks) (hk : ks.all (fun t => keep.contains t) = true) (h0 : Inv a0) (hN : ms a0 < N)
    (hA : Hold A (hd a0)) (hH : hp a0 = h)
    (hb : ∀ a, Inv a → Ef O I N n lk b (hd a) (hp a) (loopQ (fun A' h' => ∃ a', Inv a' ∧ ms a' < ms a ∧ Hold A' (hd a') ∧ headH keep h.length A' h' ∧ h'.take h.length = hp a') Q)) : Ef O I N n lk (.loop keep b) A h Q := .mk fun s hs => by
  have key : ∀ (M : Nat) (a : α) (A1 : Sl) (s1 : List MV) (h1 : MHeap), Inv a → ms a < M → SRel n A1 s1 → Hold A1 (hd a) → headH keep h.length A1 h1 → h1.take h.length = hp a →
      ∃ x s' h', rounds (fun st' => evC O I N b lk (headM keep h.length st')) M ⟨s1, h1⟩ = some (x, ⟨s', h'⟩) ∧ ∃ A', SRel n A' s' ∧ Q x A' h' := by
    intro M
    induction M with
    | zero => intro a A1 s1 h1 _ hM; omega
    | succ M ih =>
      intro a A1 s1 h1 hI hM hs1 hA1 hh1 hh2
      have e1 := headM_take hs1 hh1
      rw [hh2] at e1
      obtain ⟨x, s', h', k1, A', k2, k3⟩ := (hb a hI).run (keepS keep 0 s1) ⟨by rw [keepS_len', hs1.len], fun t v ht => by
        have hmem : t ∈ keep := by
          have := look_mem ht
          rw [hks] at this
          simpa using List.all_eq_true.1 hk t this
        rw [keepS_getD hmem]
        exact hs1.get t v (hA1.sub t v ht)⟩
      cases k3 with
      | normal _ _ k3 =>
        obtain ⟨a', j1, j2, j3, j4, j5⟩ := k3
        obtain ⟨x, s2, h2, i1, i2⟩ := ih a' A' s' h' j1 (by omega) k2 j3 j4 j5
        exact ⟨x, s2, h2, by simp only [rounds, e1, k1]; exact i1, i2⟩
      | exit id _ _ k3 => exact ⟨_, s', h', by simp only [rounds, e1, k1], A', k2, k3⟩
      | ret _ _ k3 => exact ⟨_, s', h', by simp only [rounds, e1, k1], A', k2, k3⟩
  obtain ⟨x, s', h', k1, k2⟩ := key N a0 A s h h0 hN hs hA (.inl (Nat.le_refl _)) (by rw [List.take_length, hH])
  exact ⟨x, s', h', by simp only [evC]; exact k1, k2⟩

/-- What is handed back. -/
def ResV (A : Sl) (h : MHeap) : MRes → MV → Prop
  | .tmp t, v => look A t = some v
  | .cell t ag, v => ∃ id i off g o e, look A t = some (.ptr id i off g) ∧ h[id]? = some o ∧ o.g = g ∧ o.es[i]? = some e ∧ rdCells e.cells off ag = some v
def ResVs (A : Sl) (h : MHeap) : List MRes → List MV → Prop
  | [], vs => vs = []
  | r :: rs, vs => ∃ v us, vs = v :: us ∧ ResV A h r v ∧ ResVs A h rs us
theorem ResVs.ok {s : List MV} (hs : SRel n A s) : ∀ {rs : List MRes} {vs : List MV}, ResVs A h rs vs → rs.mapM (resM s h) = some vs
  | [], vs, hr => by cases hr; rfl
  | r :: rs, vs, hr => by
    obtain ⟨v, us, rfl, h1, h2⟩ := hr
    have e1 : resM s h r = some v := by
      cases r with
      | tmp t => simp only [resM, hs.get t v h1]
      | cell t ag =>
        obtain ⟨id, i, off, g, o, e, q1, q2, q3, q4, q5⟩ := h1
        simp only [resM, hs.get t _ q1, q2, q3, if_true, q4, q5]
    simp only [List.mapM_cons, e1, ResVs.ok hs h2]
    rfl
def argsL : Nat → List MV → Sl
  | _, [] => []
  | i, v :: vs => (i, v) :: argsL (i + 1) vs
theorem look_args : ∀ (l : List MV) (i t : Nat) (v : MV), look (argsL i l) t = some v → i ≤ t ∧ l[t - i]? = some v
  | [], i, t, v, h => by simp [argsL, look] at h
  | x :: l, i, t, v, h => by
    rw [argsL, look_cons] at h
    split at h
    · rename_i e; subst e; cases h; simp
    · rename_i e
      obtain ⟨h1, h2⟩ := look_args l (i + 1) t v h
      refine ⟨by omega, ?_⟩
      obtain ⟨k, hk⟩ : ∃ k, t - i = k + 1 := ⟨t - i - 1, by omega⟩
      rw [hk, List.getElem?_cons_succ, ← show t - (i + 1) = k by omega]
      exact h2
/-- A function's result. -/
def FinF (rs : List MRes) (m : MV) (news : MHeap) (x : MX2) (A : Sl) (h : MHeap) : Prop := outX x = true ∧ ∃ vs vs', ResVs A h rs vs ∧ (impIds 0 vs).Nodup ∧ expL 0 (impIds 0 vs) h vs 0 = some (vs', news) ∧ oneOf vs' = m
theorem runZ_of {M : Tab} {f : Nat} {rs : List MRes} {b : MC} {args : List MV} {m : MV} {news : MHeap} (hmf : M.mf f = some ⟨n, rs, b⟩) (hn : args.length ≤ n)
    (hE : Ef O I N n (fun _ => false) b (argsL 0 args) [] (FinF rs m news)) : runZ M O I N f args [] = some (m, news) := by
  obtain ⟨x, s', h', k1, A', k2, hx, vs, vs', r1, r2, r3, r4⟩ := hE.run (args ++ List.replicate (n - args.length) (.lit undef)) ⟨by simp; omega, fun t v ht => by
    obtain ⟨_, h1⟩ := look_args _ _ _ _ ht
    rw [Nat.sub_zero] at h1
    have hl := (List.getElem?_eq_some_iff.1 h1).1
    rw [List.getD_eq_getElem?_getD, List.getElem?_append_left hl, h1]
    rfl⟩
  unfold runZ
  rw [hmf]
  unfold runF
  have elk : (fun id => decide (id < ([] : MHeap).length)) = fun _ => false := by funext id; simp
  dsimp only
  rw [elk, k1]
  have hx' : x = .ret ∨ x = .normal := by cases x <;> simp [outX] at hx <;> simp
  dsimp only
  rw [if_pos hx', ResVs.ok k2 r1]
  simp only [List.length_nil, r2, if_true, r3, r4, List.nil_append]
/-- Results that speak of no memory of the call's own. -/
theorem fin1 {x : MX2} {v v' : MV} {t : Nat} (hx : outX x = true) (hv : look A t = some v) (hl : v.lt 0 = true) (he : v = v') : FinF [.tmp t] v' [] x A h := by
  subst he
  refine ⟨hx, [v], [v], ⟨v, [], rfl, hv, rfl⟩, ?_, ?_, rfl⟩
  · cases v <;> first | (simp [MV.lt] at hl; done) | simp [impIds]
  · have hi : impIds 0 [v] = [] := by
      cases v <;> first | (simp [MV.lt] at hl; done) | simp [impIds]
    rw [hi]
    cases v <;> first | (simp [MV.lt] at hl; done) | simp [expL, frz, hl]
theorem fin2 {x : MX2} {a b : Value} {m : MV} {t u : Nat} (hx : outX x = true) (hv : look A t = some (.lit a)) (hw : look A u = some (.lit b)) (he : MV.tup [.lit a, .lit b] = m) : FinF [.tmp t, .tmp u] m [] x A h := by
  subst he
  exact ⟨hx, [.lit a, .lit b], [.lit a, .lit b], ⟨_, _, rfl, hv, _, _, rfl, hw, rfl⟩, by simp [impIds], by simp [expL, frz, MV.lt], rfl⟩
theorem hdl_nil {m : Nat} : ∀ t ∈ ([] : List Nat), ∃ v, look A t = some v ∧ v.lt m = true := fun t ht => by cases ht
theorem hdl_cons {m t : Nat} {v : MV} {ks : List Nat} (h : look A t = some v) (hl : v.lt m = true) (hs : ∀ t ∈ ks, ∃ v, look A t = some v ∧ v.lt m = true) : ∀ u ∈ t :: ks, ∃ v, look A u = some v ∧ v.lt m = true := fun u hu => by
  rcases List.mem_cons.1 hu with rfl | hu
  · exact ⟨v, h, hl⟩
  · exact hs u hu
/-- A slice of the call's own, handed back. -/
theorem fin_arr {x : MX2} {t id i k k' g : Nat} {o : MObj} {es : List MV} {sz : Nat} {nl : Bool} (hx : outX x = true) (hv : look A t = some (.arr id i k g)) (ho : h[id]? = some o) (hg : o.g = g) (hk : i + k ≤ o.es.length) (hl : ltL 0 o.es = true) (he : (o.es.drop i).take k = es) (hz : o.sz = sz) (hn : o.nl = nl) (hkk : k = k') :
    FinF [.tmp t] (.arr 0 0 k' 0) [⟨0, nl, sz, es⟩] x A h := by
  subst he hz hn hkk
  refine ⟨hx, [.arr id i k g], [.arr 0 0 k 0], ⟨_, [], rfl, hv, rfl⟩, ?_, ?_, rfl⟩
  · simp [impIds]
  · simp [expL, ho, hg, hk, hl]
end

end Go.Proofs.Ytgjpdjihjphbdaa

/- Evaluation with open values: a rule for each operation. -/
namespace Go.Proofs.Ytgjpdjihjphbdaa
open Go.RowKit
set_option linter.unusedVariables false

abbrev I64 (n : Int) : MV := .lit (.int .i64 n)
abbrev Bo (b : Bool) : MV := .lit (.bool b)
abbrev Udf : MV := .lit undef

section
variable {O : Oracle} {I : Iter} {N n : Nat} {lk : Nat → Bool} {A : Sl} {h : MHeap} {Q : MX2 → Sl → MHeap → Prop} {t : Nat} {os : List GO}

theorem SRel.parts {α β : Type} {s : List MV} {f : α → MX} {g : α → MV → β} (hs : SRel n A s) : ∀ {ps : List α} {vs : List MV}, XVs A (ps.map f) vs → (ps.map fun p => g p (MX.get s (f p))) = (ps.zip vs).map fun q => g q.1 q.2
  | [], vs, h => by cases h; rfl
  | p :: ps, vs, h => by
    obtain ⟨v, us, rfl, h1, h2⟩ := h
    simp only [List.map_cons, List.zip_cons_cons, hs.x h1, hs.parts h2]
def XLo (A : Sl) : Option MX → Int → Prop
  | none, l => l = 0
  | some x, l => XV A x (.lit (.int .i64 l))
theorem SRel.lo {s : List MV} (hs : SRel n A s) {lo : Option MX} {l : Int} (h : XLo A lo l) : ((lo.map (MX.get s)).map intOf?).getD (some 0) = some l := by
  cases lo with
  | none => cases h; rfl
  | some x => simp [hs.x h, intOf?]

variable (ht : Nat.blt t n = true)
include ht

theorem ef_mv {x : MX} {v : MV} (hx : XV A x v) (hE : Ef O I N n lk (.reg os) ((t, v) :: A) h Q) : Ef O I N n lk (.reg (⟨none, some t, .mv x⟩ :: os)) A h Q :=
  ef_op (fun S HS => by simp only [evO, HS.x hx]) ht hE
theorem ef_nil0 {sz : Nat} (hE : Ef O I N n lk (.reg os) ((t, .arr h.length 0 0 0) :: A) (h ++ [⟨0, true, sz, []⟩]) Q) : Ef O I N n lk (.reg (⟨none, some t, .nil0 sz⟩ :: os)) A h Q :=
  ef_op (fun S HS => by simp only [evO]) ht hE
theorem ef_nilck {x : MX} {v : MV} (hx : XV A x v) (hv : (match v with | .ptr .. => true | .rp .. => true | .fn .. => true | _ => false) = true) (hE : Ef O I N n lk (.reg os) ((t, v) :: A) h Q) : Ef O I N n lk (.reg (⟨none, some t, .nilck x⟩ :: os)) A h Q :=
  ef_op (fun S HS => by simp only [evO, HS.x hx]; cases v <;> simp at hv <;> rfl) ht hE
theorem ef_pick {c x y : MX} {b : Bool} {v : MV} (hc : XV A c (.lit (.bool b))) (hv : XV A (bif b then x else y) v) (hE : Ef O I N n lk (.reg os) ((t, v) :: A) h Q) : Ef O I N n lk (.reg (⟨none, some t, .pick c x y⟩ :: os)) A h Q :=
  ef_op (fun s hs => by simp only [evO, hs.x hc]; cases b <;> simp only [cond_true, cond_false] at hv <;> simp [hs.x hv]) ht hE
theorem ef_pickb {c x y : MX} {b p q : Bool} (hc : XV A c (.lit (.bool b))) (hx : XV A x (.lit (.bool p))) (hy : XV A y (.lit (.bool q))) (hE : Ef O I N n lk (.reg os) ((t, .lit (.bool (bif b then p else q))) :: A) h Q) : Ef O I N n lk (.reg (⟨none, some t, .pick c x y⟩ :: os)) A h Q :=
  ef_op (fun s hs => by simp only [evO, hs.x hc, hs.x hx, hs.x hy]; cases b <;> rfl) ht hE
theorem ef_new {z : MV} (hE : Ef O I N n lk (.reg os) ((t, .ptr h.length 0 0 0) :: A) (h ++ [⟨0, false, z.cells.length, [z]⟩]) Q) : Ef O I N n lk (.reg (⟨none, some t, .new z⟩ :: os)) A h Q :=
  ef_op (fun S HS => by simp only [evO]) ht hE
theorem ef_box {sz : Nat} {x : MX} {v : MV} (hx : XV A x v) (hv : v.cells.length = sz) (hv2 : v.cOk = true) (hE : Ef O I N n lk (.reg os) ((t, .ptr h.length 0 0 0) :: A) (h ++ [⟨0, false, sz, [v]⟩]) Q) : Ef O I N n lk (.reg (⟨none, some t, .box sz x⟩ :: os)) A h Q :=
  ef_op (fun S HS => by simp only [evO, HS.x hx, hv, hv2, and_self, if_true]) ht hE
theorem ef_build {z : List MV} {ps : List (Nat × Nat × MX)} {vs cs : List MV} (hv : XVs A (ps.map (·.2.2)) vs) (h1 : fillM z ((ps.zip vs).map fun q => (q.1.1, q.2.cells)) = some cs) (h2 : (ps.zip vs).all (fun q => q.2.cells.length == q.1.2.1 && q.2.cOk) = true)
    (hE : Ef O I N n lk (.reg os) ((t, .agg cs) :: A) h Q) : Ef O I N n lk (.reg (⟨none, some t, .build z ps⟩ :: os)) A h Q :=
  ef_op (fun s hs => by
    have e1 := hs.parts (f := fun p : Nat × Nat × MX => p.2.2) (g := fun p v => (p.1, v.cells)) hv
    have e2 := hs.parts (f := fun p : Nat × Nat × MX => p.2.2) (g := fun p v => v.cells.length == p.2.1 && v.cOk) hv
    simp only [evO, e1, h1]
    have e3 : ps.all (fun p => (p.2.2.get s).cells.length == p.2.1 && (p.2.2.get s).cOk) = true := by
      rw [List.all_eq_true] at h2 ⊢
      intro p hp
      have hm : ((p.2.2.get s).cells.length == p.2.1 && (p.2.2.get s).cOk) ∈ ps.map fun p => ((p.2.2.get s).cells.length == p.2.1 && (p.2.2.get s).cOk) := List.mem_map.2 ⟨p, hp, rfl⟩
      rw [e2] at hm
      obtain ⟨q, hq, e⟩ := List.mem_map.1 hm
      rw [← e]
      exact h2 q hq
    rw [if_pos e3]) ht hE
theorem ef_bsl {z : MV} {sz len : Nat} {ps : List (Nat × MX)} {vs es : List MV} (hv : XVs A (ps.map (·.2)) vs) (h1 : setAtM (List.replicate len z) sz ((ps.zip vs).map fun q => (q.1.1, q.2)) = some es)
    (hE : Ef O I N n lk (.reg os) ((t, .arr h.length 0 len 0) :: A) (h ++ [⟨0, false, sz, es⟩]) Q) : Ef O I N n lk (.reg (⟨none, some t, .bsl z sz len ps⟩ :: os)) A h Q :=
  ef_op (fun s hs => by
    have e1 := hs.parts (f := fun p : Nat × MX => p.2) (g := fun p v => (p.1, v)) hv
    simp only [evO, e1, h1]) ht hE
theorem ef_vsl {z : MV} {sz len : Nat} {ps : List (Nat × MX)} {vs es : List MV} (hv : XVs A (ps.map (·.2)) vs) (h1 : setAtM (List.replicate len z) sz ((ps.zip vs).map fun q => (q.1.1, q.2)) = some es)
    (hE : Ef O I N n lk (.reg os) ((t, .sl es) :: A) h Q) : Ef O I N n lk (.reg (⟨none, some t, .vsl z sz len ps⟩ :: os)) A h Q :=
  ef_op (fun s hs => by
    have e1 := hs.parts (f := fun p : Nat × MX => p.2) (g := fun p v => (p.1, v)) hv
    simp only [evO, e1, h1]) ht hE
theorem ef_ldr {ag : Option Nat} {x : MX} {e v : MV} {off : Nat} (hx : XV A x (.rp e off)) (hv : rdCells e.cells off ag = some v) (hE : Ef O I N n lk (.reg os) ((t, v) :: A) h Q) : Ef O I N n lk (.reg (⟨none, some t, .ld ag x⟩ :: os)) A h Q :=
  ef_op (fun S HS => by simp only [evO, HS.x hx, hv, Option.map_some]) ht hE
theorem ef_ldp {ag : Option Nat} {x : MX} {e v : MV} {id i off g : Nat} {o : MObj} (hx : XV A x (.ptr id i off g)) (ho : h[id]? = some o) (hg : o.g = g) (he : o.es[i]? = some e) (hv : rdCells e.cells off ag = some v) (hE : Ef O I N n lk (.reg os) ((t, v) :: A) h Q) : Ef O I N n lk (.reg (⟨none, some t, .ld ag x⟩ :: os)) A h Q :=
  ef_op (fun S HS => by simp only [evO, HS.x hx, ho, hg, he, hv, Option.map_some, if_true]) ht hE
theorem ef_bin {op : BinOp} {x y : MX} {k : IntKind} {a b : Int} {v : Value} (hx : XV A x (.lit (.int k a))) (hy : XV A y (.lit (.int k b))) (hv : binI op k a b = some v) (hE : Ef O I N n lk (.reg os) ((t, .lit v) :: A) h Q) : Ef O I N n lk (.reg (⟨none, some t, .bin op x y⟩ :: os)) A h Q :=
  ef_op (fun S HS => by simp only [evO, HS.x hx, HS.x hy, hv, Option.map_some, if_true]) ht hE
theorem ef_beq {neg : Bool} {x y : MX} {a b : Bool} (hx : XV A x (.lit (.bool a))) (hy : XV A y (.lit (.bool b))) (hE : Ef O I N n lk (.reg os) ((t, .lit (.bool (negIf neg (a == b)))) :: A) h Q) : Ef O I N n lk (.reg (⟨none, some t, .beq neg x y⟩ :: os)) A h Q :=
  ef_op (fun S HS => by simp only [evO, HS.x hx, HS.x hy]) ht hE
theorem ef_eqa {m : Nat} {neg b : Bool} {x y : MX} {ps qs : List MV} (hx : XV A x (.agg ps)) (hy : XV A y (.agg qs)) (h1 : ps.length = m) (h2 : qs.length = m) (hb : litEq ps qs = some b) (hE : Ef O I N n lk (.reg os) ((t, .lit (.bool (negIf neg b))) :: A) h Q) : Ef O I N n lk (.reg (⟨none, some t, .eqa m neg x y⟩ :: os)) A h Q :=
  ef_op (fun S HS => by simp only [evO, HS.x hx, HS.x hy, h1, h2, and_self, if_true, hb, Option.map_some]) ht hE
theorem ef_eqna {neg : Bool} {x : MX} {id i m g : Nat} {o : MObj} (hx : XV A x (.arr id i m g)) (ho : h[id]? = some o) (hg : o.g = g) (hm : i + m ≤ o.es.length) (hE : Ef O I N n lk (.reg os) ((t, .lit (.bool (negIf neg o.nl))) :: A) h Q) : Ef O I N n lk (.reg (⟨none, some t, .eqn neg x⟩ :: os)) A h Q :=
  ef_op (fun S HS => by simp only [evO, HS.x hx, ho, hg, hm, and_self, if_true]) ht hE
theorem ef_not {x : MX} {b c : Bool} (hx : XV A x (.lit (.bool b))) (hc : (!b) = c) (hE : Ef O I N n lk (.reg os) ((t, .lit (.bool c)) :: A) h Q) : Ef O I N n lk (.reg (⟨none, some t, .un .not x⟩ :: os)) A h Q :=
  ef_op (fun S HS => by subst hc; simp only [evO, HS.x hx]) ht hE
theorem ef_notT {x : MX} (hx : XV A x (.lit (.bool true))) (hE : Ef O I N n lk (.reg os) ((t, .lit (.bool false)) :: A) h Q) : Ef O I N n lk (.reg (⟨none, some t, .un .not x⟩ :: os)) A h Q :=
  ef_not (ht := ht) hx rfl hE
theorem ef_notF {x : MX} (hx : XV A x (.lit (.bool false))) (hE : Ef O I N n lk (.reg os) ((t, .lit (.bool true)) :: A) h Q) : Ef O I N n lk (.reg (⟨none, some t, .un .not x⟩ :: os)) A h Q :=
  ef_not (ht := ht) hx rfl hE
theorem ef_neg {x : MX} {k : IntKind} {a c : Int} (hx : XV A x (.lit (.int k a))) (hc : k.wrap (0 - a) = c) (hE : Ef O I N n lk (.reg os) ((t, .lit (.int k c)) :: A) h Q) : Ef O I N n lk (.reg (⟨none, some t, .un .neg x⟩ :: os)) A h Q :=
  ef_op (fun S HS => by simp only [evO, HS.x hx, hc]) ht hE
theorem ef_cv {x : MX} {k k' : IntKind} {a c : Int} (hx : XV A x (.lit (.int k' a))) (hc : k.wrap a = c) (hE : Ef O I N n lk (.reg os) ((t, .lit (.int k c)) :: A) h Q) : Ef O I N n lk (.reg (⟨none, some t, .cv k x⟩ :: os)) A h Q :=
  ef_op (fun S HS => by simp only [evO, HS.x hx, hc]) ht hE
theorem ef_mf {f k : Nat} {cs : List MX} {vs : List MV} (hv : XVs A cs vs) (hE : Ef O I N n lk (.reg os) ((t, .fn f k vs) :: A) h Q) : Ef O I N n lk (.reg (⟨none, some t, .mf f k cs⟩ :: os)) A h Q :=
  ef_op (fun s hs => by simp only [evO, hs.xs hv]) ht hE
theorem ef_ix {ag : Option Nat} {sz len : Nat} {x i : MX} {cs : List MV} {kk : IntKind} {k : Int} {v : MV} (hx : XV A x (.agg cs)) (hi : XV A i (.lit (.int kk k))) (h0 : 0 ≤ k) (h1 : k < len) (hv : rdCells cs (k.toNat * sz) ag = some v) (hE : Ef O I N n lk (.reg os) ((t, v) :: A) h Q) : Ef O I N n lk (.reg (⟨none, some t, .ix ag sz len x i⟩ :: os)) A h Q :=
  ef_op (fun S HS => by simp only [evO, HS.x hx, HS.x hi, intOf?, h0, h1, and_self, if_true, hv, Option.map_some]) ht hE
theorem ef_mks {z : MV} {x : MX} {m : Int} (hx : XV A x (.lit (.int .i64 m))) (h0 : 0 ≤ m) (h1 : m ≤ 1000000) (hE : Ef O I N n lk (.reg os) ((t, .arr h.length 0 m.toNat 0) :: A) (h ++ [⟨0, false, z.cells.length, List.replicate m.toNat z⟩]) Q) : Ef O I N n lk (.reg (⟨none, some t, .mks z x⟩ :: os)) A h Q :=
  ef_op (fun S HS => by simp only [evO, HS.x hx, h0, h1, and_self, if_true]) ht hE
theorem ef_slcs {sz : Nat} {x y : MX} {lo : Option MX} {es : List MV} {k : IntKind} {l u : Int} (hx : XV A x (.sl es)) (hl : XLo A lo l) (hu : XV A y (.lit (.int k u))) (h0 : 0 ≤ l ∧ l ≤ u ∧ u ≤ es.length) (hs : es.all (fun e => e.cells.length == sz) = true)
    (hE : Ef O I N n lk (.reg os) ((t, .sl ((es.drop l.toNat).take (u - l).toNat)) :: A) h Q) : Ef O I N n lk (.reg (⟨none, some t, .slc sz x lo (some y)⟩ :: os)) A h Q :=
  ef_op (fun s hs' => by simp only [evO, hs'.x hx, hs'.lo hl, Option.map_some, hs'.x hu, intOf?, h0, hs, and_self, if_true]) ht hE
theorem ef_slcs1 {sz : Nat} {x : MX} {lo : Option MX} {es : List MV} {l : Int} (hx : XV A x (.sl es)) (hl : XLo A lo l) (h0 : 0 ≤ l ∧ l ≤ es.length) (hs : es.all (fun e => e.cells.length == sz) = true)
    (hE : Ef O I N n lk (.reg os) ((t, .sl (es.drop l.toNat)) :: A) h Q) : Ef O I N n lk (.reg (⟨none, some t, .slc sz x lo none⟩ :: os)) A h Q :=
  ef_op (fun s hs' => by simp only [evO, hs'.x hx, hs'.lo hl, Option.map_none, h0, hs, and_self, if_true]) ht hE
theorem ef_slca {sz : Nat} {x y : MX} {lo : Option MX} {id i m g : Nat} {k : IntKind} {l u : Int} (hx : XV A x (.arr id i m g)) (hl : XLo A lo l) (hu : XV A y (.lit (.int k u))) (h0 : 0 ≤ l ∧ l ≤ u ∧ u ≤ m) (hs : MHeap.ok h id g sz = true)
    (hE : Ef O I N n lk (.reg os) ((t, .arr id (i + l.toNat) (u - l).toNat g) :: A) h Q) : Ef O I N n lk (.reg (⟨none, some t, .slc sz x lo (some y)⟩ :: os)) A h Q :=
  ef_op (fun s hs' => by simp only [evO, hs'.x hx, hs'.lo hl, Option.map_some, hs'.x hu, intOf?, h0, hs, and_self, if_true]) ht hE
theorem ef_slca1 {sz : Nat} {x : MX} {lo : Option MX} {id i m g : Nat} {l : Int} (hx : XV A x (.arr id i m g)) (hl : XLo A lo l) (h0 : 0 ≤ l ∧ l ≤ m) (hs : MHeap.ok h id g sz = true)
    (hE : Ef O I N n lk (.reg os) ((t, .arr id (i + l.toNat) (m - l.toNat) g) :: A) h Q) : Ef O I N n lk (.reg (⟨none, some t, .slc sz x lo none⟩ :: os)) A h Q :=
  ef_op (fun s hs' => by simp only [evO, hs'.x hx, hs'.lo hl, Option.map_none, h0, hs, and_self, if_true]) ht hE
theorem ef_fap {off : Nat} {x : MX} {id i o g : Nat} (hx : XV A x (.ptr id i o g)) (hE : Ef O I N n lk (.reg os) ((t, .ptr id i (o + off) g) :: A) h Q) : Ef O I N n lk (.reg (⟨none, some t, .fa off x⟩ :: os)) A h Q :=
  ef_op (fun S HS => by simp only [evO, HS.x hx]) ht hE
theorem ef_far {off : Nat} {x : MX} {e : MV} {o : Nat} (hx : XV A x (.rp e o)) (hE : Ef O I N n lk (.reg os) ((t, .rp e (o + off)) :: A) h Q) : Ef O I N n lk (.reg (⟨none, some t, .fa off x⟩ :: os)) A h Q :=
  ef_op (fun S HS => by simp only [evO, HS.x hx]) ht hE
theorem ef_fd {off : Nat} {ag : Option Nat} {x : MX} {cs : List MV} {v : MV} (hx : XV A x (.agg cs)) (hv : rdCells cs off ag = some v) (hE : Ef O I N n lk (.reg os) ((t, v) :: A) h Q) : Ef O I N n lk (.reg (⟨none, some t, .fd off ag x⟩ :: os)) A h Q :=
  ef_op (fun S HS => by simp only [evO, HS.x hx, hv, Option.map_some]) ht hE
theorem ef_ias {sz : Nat} {x i : MX} {es : List MV} {kk : IntKind} {k : Int} {e : MV} (hx : XV A x (.sl es)) (hi : XV A i (.lit (.int kk k))) (h0 : 0 ≤ k) (he : es[k.toNat]? = some e) (hs : e.cells.length = sz) (hE : Ef O I N n lk (.reg os) ((t, .rp e 0) :: A) h Q) : Ef O I N n lk (.reg (⟨none, some t, .ia sz x i⟩ :: os)) A h Q :=
  ef_op (fun S HS => by simp only [evO, HS.x hx, HS.x hi, intOf?, h0, if_true, he, Option.bind_some, hs]) ht hE
theorem ef_iaa {sz : Nat} {x i : MX} {id j m g : Nat} {kk : IntKind} {k : Int} (hx : XV A x (.arr id j m g)) (hi : XV A i (.lit (.int kk k))) (h0 : 0 ≤ k) (h1 : k < m) (hs : MHeap.ok h id g sz = true) (hE : Ef O I N n lk (.reg os) ((t, .ptr id (j + k.toNat) 0 g) :: A) h Q) : Ef O I N n lk (.reg (⟨none, some t, .ia sz x i⟩ :: os)) A h Q :=
  ef_op (fun S HS => by simp only [evO, HS.x hx, HS.x hi, intOf?, h0, h1, hs, and_self, if_true]) ht hE
theorem ef_iaap {sz len : Nat} {x i : MX} {id j o g : Nat} {kk : IntKind} {k : Int} (hx : XV A x (.ptr id j o g)) (hi : XV A i (.lit (.int kk k))) (h0 : 0 ≤ k) (h1 : k < len) (hE : Ef O I N n lk (.reg os) ((t, .ptr id j (o + k.toNat * sz) g) :: A) h Q) : Ef O I N n lk (.reg (⟨none, some t, .iaa sz len x i⟩ :: os)) A h Q :=
  ef_op (fun S HS => by simp only [evO, HS.x hx, HS.x hi, intOf?, h0, h1, and_self, if_true]) ht hE
theorem ef_iaar {sz len : Nat} {x i : MX} {e : MV} {o : Nat} {kk : IntKind} {k : Int} (hx : XV A x (.rp e o)) (hi : XV A i (.lit (.int kk k))) (h0 : 0 ≤ k) (h1 : k < len) (hE : Ef O I N n lk (.reg os) ((t, .rp e (o + k.toNat * sz)) :: A) h Q) : Ef O I N n lk (.reg (⟨none, some t, .iaa sz len x i⟩ :: os)) A h Q :=
  ef_op (fun S HS => by simp only [evO, HS.x hx, HS.x hi, intOf?, h0, h1, and_self, if_true]) ht hE
theorem ef_ext {x : MX} {i : Nat} {vs : List MV} {v : MV} (hx : XV A x (.tup vs)) (hv : vs[i]? = some v) (hE : Ef O I N n lk (.reg os) ((t, v) :: A) h Q) : Ef O I N n lk (.reg (⟨none, some t, .ext x i⟩ :: os)) A h Q :=
  ef_op (fun S HS => by simp only [evO, HS.x hx, hv, Option.map_some]) ht hE
theorem ef_call {f : Nat} {as_ : List MX} {vs : List MV} {v : MV} {h1 : MHeap} (ha : XVs A as_ vs) (ho : O f vs h = some (v, h1)) (hE : Ef O I N n lk (.reg os) ((t, v) :: A) h1 Q) : Ef O I N n lk (.reg (⟨none, some t, .call f as_⟩ :: os)) A h Q :=
  ef_op (fun s hs => by simp only [evO, hs.xs ha, ho]) ht hE
theorem ef_callv {x : MX} {f k : Nat} {caps : List MV} {as_ : List MX} {us vs : List MV} {v : MV} {h1 : MHeap} (hx : XV A x (.fn f k caps)) (ha : XVs A as_ us) (hu : caps.take k ++ us ++ caps.drop k = vs) (ho : O f vs h = some (v, h1)) (hE : Ef O I N n lk (.reg os) ((t, v) :: A) h1 Q) : Ef O I N n lk (.reg (⟨none, some t, .callv x as_⟩ :: os)) A h Q :=
  ef_op (fun s hs => by simp only [evO, hs.x hx, hs.xs ha, hu, ho]) ht hE
theorem ef_len {x : MX} {v : MV} {m : Nat} (hx : XV A x v) (hm : v.slen = some m) (hE : Ef O I N n lk (.reg os) ((t, .lit (.int .i64 m)) :: A) h Q) : Ef O I N n lk (.reg (⟨none, some t, .len x⟩ :: os)) A h Q :=
  ef_op (fun S HS => by simp only [evO, HS.x hx, hm]) ht hE
theorem ef_app0 {sz : Nat} {s x : MX} {v : MV} {id i m g : Nat} {o : MObj} (hs : XV A s (.arr id i m g)) (hx : XV A x v) (hv : v.elems h = some []) (ho : h[id]? = some o) (hg : o.g = g) (hm : i + m = o.es.length) (hz : o.sz = sz)
    (hE : Ef O I N n lk (.reg os) ((t, .arr id i m g) :: A) h Q) : Ef O I N n lk (.reg (⟨none, some t, .app sz s x⟩ :: os)) A h Q :=
  ef_op (fun S HS => by simp only [evO, HS.x hs, HS.x hx, hv, ho, hg, hm, hz, and_self, if_true]) ht hE
theorem ef_app {sz : Nat} {s x : MX} {v : MV} {id i m g : Nat} {o : MObj} {e : MV} {xs : List MV} (hs : XV A s (.arr id i m g)) (hx : XV A x v) (hv : v.elems h = some (e :: xs)) (ho : h[id]? = some o) (hg : o.g = g) (hm : i + m = o.es.length) (hz : o.sz = sz) (hl : o.es.length + (e :: xs).length ≤ 1000000)
    (hk : (e :: xs).all (MV.sOk sz) = true) (hlk : lk id = false)
    (hE : Ef O I N n lk (.reg os) ((t, .arr id 0 (m + (e :: xs).length) (g + 1)) :: A) (h.set id ⟨g + 1, false, sz, o.es.drop i ++ (e :: xs)⟩) Q) : Ef O I N n lk (.reg (⟨none, some t, .app sz s x⟩ :: os)) A h Q :=
  ef_op (fun S HS => by simp only [evO, HS.x hs, HS.x hx, hv, ho, hg, hm, hz, hl, hk, hlk, and_self, if_true, reduceCtorEq, if_false]) ht hE
theorem ef_appn {sz : Nat} {s x : MX} {v : MV} {e : MV} {xs : List MV} (hs : XV A s (.lit (.slice none 0 0))) (hx : XV A x v) (hv : v.elems h = some (e :: xs)) (hl : (e :: xs).length ≤ 1000000)
    (hk : (e :: xs).all (MV.sOk sz) = true)
    (hE : Ef O I N n lk (.reg os) ((t, .arr h.length 0 (e :: xs).length 0) :: A) (h ++ [⟨0, false, sz, e :: xs⟩]) Q) : Ef O I N n lk (.reg (⟨none, some t, .app sz s x⟩ :: os)) A h Q :=
  ef_op (fun S HS => by simp only [evO, HS.x hs, HS.x hx, hv, hl, hk, and_self, if_true, reduceCtorEq, if_false]) ht hE
theorem ef_mx {x y : MX} {k k' : IntKind} {a b : Int} (hx : XV A x (.lit (.int k a))) (hy : XV A y (.lit (.int k' b))) (hE : Ef O I N n lk (.reg os) ((t, .lit (.int k (mx a b))) :: A) h Q) : Ef O I N n lk (.reg (⟨none, some t, .mx x y⟩ :: os)) A h Q :=
  ef_op (fun S HS => by simp only [evO, HS.x hx, HS.x hy]; rfl) ht hE
theorem ef_mn {x y : MX} {k k' : IntKind} {a b : Int} (hx : XV A x (.lit (.int k a))) (hy : XV A y (.lit (.int k' b))) (hE : Ef O I N n lk (.reg os) ((t, .lit (.int k (mn a b))) :: A) h Q) : Ef O I N n lk (.reg (⟨none, some t, .mn x y⟩ :: os)) A h Q :=
  ef_op (fun S HS => by simp only [evO, HS.x hx, HS.x hy]; rfl) ht hE
omit ht
theorem ef_st {sz : Nat} {a x : MX} {v : MV} {id i off g : Nat} {o : MObj} {e e' : MV} (hx : XV A x v) (hk : v.sOk sz = true) (ha : XV A a (.ptr id i off g)) (ho : h[id]? = some o) (hg : o.g = g) (hlk : lk id = false) (he : o.es[i]? = some e) (hw : wrElem e off v = some e')
    (hE : Ef O I N n lk (.reg os) A (h.set id { o with es := o.es.set i e' }) Q) : Ef O I N n lk (.reg (⟨none, none, .st sz a x⟩ :: os)) A h Q :=
  ef_op0 (v := .lit undef) (fun S HS => by simp only [evO, HS.x hx, hk, HS.x ha, ho, hg, hlk, he, hw, and_self, if_true]) hE
end

/-- A number that is in range. -/
theorem wrap_of {a : Int} (h1 : -9223372036854775808 ≤ a) (h2 : a ≤ 9223372036854775807) : IntKind.i64.wrap a = a := IntWalk.i64_in _ (by omega)
theorem bin_add {a b c : Int} (h : IntKind.i64.wrap (a + b) = c) : binI .add .i64 a b = some (.int .i64 c) := by rw [← h]; rfl
theorem bin_sub {a b c : Int} (h : IntKind.i64.wrap (a - b) = c) : binI .sub .i64 a b = some (.int .i64 c) := by rw [← h]; rfl
theorem bin_mul {a b c : Int} (h : IntKind.i64.wrap (a * b) = c) : binI .mul .i64 a b = some (.int .i64 c) := by rw [← h]; rfl
theorem rd_whole {cs : List MV} {m : Nat} (h : cs.length = m) : rdCells (MV.agg cs).cells 0 (some m) = some (.agg cs) := by
  subst h
  simp [rdCells, MV.cells]

theorem rd_sub {cs vs : List MV} {off m : Nat} (hl : vs.length = m) (hp : 0 < vs.length) (h : ∀ i, i < m → cs[off + i]? = vs[i]?) : rdCells cs off (some m) = some (.agg vs) := by
  subst hl
  have hle : off + vs.length ≤ cs.length := by
    have := h (vs.length - 1) (by omega)
    have h2 : vs[vs.length - 1]? = some (vs[vs.length - 1]'(by omega)) := List.getElem?_eq_getElem (by omega)
    rw [h2] at this
    have := (List.getElem?_eq_some_iff.1 this).1
    omega
  simp only [rdCells, if_pos hle]
  congr 2
  refine List.ext_getElem? fun i => ?_
  rw [List.getElem?_take]
  split
  · rename_i hi
    rw [List.getElem?_drop]; exact h i hi
  · rename_i hi
    rw [List.getElem?_eq_none (by omega)]
theorem rd_1 {cs : List MV} {off : Nat} {x0 : MV} (h0 : cs[off]? = some x0) : rdCells cs off (some 1) = some (.agg [x0]) :=
  rd_sub rfl (by simp) fun i hi => by
    match i, hi with
    | 0, _ => exact h0
theorem rd_2 {cs : List MV} {off : Nat} {x0 x1 : MV} (h0 : cs[off]? = some x0) (h1 : cs[off + 1]? = some x1) : rdCells cs off (some 2) = some (.agg [x0, x1]) :=
  rd_sub rfl (by simp) fun i hi => by
    match i, hi with
    | 0, _ => exact h0
    | 1, _ => exact h1
theorem rd_3 {cs : List MV} {off : Nat} {x0 x1 x2 : MV} (h0 : cs[off]? = some x0) (h1 : cs[off + 1]? = some x1) (h2 : cs[off + 2]? = some x2) : rdCells cs off (some 3) = some (.agg [x0, x1, x2]) :=
  rd_sub rfl (by simp) fun i hi => by
    match i, hi with
    | 0, _ => exact h0
    | 1, _ => exact h1
    | 2, _ => exact h2
theorem rd_4 {cs : List MV} {off : Nat} {x0 x1 x2 x3 : MV} (h0 : cs[off]? = some x0) (h1 : cs[off + 1]? = some x1) (h2 : cs[off + 2]? = some x2) (h3 : cs[off + 3]? = some x3) : rdCells cs off (some 4) = some (.agg [x0, x1, x2, x3]) :=
  rd_sub rfl (by simp) fun i hi => by
    match i, hi with
    | 0, _ => exact h0
    | 1, _ => exact h1
    | 2, _ => exact h2
    | 3, _ => exact h3
theorem rd_5 {cs : List MV} {off : Nat} {x0 x1 x2 x3 x4 : MV} (h0 : cs[off]? = some x0) (h1 : cs[off + 1]? = some x1) (h2 : cs[off + 2]? = some x2) (h3 : cs[off + 3]? = some x3) (h4 : cs[off + 4]? = some x4) : rdCells cs off (some 5) = some (.agg [x0, x1, x2, x3, x4]) :=
  rd_sub rfl (by simp) fun i hi => by
    match i, hi with
    | 0, _ => exact h0
    | 1, _ => exact h1
    | 2, _ => exact h2
    | 3, _ => exact h3
    | 4, _ => exact h4
theorem rd_6 {cs : List MV} {off : Nat} {x0 x1 x2 x3 x4 x5 : MV} (h0 : cs[off]? = some x0) (h1 : cs[off + 1]? = some x1) (h2 : cs[off + 2]? = some x2) (h3 : cs[off + 3]? = some x3) (h4 : cs[off + 4]? = some x4) (h5 : cs[off + 5]? = some x5) : rdCells cs off (some 6) = some (.agg [x0, x1, x2, x3, x4, x5]) :=
  rd_sub rfl (by simp) fun i hi => by
    match i, hi with
    | 0, _ => exact h0
    | 1, _ => exact h1
    | 2, _ => exact h2
    | 3, _ => exact h3
    | 4, _ => exact h4
    | 5, _ => exact h5
/-- Comparisons that are decided. -/
def cmpP : BinOp → Int → Int → Prop
  | .lss, a, b => a < b
  | .leq, a, b => a ≤ b
  | .gtr, a, b => b < a
  | .geq, a, b => b ≤ a
  | .eql, a, b => a = b
  | .neq, a, b => a ≠ b
  | _, _, _ => False
def isCmp : BinOp → Bool
  | .lss | .leq | .gtr | .geq | .eql | .neq => true
  | _ => false
theorem cmp_t {op : BinOp} {k : IntKind} {a b : Int} (hc : isCmp op = true) (h : cmpP op a b) : binI op k a b = some (.bool true) := by
  cases op <;> simp [isCmp] at hc <;> simp only [cmpP] at h <;> simp [binI, h]
theorem cmp_f {op : BinOp} {k : IntKind} {a b : Int} (hc : isCmp op = true) (h : ¬ cmpP op a b) : binI op k a b = some (.bool false) := by
  cases op <;> simp [isCmp] at hc <;> simp only [cmpP] at h <;> simp [binI] <;> omega
theorem cmp_lss_t {k : IntKind} {a b : Int} (h : a < b) : binI .lss k a b = some (.bool true) := by simp [binI, h]
theorem cmp_lss_f {k : IntKind} {a b : Int} (h : ¬ (a < b)) : binI .lss k a b = some (.bool false) := by simp [binI]; omega
theorem cmp_leq_t {k : IntKind} {a b : Int} (h : a ≤ b) : binI .leq k a b = some (.bool true) := by simp [binI, h]
theorem cmp_leq_f {k : IntKind} {a b : Int} (h : ¬ (a ≤ b)) : binI .leq k a b = some (.bool false) := by simp [binI]; omega
theorem cmp_gtr_t {k : IntKind} {a b : Int} (h : b < a) : binI .gtr k a b = some (.bool true) := by simp [binI]; omega
theorem cmp_gtr_f {k : IntKind} {a b : Int} (h : ¬ (b < a)) : binI .gtr k a b = some (.bool false) := by simp [binI]; omega
theorem cmp_geq_t {k : IntKind} {a b : Int} (h : b ≤ a) : binI .geq k a b = some (.bool true) := by simp [binI]; omega
theorem cmp_geq_f {k : IntKind} {a b : Int} (h : ¬ (b ≤ a)) : binI .geq k a b = some (.bool false) := by simp [binI]; omega
theorem cmp_eql_t {k : IntKind} {a b : Int} (h : a = b) : binI .eql k a b = some (.bool true) := by simp [binI, h]
theorem cmp_eql_f {k : IntKind} {a b : Int} (h : ¬ (a = b)) : binI .eql k a b = some (.bool false) := by simp [binI]; omega
theorem cmp_neq_t {k : IntKind} {a b : Int} (h : a ≠ b) : binI .neq k a b = some (.bool true) := by simp [binI, h]
theorem cmp_neq_f {k : IntKind} {a b : Int} (h : ¬ (a ≠ b)) : binI .neq k a b = some (.bool false) := by simp [binI]; omega

end Go.Proofs.Ytgjpdjihjphbdaa
