/- The examples that every law begins with. -/
import Derived.Laws.Bits64b
import Derived.Test.YtnmgpbihknjdjaaGreatDoorEveryBodyProofsPe
set_option linter.unusedVariables false
set_option linter.unusedSimpArgs false
/- Chapter 9: bodies: plain law. -/
namespace Go.Proofs.YtnmgpbihknjdjaaGreatDoor
open Go.RowKit
set_option linter.unusedVariables false
def sumV (w : List Nat) : List Int := w.foldr (fun s v => plusV s 0 v) [0, 0, 0, 0, 0]
theorem sumV_cons (s : Nat) (w : List Nat) : sumV (s :: w) = plusV s 0 (sumV w) := rfl
theorem sumV_len : ∀ w : List Nat, (sumV w).length = 5
 | [] => rfl
 | s :: w => by rw [sumV_cons, plusV_len, sumV_len w]
def RowsOk (R : List (Int × Int)) (m : Nat) (P : Nat → Nat → Bool) : Nat → List Nat → Prop
 | _, [] => True
 | c, s :: w => (s ∈ rowSets m (R.getD c (0, 0)).1 (R.getD c (0, 0)).2 ∧ P c s = true) ∧ RowsOk R m P (c + 1) w
theorem mem_nextL {P : Nat → Bool} {now : List (List Int)} {u : List Int} : ∀ (sets : List Nat) {l : List (List Int)}, u ∈ nextL P now sets l ↔ (∃ s ∈ sets, P s = true ∧ ∃ v ∈ now, u = plusV s 0 v) ∨ u ∈ l
 | [], l => by simp [nextL]
 | s :: sets, l => by
  have e : nextL P now (s :: sets) l = nextL P now sets (if P s then addAll (now.map (plusV s 0)) l else l) := rfl
  rw [e, mem_nextL sets]
  cases hP : P s
  ·simp only [Bool.false_eq_true, if_false, List.mem_cons]
   constructor
   ·rintro (⟨t, h1, h2⟩ | h)
    ·exact .inl ⟨t, .inr h1, h2⟩
    ·exact .inr h
   ·rintro (⟨t, h1, h2⟩ | h)
    ·rcases h1 with rfl | h1
     ·rw [hP] at h2; exact absurd h2.1 (by simp)
     ·exact .inl ⟨t, h1, h2⟩
    ·exact .inr h
  ·simp only [if_true, mem_addAll, List.mem_map, List.mem_cons]
   constructor
   ·rintro (⟨t, h1, h2⟩ | ⟨v, h1, rfl⟩ | h)
    ·exact .inl ⟨t, .inr h1, h2⟩
    ·exact .inl ⟨s, .inl rfl, hP, v, h1, rfl⟩
    ·exact .inr h
   ·rintro (⟨t, h1, h2, v, h3, rfl⟩ | h)
    ·rcases h1 with rfl | h1
     ·exact .inr (.inl ⟨v, h3, rfl⟩)
     ·exact .inl ⟨t, h1, h2, v, h3, rfl⟩
    ·exact .inr (.inr h)
theorem mem_reachL (R : List (Int × Int)) (m : Nat) (P : Nat → Nat → Bool) : ∀ (t : Nat), t ≤ R.length → ∀ u, u ∈ reachL R m P t ↔ ∃ w, w.length = t ∧ RowsOk R m P (R.length - t) w ∧ u = sumV w
 | 0, _, u => by
  simp only [reachL, List.mem_singleton]
  constructor
  ·rintro rfl; exact ⟨[], rfl, trivial, rfl⟩
  ·rintro ⟨w, h1, _, rfl⟩
   obtain rfl : w = [] := List.length_eq_zero_iff.1 h1
   rfl
 | t + 1, ht, u => by
  have e : R.length - 1 - t = R.length - (t + 1) := by omega
  have e2 : R.length - (t + 1) + 1 = R.length - t := by omega
  simp only [reachL, mem_nextL, e, List.not_mem_nil, or_false]
  constructor
  ·rintro ⟨s, h1, h2, v, h3, rfl⟩
   obtain ⟨w, k1, k2, rfl⟩ := (mem_reachL R m P t (by omega) v).1 h3
   exact ⟨s :: w, by simp [k1], ⟨⟨h1, h2⟩, by rw [e2]; exact k2⟩, rfl⟩
  ·rintro ⟨w, h1, h2, rfl⟩
   cases w with
   | nil => cases h1
   | cons s w =>
    obtain ⟨⟨k1, k2⟩, k3⟩ := h2
    rw [e2] at k3
    exact ⟨s, k1, k2, _, (mem_reachL R m P t (by omega) _).2 ⟨w, by simpa using h1, k3, rfl⟩, rfl⟩
abbrev anyP : Nat → Nat → Bool := fun _ _ => true
theorem RowsOk.split {R : List (Int × Int)} {m : Nat} {P : Nat → Nat → Bool} : ∀ {w : List Nat} {c : Nat}, RowsOk R m P c w ↔ RowsOk R m anyP c w ∧ ∀ (i s : Nat), w[i]? = some s → P (c + i) s = true
 | [], c => by simp [RowsOk]
 | s :: w, c => by
  simp only [RowsOk, RowsOk.split (w := w) (P := P), and_true]
  constructor
  ·rintro ⟨⟨h1, h2⟩, h3, h4⟩
   refine ⟨⟨h1, h3⟩, fun i x hx => ?_⟩
   cases i with
   | zero => simp at hx; subst hx; exact h2
   | succ i => have := h4 i x (by simpa using hx); rw [show c + (i + 1) = c + 1 + i by omega]; exact this
  ·rintro ⟨⟨h1, h3⟩, h4⟩
   refine ⟨⟨h1, by have := h4 0 s rfl; simpa using this⟩, h3, fun i x hx => ?_⟩
   have := h4 (i + 1) x (by simpa using hx)
   rw [show c + 1 + i = c + (i + 1) by omega]; exact this
theorem RowsOk.append {R : List (Int × Int)} {m : Nat} {P : Nat → Nat → Bool} : ∀ {w v : List Nat} {c : Nat}, RowsOk R m P c (w ++ v) ↔ RowsOk R m P c w ∧ RowsOk R m P (c + w.length) v
 | [], v, c => by simp [RowsOk]
 | s :: w, v, c => by
  simp only [List.cons_append, RowsOk, RowsOk.append (w := w), List.length_cons, and_assoc]
  rw [show c + (w.length + 1) = c + 1 + w.length by omega]
structure IsBody (R C : List (Int × Int)) (w : List Nat) : Prop where
 len : w.length = R.length
 rows : RowsOk R C.length anyP 0 w
 has : hasB C (sumV w) = true
theorem possB_iff {R C : List (Int × Int)} {P : Nat → Nat → Bool} : possB R C P = true ↔ ∃ w, IsBody R C w ∧ ∀ (i s : Nat), w[i]? = some s → P i s = true := by
 unfold possB
 rw [List.any_eq_true]
 constructor
 ·rintro ⟨u, h1, h2⟩
  obtain ⟨w, k1, k2, rfl⟩ := (mem_reachL R C.length P R.length (Nat.le_refl _) u).1 h1
  rw [Nat.sub_self, RowsOk.split] at k2
  exact ⟨w, ⟨k1, k2.1, h2⟩, fun i s hs => by have := k2.2 i s hs; simpa using this⟩
 ·rintro ⟨w, h, hP⟩
  refine ⟨sumV w, (mem_reachL R C.length P R.length (Nat.le_refl _) _).2 ⟨w, h.len, ?_, rfl⟩, h.has⟩
  rw [Nat.sub_self, RowsOk.split]
  exact ⟨h.rows, fun i s hs => by simpa using hP i s hs⟩
def allB (R C : List (Int × Int)) : Nat → List Nat → List (List Nat)
 | 0, p => if hasB C (sumV p) then [p] else []
 | t + 1, p => (rowSets C.length (R.getD p.length (0, 0)).1 (R.getD p.length (0, 0)).2).flatMap fun s => allB R C t (p ++ [s])
theorem mem_allB {R C : List (Int × Int)} : ∀ {t : Nat} {p w : List Nat}, w ∈ allB R C t p ↔ ∃ v, w = p ++ v ∧ v.length = t ∧ RowsOk R C.length anyP p.length v ∧ hasB C (sumV w) = true
 | 0, p, w => by
  simp only [allB]
  split
  ·rename_i h
   simp only [List.mem_singleton]
   constructor
   ·rintro rfl; exact ⟨[], by simp, rfl, trivial, h⟩
   ·rintro ⟨v, rfl, h1, _⟩
    obtain rfl : v = [] := List.length_eq_zero_iff.1 h1
    simp
  ·rename_i h
   simp only [List.not_mem_nil, false_iff]
   rintro ⟨v, rfl, h1, _, h2⟩
   obtain rfl : v = [] := List.length_eq_zero_iff.1 h1
   rw [List.append_nil] at h2
   exact h h2
 | t + 1, p, w => by
  simp only [allB, List.mem_flatMap, mem_allB (t := t)]
  constructor
  ·rintro ⟨s, h1, v, rfl, h2, h3, h4⟩
   refine ⟨s :: v, by simp, by simp [h2], ⟨⟨h1, rfl⟩, by simpa using h3⟩, h4⟩
  ·rintro ⟨v, rfl, h1, h2, h3⟩
   cases v with
   | nil => cases h1
   | cons s v =>
    obtain ⟨⟨k1, _⟩, k2⟩ := h2
    exact ⟨s, k1, v, by simp, by simpa using h1, by simpa using k2, h3⟩
theorem mem_all {R C : List (Int × Int)} {w : List Nat} : w ∈ allB R C R.length [] ↔ IsBody R C w := by
 rw [mem_allB]
 constructor
 ·rintro ⟨v, rfl, h1, h2, h3⟩
  exact ⟨h1, h2, h3⟩
 ·rintro ⟨h1, h2, h3⟩
  exact ⟨w, rfl, h1, h2, h3⟩
theorem poss_any {R C : List (Int × Int)} : possB R C anyP = true ↔ allB R C R.length [] ≠ [] := by
 rw [possB_iff]
 constructor
 ·rintro ⟨w, h, _⟩ e
  have := mem_all.2 h
  rw [e] at this; cases this
 ·intro h
  obtain ⟨w, hw⟩ := List.exists_mem_of_ne_nil _ h
  exact ⟨w, mem_all.1 hw, fun _ _ _ => rfl⟩
theorem poss_pre {R C : List (Int × Int)} {q : List Nat} (hq : RowsOk R C.length anyP 0 q) (hl : q.length ≤ R.length) : possB R C (prefP q) = true ↔ allB R C (R.length - q.length) q ≠ [] := by
 rw [possB_iff]
 constructor
 ·rintro ⟨w, h, hp⟩ e
  have hpre : w = q ++ w.drop q.length := by
   have h1 : w.take q.length = q := by
    refine List.ext_getElem? fun i => ?_
    rw [List.getElem?_take]
    split
    ·rename_i hi
     have hlw : i < w.length := by rw [h.len]; omega
     have h2 := hp i w[i] (by simp [hlw])
     unfold prefP at h2
     rw [List.getElem?_eq_getElem hi] at h2 ⊢
     rw [List.getElem?_eq_getElem hlw]
     simp only [beq_iff_eq] at h2
     rw [h2]
    ·rename_i hi
     rw [List.getElem?_eq_none (by omega)]
   rw [← h1]
   conv => lhs; rw [← List.take_append_drop q.length w]
   rw [h1]
  have hr := h.rows
  rw [hpre, RowsOk.append] at hr
  have : w ∈ allB R C (R.length - q.length) q := mem_allB.2 ⟨w.drop q.length, hpre, by rw [List.length_drop, h.len], by simpa using hr.2, h.has⟩
  rw [e] at this; cases this
 ·intro h
  obtain ⟨w, hw⟩ := List.exists_mem_of_ne_nil _ h
  obtain ⟨v, rfl, h1, h2, h3⟩ := mem_allB.1 hw
  refine ⟨q ++ v, ⟨by rw [List.length_append, h1]; omega, RowsOk.append.2 ⟨hq, by simpa using h2⟩, h3⟩, fun i s hs => ?_⟩
  unfold prefP
  split
  ·rfl
  ·rename_i x hx
   have hi := (List.getElem?_eq_some_iff.1 hx).1
   rw [List.getElem?_append_left hi, hx] at hs
   simp only [Option.some.injEq] at hs
   simp [hs]
theorem body_pre {R C : List (Int × Int)} (hne : allB R C R.length [] ≠ []) : ∀ i, i ≤ R.length → RowsOk R C.length anyP 0 (bodyB R C i) ∧ (allB R C (R.length - i) (bodyB R C i)).head? = (allB R C R.length []).head? ∧ (∀ j, j < i → (pickB R C (bodyB R C j) j).isSome = true)
 | 0, _ => ⟨trivial, rfl, fun j hj => by omega⟩
 | i + 1, hi => by
  obtain ⟨h1, h2, h3⟩ := body_pre hne i (by omega)
  have hl := bodyB_len R C i
  obtain ⟨t, ht⟩ : ∃ t, R.length - i = t + 1 := ⟨R.length - i - 1, by omega⟩
  have ht2 : R.length - (i + 1) = t := by omega
  rw [ht] at h2
  have hhead : ((allB R C (t + 1) (bodyB R C i)).head?).isSome = true := by
   rw [h2]
   cases h : allB R C R.length [] with
   | nil => exact absurd h hne
   | cons => rfl
  generalize hw : bodyB R C i = w at *
  simp only [allB, hl] at h2 hhead
  have hnext : bodyB R C (i + 1) = w ++ [(pickB R C w i).getD 0] := by rw [← hw]; rfl
  have hiff : ∀ s ∈ rowSets C.length (R.getD i (0, 0)).1 (R.getD i (0, 0)).2, (possB R C (prefP (w ++ [s])) = true ↔ allB R C t (w ++ [s]) ≠ []) := fun s hs => by
   have := poss_pre (R := R) (C := C) (q := w ++ [s]) (RowsOk.append.2 ⟨h1, ⟨⟨by simpa [hl] using hs, rfl⟩, trivial⟩⟩) (by simp [hl]; omega)
   rw [List.length_append, hl, List.length_singleton, ht2] at this
   exact this
  have hok : ∀ s ∈ rowSets C.length (R.getD i (0, 0)).1 (R.getD i (0, 0)).2, RowsOk R C.length anyP 0 (w ++ [s]) := fun s hs => RowsOk.append.2 ⟨h1, ⟨⟨by simpa [hl] using hs, rfl⟩, trivial⟩⟩
  have find : ∀ (l : List Nat), (∀ s ∈ l, s ∈ rowSets C.length (R.getD i (0, 0)).1 (R.getD i (0, 0)).2) → ((l.flatMap fun s => allB R C t (w ++ [s])).head?).isSome = true → ∃ s, s ∈ l ∧ l.find? (fun s => possB R C (prefP (w ++ [s]))) = some s ∧ (allB R C t (w ++ [s])).head? = (l.flatMap fun s => allB R C t (w ++ [s])).head? := by
   intro l
   induction l with
   | nil => intro _ h; simp at h
   | cons s l ih =>
    intro hm h
    rw [List.flatMap_cons] at h ⊢
    cases hA : allB R C t (w ++ [s]) with
    | nil =>
     rw [hA, List.nil_append] at h
     obtain ⟨s', k1, k2, k3⟩ := ih (fun x hx => hm x (List.mem_cons_of_mem _ hx)) h
     refine ⟨s', List.mem_cons_of_mem _ k1, ?_, by rw [List.nil_append]; exact k3⟩
     rw [List.find?_cons_of_neg]
     ·exact k2
     ·rw [hiff s (hm s (by simp)), hA]; simp
    | cons b bs =>
     refine ⟨s, by simp, ?_, by rw [hA]; rfl⟩
     rw [List.find?_cons_of_pos]
     rw [hiff s (hm s (by simp)), hA]; simp
  obtain ⟨s, k1, k2, k3⟩ := find _ (fun _ h => h) hhead
  have hpk : pickB R C w i = some s := k2
  rw [hnext, hpk, Option.getD_some, ht2]
  refine ⟨hok s k1, by rw [k3]; exact h2, fun j hj => ?_⟩
  by_cases e : j = i
  ·subst e; rw [hw, hpk]; rfl
  ·exact h3 j (by omega)
theorem body_first {R C : List (Int × Int)} (hne : allB R C R.length [] ≠ []) : (allB R C R.length []).head? = some (bodyB R C R.length) := by
 obtain ⟨_, h2, _⟩ := body_pre hne R.length (Nat.le_refl _)
 rw [Nat.sub_self] at h2
 simp only [allB] at h2
 split at h2
 ·rw [← h2]; rfl
 ·cases h : allB R C R.length [] with
  | nil => exact absurd h hne
  | cons => rw [h] at h2; cases h2
theorem body_picks {R C : List (Int × Int)} (hne : allB R C R.length [] ≠ []) : ∀ i, i < R.length → (pickB R C (bodyB R C i) i).isSome = true := (body_pre hne R.length (Nat.le_refl _)).2.2
end Go.Proofs.YtnmgpbihknjdjaaGreatDoor

/- Calendars: the first permitted date. -/
namespace Go.Proofs.YtnmgpbihknjdjaaGreatDoor
set_option linter.unusedVariables false
structure InvD (p : Int → Bool) (days frm d o : Int) : Prop where
 lo : frm ≤ d - o
 z : 0 ≤ o
 lt : o < days
 op : ∀ j, d - o ≤ j → j < d → p j = false
 st : d - o = frm ∨ p (d - o - 1) = true
structure HitD (p : Int → Bool) (days frm e : Int) : Prop where
 lo : frm ≤ e - days + 1
 op : ∀ j, e - days + 1 ≤ j → j ≤ e → p j = false
theorem InvD.next {p : Int → Bool} {days frm d o : Int} (h : InvD p days frm d o) (hd : 1 ≤ days) (hn : ¬ (if p d then 0 else o + 1) = days) : InvD p days frm (d + 1) (if p d then 0 else o + 1) := by
 obtain ⟨h1, h2, h3, h4, h5⟩ := h
 cases hp : p d
 ·rw [hp] at hn
  simp only [Bool.false_eq_true, if_false] at hn ⊢
  refine ⟨by omega, by omega, by omega, fun j a b => ?_, ?_⟩
  ·by_cases hj : j = d
   ·rw [hj, hp]
   ·exact h4 j (by omega) (by omega)
  ·rw [show d + 1 - (o + 1) = d - o by omega]; exact h5
 ·simp only [if_true]
  refine ⟨by omega, by omega, by omega, fun j a b => by omega, .inr ?_⟩
  rw [show d + 1 - 0 - 1 = d by omega, hp]
structure Cd where
 o : ByteArray
 f : Int
 t : Int
end Go.Proofs.YtnmgpbihknjdjaaGreatDoor

/- The best set of targets (plain laws). -/
namespace Go.Proofs.YtnmgpbihknjdjaaGreatDoor
set_option linter.unusedVariables false
structure Tg where
 nm : ByteArray
 c : Int
 s : Int
def tgI (l : List Tg) (i : Nat) : Tg := l.getD i ⟨ByteArray.empty, 0, 0⟩
def costL (l : List Tg) : List Nat → Int
 | [] => 0
 | i :: S => (tgI l i).c + costL l S
def scoreL (l : List Tg) : List Nat → Int
 | [] => 0
 | i :: S => (tgI l i).s + scoreL l S
def befL : List Nat → List Nat → Bool
 | _, [] => false
 | [], _ :: _ => true
 | a :: l, b :: m => if a = b then befL l m else decide (a < b)
theorem befL_irr : ∀ l : List Nat, befL l l = false
 | [] => rfl
 | a :: l => by simp [befL, befL_irr l]
structure BestS (l : List Tg) (B : Int) (N : Nat) (st : List Nat × Int) : Prop where
 set : ∃ X, X < N + 1 ∧ st.1 = mbL X
 cost : costL l st.1 ≤ B
 score : scoreL l st.1 = st.2
 most : ∀ X, X < N → costL l (mbL X) ≤ B → scoreL l (mbL X) ≤ st.2
end Go.Proofs.YtnmgpbihknjdjaaGreatDoor

/- Chapter 9: bodies: volumes, tops, cells, the order: plain law. -/
namespace Go.Proofs.YtnmgpbihknjdjaaGreatDoor
open Go.RowKit
set_option linter.unusedVariables false
def colS (w : List Nat) (k : Nat) : Int := (w.map fun s => bitI s k).sum
theorem colS_cons (s : Nat) (w : List Nat) (k : Nat) : colS (s :: w) k = bitI s k + colS w k := by simp [colS]
theorem colS_app (w v : List Nat) (k : Nat) : colS (w ++ v) k = colS w k + colS v k := by simp [colS]
theorem colS_le : ∀ (w : List Nat) (k : Nat), 0 ≤ colS w k ∧ colS w k ≤ w.length
 | [], k => by simp [colS]
 | s :: w, k => by
  rw [colS_cons]
  have h1 := colS_le w k
  have h2 := bitI_le s k
  simp only [List.length_cons]
  omega
theorem plusV_get (s : Nat) : ∀ (v : List Int) (i j : Nat), (plusV s i v)[j]? = (v[j]?).map (· + bitI s (i + j))
 | [], i, j => by simp [plusV]
 | x :: v, i, 0 => by simp [plusV]
 | x :: v, i, j + 1 => by
  simp only [plusV, List.getElem?_cons_succ, plusV_get s v (i + 1) j]
  rw [show i + 1 + j = i + (j + 1) by omega]
theorem sumV_get : ∀ (w : List Nat) (k : Nat), k < 5 → (sumV w)[k]? = some (colS w k)
 | [], k, h => by
  match k, h with
  | 0, _ => rfl
  | 1, _ => rfl
  | 2, _ => rfl
  | 3, _ => rfl
  | 4, _ => rfl
 | s :: w, k, h => by
  rw [sumV_cons, plusV_get, sumV_get w k h, colS_cons, Nat.zero_add]
  simp [Int.add_comm]
theorem sumV_eq (w : List Nat) : sumV w = [colS w 0, colS w 1, colS w 2, colS w 3, colS w 4] := by
 refine List.ext_getElem? fun k => ?_
 by_cases h : k < 5
 ·rw [sumV_get w k h]
  match k, h with
  | 0, _ => rfl
  | 1, _ => rfl
  | 2, _ => rfl
  | 3, _ => rfl
  | 4, _ => rfl
 ·rw [List.getElem?_eq_none (by rw [sumV_len]; omega), List.getElem?_eq_none (by simp; omega)]
theorem hasB_iff {C : List (Int × Int)} (hC : C.length ≤ 5) {w : List Nat} : hasB C (sumV w) = true ↔ ∀ (k : Nat) c, C[k]? = some c → c.1 ≤ colS w k ∧ colS w k ≤ c.2 := by
 unfold hasB
 rw [List.all_eq_true]
 constructor
 ·intro h k c hc
  have hk := (List.getElem?_eq_some_iff.1 hc).1
  have h2 : inB (colS w k) c.1 c.2 = true := h (c, colS w k) (List.mem_of_getElem? (i := k) (by rw [List.getElem?_zip_eq_some]; exact ⟨hc, sumV_get w k (by omega)⟩))
  exact of_decide_eq_true h2
 ·rintro h ⟨c, x⟩ hp
  obtain ⟨k, hk⟩ := List.getElem?_of_mem hp
  rw [List.getElem?_zip_eq_some] at hk
  obtain ⟨h1, h2⟩ := hk
  have hk5 := (List.getElem?_eq_some_iff.1 h1).1
  rw [sumV_get w k (by omega)] at h2
  cases h2
  show inB (colS w k) c.1 c.2 = true
  exact decide_eq_true (h k c h1)
theorem mem_rows {n : Nat} {lo hi : Int} {s : Nat} : s ∈ rowSets n lo hi ↔ s < 2 ^ n ∧ lo ≤ pc s ∧ (pc s : Int) ≤ hi := by
 unfold rowSets rowOk inB
 rw [List.mem_filter, List.mem_range, decide_eq_true_eq]
theorem rowsOk_iff {R : List (Int × Int)} {n : Nat} : ∀ {w : List Nat} {c : Nat}, RowsOk R n anyP c w ↔ ∀ (i s : Nat), w[i]? = some s → s < 2 ^ n ∧ (R.getD (c + i) (0, 0)).1 ≤ pc s ∧ (pc s : Int) ≤ (R.getD (c + i) (0, 0)).2
 | [], c => by simp [RowsOk]
 | s :: w, c => by
  simp only [RowsOk, rowsOk_iff (w := w), mem_rows, and_true]
  constructor
  ·rintro ⟨h1, h2⟩ i x hx
   cases i with
   | zero => simp at hx; subst hx; exact h1
   | succ i => have := h2 i x (by simpa using hx); rw [show c + (i + 1) = c + 1 + i by omega]; exact this
  ·intro h
   refine ⟨h 0 s rfl, fun i x hx => ?_⟩
   have := h (i + 1) x (by simpa using hx)
   rw [show c + 1 + i = c + (i + 1) by omega]; exact this
theorem isBody_iff {R C : List (Int × Int)} (hC : C.length ≤ 5) {w : List Nat} : IsBody R C w ↔ w.length = R.length ∧ (∀ (i s : Nat) r, w[i]? = some s → R[i]? = some r → s < 2 ^ C.length ∧ r.1 ≤ pc s ∧ (pc s : Int) ≤ r.2) ∧ ∀ (k : Nat) c, C[k]? = some c → c.1 ≤ colS w k ∧ colS w k ≤ c.2 := by
 constructor
 ·rintro ⟨h1, h2, h3⟩
  refine ⟨h1, fun i s r hs hr => ?_, (hasB_iff hC).1 h3⟩
  have := rowsOk_iff.1 h2 i s hs
  rw [Nat.zero_add, List.getD_eq_getElem?_getD, hr] at this
  exact this
 ·rintro ⟨h1, h2, h3⟩
  refine ⟨h1, rowsOk_iff.2 fun i s hs => ?_, (hasB_iff hC).2 h3⟩
  have hi : i < R.length := by rw [← h1]; exact (List.getElem?_eq_some_iff.1 hs).1
  have := h2 i s R[i] hs (by simp [hi])
  rw [Nat.zero_add, List.getD_eq_getElem?_getD, List.getElem?_eq_getElem hi]
  exact this
def volS (w : List Nat) : Int := (sumV w).sum
theorem bits_sum : ∀ s : Nat, s < 32 → bitI s 0 + bitI s 1 + bitI s 2 + bitI s 3 + bitI s 4 = (pc s : Nat) := by decide
def volL (R C : List (Int × Int)) : List Int := ((reachL R C.length anyP R.length).filter (hasB C)).map List.sum
theorem mem_volL {R C : List (Int × Int)} {x : Int} : x ∈ volL R C ↔ ∃ w, IsBody R C w ∧ x = volS w := by
 unfold volL
 rw [List.mem_map]
 constructor
 ·rintro ⟨u, h1, rfl⟩
  rw [List.mem_filter, mem_reachL R C.length anyP R.length (Nat.le_refl _)] at h1
  obtain ⟨⟨w, k1, k2, rfl⟩, h2⟩ := h1
  rw [Nat.sub_self] at k2
  exact ⟨w, ⟨k1, k2, h2⟩, rfl⟩
 ·rintro ⟨w, h, rfl⟩
  refine ⟨sumV w, ?_, rfl⟩
  rw [List.mem_filter, mem_reachL R C.length anyP R.length (Nat.le_refl _)]
  exact ⟨⟨w, h.len, by rw [Nat.sub_self]; exact h.rows, rfl⟩, h.has⟩
def mnL : List Int → Int
 | [] => 0
 | x :: l => l.foldl (fun a b => if b < a then b else a) x
def mxL : List Int → Int
 | [] => 0
 | x :: l => l.foldl (fun a b => if a < b then b else a) x
theorem mn_fold : ∀ (l : List Int) (a : Int), (l.foldl (fun a b => if b < a then b else a) a ∈ a :: l) ∧ ∀ x ∈ a :: l, l.foldl (fun a b => if b < a then b else a) a ≤ x
 | [], a => by simp
 | b :: l, a => by
  have h := mn_fold l (if b < a then b else a)
  rw [List.foldl_cons]
  generalize l.foldl (fun a b => if b < a then b else a) (if b < a then b else a) = m at *
  obtain ⟨h1, h2⟩ := h
  refine ⟨?_, fun x hx => ?_⟩
  ·rcases List.mem_cons.1 h1 with h | h
   ·rw [h]; split <;> simp
   ·simp [h]
  ·have h3 := h2 _ (List.mem_cons_self)
   rcases List.mem_cons.1 hx with rfl | hx
   ·split at h3 <;> omega
   ·rcases List.mem_cons.1 hx with rfl | hx
    ·split at h3 <;> omega
    ·exact h2 x (List.mem_cons_of_mem _ hx)
theorem mx_fold : ∀ (l : List Int) (a : Int), (l.foldl (fun a b => if a < b then b else a) a ∈ a :: l) ∧ ∀ x ∈ a :: l, x ≤ l.foldl (fun a b => if a < b then b else a) a
 | [], a => by simp
 | b :: l, a => by
  have h := mx_fold l (if a < b then b else a)
  rw [List.foldl_cons]
  generalize l.foldl (fun a b => if a < b then b else a) (if a < b then b else a) = m at *
  obtain ⟨h1, h2⟩ := h
  refine ⟨?_, fun x hx => ?_⟩
  ·rcases List.mem_cons.1 h1 with h | h
   ·rw [h]; split <;> simp
   ·simp [h]
  ·have h3 := h2 _ (List.mem_cons_self)
   rcases List.mem_cons.1 hx with rfl | hx
   ·split at h3 <;> omega
   ·rcases List.mem_cons.1 hx with rfl | hx
    ·split at h3 <;> omega
    ·exact h2 x (List.mem_cons_of_mem _ hx)
theorem mn_mem {l : List Int} (h : l ≠ []) : mnL l ∈ l ∧ ∀ x ∈ l, mnL l ≤ x := by
 cases l with
 | nil => exact absurd rfl h
 | cons a l => exact mn_fold l a
theorem mx_mem {l : List Int} (h : l ≠ []) : mxL l ∈ l ∧ ∀ x ∈ l, x ≤ mxL l := by
 cases l with
 | nil => exact absurd rfl h
 | cons a l => exact mx_fold l a
theorem mn_ext {l m : List Int} (h : l ≠ []) (he : ∀ x, x ∈ l ↔ x ∈ m) : mnL l = mnL m := by
 have hm : m ≠ [] := fun e => by
  obtain ⟨x, hx⟩ := List.exists_mem_of_ne_nil _ h
  rw [he, e] at hx; cases hx
 obtain ⟨a1, a2⟩ := mn_mem h
 obtain ⟨b1, b2⟩ := mn_mem hm
 have := a2 _ ((he _).2 b1)
 have := b2 _ ((he _).1 a1)
 omega
theorem mx_ext {l m : List Int} (h : l ≠ []) (he : ∀ x, x ∈ l ↔ x ∈ m) : mxL l = mxL m := by
 have hm : m ≠ [] := fun e => by
  obtain ⟨x, hx⟩ := List.exists_mem_of_ne_nil _ h
  rw [he, e] at hx; cases hx
 obtain ⟨a1, a2⟩ := mx_mem h
 obtain ⟨b1, b2⟩ := mx_mem hm
 have := a2 _ ((he _).2 b1)
 have := b2 _ ((he _).1 a1)
 omega
def topW : List Nat → Nat
 | [] => 0
 | s :: w => if s = 0 then topW w + 1 else 0
theorem topW_le : ∀ w : List Nat, topW w ≤ w.length
 | [] => Nat.le_refl _
 | s :: w => by
  simp only [topW, List.length_cons]
  have := topW_le w
  split <;> omega
def topP (top row set : Nat) : Bool := decide (top < row) || (decide (row = top) == decide (set ≠ 0))
theorem topP_iff : ∀ {w : List Nat} {top : Nat}, top ≤ w.length → ((∀ (i s : Nat), w[i]? = some s → topP top i s = true) ↔ topW w = top)
 | [], top, h => by
  have : top = 0 := by simpa using h
  subst this
  simp [topW]
 | s :: w, 0, _ => by
  constructor
  ·intro h
   have := h 0 s rfl
   simp only [topP, Nat.lt_irrefl, decide_false, Bool.false_or, decide_true] at this
   simp only [topW]
   by_cases e : s = 0
   ·subst e; simp at this
   ·simp [e]
  ·intro h i x hx
   simp only [topW] at h
   split at h
   ·omega
   ·rename_i hs
    cases i with
    | zero => simp at hx; subst hx; simp [topP, hs]
    | succ i => simp [topP]
 | s :: w, top + 1, h => by
  have ih := topP_iff (w := w) (top := top) (by simpa using h)
  constructor
  ·intro h2
   have h0 := h2 0 s rfl
   have hs : s = 0 := by
    simp only [topP] at h0
    by_cases e : s = 0
    ·exact e
    ·simp [e] at h0
   simp only [topW, hs, if_true]
   congr 1
   refine ih.1 fun i x hx => ?_
   have := h2 (i + 1) x (by simpa using hx)
   simpa [topP] using this
  ·intro h2 i x hx
   simp only [topW] at h2
   split at h2
   ·rename_i hs
    cases i with
    | zero => simp at hx; subst hx; simp [topP, hs]
    | succ i =>
     have := ih.2 (by omega) i x (by simpa using hx)
     simpa [topP] using this
   ·omega
def topL (R C : List (Int × Int)) : List Nat := (List.range (R.length + 1)).filter fun top => possB R C (topP top)
theorem mem_topL {R C : List (Int × Int)} {t : Nat} : t ∈ topL R C ↔ ∃ w, IsBody R C w ∧ topW w = t := by
 unfold topL
 rw [List.mem_filter, List.mem_range, possB_iff]
 constructor
 ·rintro ⟨h1, w, h2, h3⟩
  exact ⟨w, h2, (topP_iff (by rw [h2.len]; omega)).1 h3⟩
 ·rintro ⟨w, h2, rfl⟩
  have := topW_le w
  rw [h2.len] at this
  exact ⟨by omega, w, h2, (topP_iff (by rw [h2.len]; omega)).2 rfl⟩
def sumBits (f : Nat → Bool) : Nat → Nat
 | 0 => 0
 | n + 1 => sumBits f n + if f n then 2 ^ n else 0
theorem sumBits_lt (f : Nat → Bool) : ∀ n, sumBits f n < 2 ^ n
 | 0 => by simp [sumBits]
 | n + 1 => by
  have h := sumBits_lt f n
  simp only [sumBits]
  have : 2 ^ (n + 1) = 2 ^ n + 2 ^ n := by rw [Nat.pow_succ]; omega
  split <;> omega
theorem testBit_sumBits (f : Nat → Bool) : ∀ n k, (sumBits f n).testBit k = (decide (k < n) && f k)
 | 0, k => by simp [sumBits]
 | n + 1, k => by
  have hlt := sumBits_lt f n
  have ih := testBit_sumBits f n k
  simp only [sumBits]
  split
  ·rename_i hf
   have h2 := Nat.two_pow_add_eq_or_of_lt hlt 1
   rw [Nat.mul_one] at h2
   rw [Nat.add_comm, h2, Nat.testBit_or, ih, Nat.testBit_two_pow]
   by_cases e : n = k
   ·subst e; simp [hf]
   ·have : decide (k < n + 1) = decide (k < n) := by rw [decide_eq_decide]; omega
    simp [e, this]
  ·rename_i hf
   rw [Nat.add_zero, ih]
   by_cases e : n = k
   ·subst e; simp [hf]
   ·have : decide (k < n + 1) = decide (k < n) := by rw [decide_eq_decide]; omega
    rw [this]
def cellP (at_ k : Nat) (d : Bool) (row set : Nat) : Bool := decide (row ≠ at_) || (set.testBit k == d)
theorem cell_iff {R C : List (Int × Int)} {at_ k : Nat} {d : Bool} (ha : at_ < R.length) : possB R C (cellP at_ k d) = true ↔ ∃ w, IsBody R C w ∧ (w.getD at_ 0).testBit k = d := by
 rw [possB_iff]
 constructor
 ·rintro ⟨w, h1, h2⟩
  have hl : at_ < w.length := by rw [h1.len]; exact ha
  have := h2 at_ w[at_] (by simp [hl])
  refine ⟨w, h1, ?_⟩
  rw [List.getD_eq_getElem?_getD, List.getElem?_eq_getElem hl, Option.getD_some]
  simpa [cellP] using this
 ·rintro ⟨w, h1, h2⟩
  refine ⟨w, h1, fun i s hs => ?_⟩
  unfold cellP
  by_cases e : i = at_
  ·subst e
   rw [List.getD_eq_getElem?_getD, hs, Option.getD_some] at h2
   simp [h2]
  ·simp [e]
def alwB (R C : List (Int × Int)) (at_ : Nat) : Nat := sumBits (fun k => !possB R C (cellP at_ k false)) C.length
def nevB (R C : List (Int × Int)) (at_ : Nat) : Nat := sumBits (fun k => !possB R C (cellP at_ k true)) C.length
theorem alw_tb {R C : List (Int × Int)} {at_ : Nat} (ha : at_ < R.length) (k : Nat) : (alwB R C at_).testBit k = true ↔ k < C.length ∧ ∀ w, IsBody R C w → (w.getD at_ 0).testBit k = true := by
 unfold alwB
 rw [testBit_sumBits, Bool.and_eq_true, decide_eq_true_eq, Bool.not_eq_true', Bool.eq_false_iff, Ne, cell_iff ha]
 constructor
 ·rintro ⟨h1, h2⟩
  refine ⟨h1, fun w hw => ?_⟩
  cases h : (w.getD at_ 0).testBit k
  ·exact absurd ⟨w, hw, h⟩ h2
  ·rfl
 ·rintro ⟨h1, h2⟩
  refine ⟨h1, fun ⟨w, hw, h⟩ => ?_⟩
  rw [h2 w hw] at h; cases h
theorem nev_tb {R C : List (Int × Int)} {at_ : Nat} (ha : at_ < R.length) (k : Nat) : (nevB R C at_).testBit k = true ↔ k < C.length ∧ ∀ w, IsBody R C w → (w.getD at_ 0).testBit k = false := by
 unfold nevB
 rw [testBit_sumBits, Bool.and_eq_true, decide_eq_true_eq, Bool.not_eq_true', Bool.eq_false_iff, Ne, cell_iff ha]
 constructor
 ·rintro ⟨h1, h2⟩
  refine ⟨h1, fun w hw => ?_⟩
  cases h : (w.getD at_ 0).testBit k
  ·rfl
  ·exact absurd ⟨w, hw, h⟩ h2
 ·rintro ⟨h1, h2⟩
  refine ⟨h1, fun ⟨w, hw, h⟩ => ?_⟩
  rw [h2 w hw] at h; cases h
theorem alw_and {R C : List (Int × Int)} {w : List Nat} (hw : IsBody R C w) {i : Nat} (hi : i < R.length) : alwB R C i &&& w.getD i 0 = alwB R C i := by
 refine Nat.eq_of_testBit_eq fun k => ?_
 rw [Nat.testBit_and]
 cases h : (alwB R C i).testBit k
 ·rfl
 ·rw [((alw_tb hi k).1 h).2 w hw]; rfl
theorem nev_and {R C : List (Int × Int)} {w : List Nat} (hw : IsBody R C w) {i : Nat} (hi : i < R.length) : nevB R C i &&& w.getD i 0 = 0 := by
 refine Nat.eq_of_testBit_eq fun k => ?_
 rw [Nat.testBit_and, Nat.zero_testBit]
 cases h : (nevB R C i).testBit k
 ·rfl
 ·rw [((nev_tb hi k).1 h).2 w hw]; rfl
theorem befL_app : ∀ (p v w : List Nat), befL (p ++ v) (p ++ w) = befL v w
 | [], _, _ => rfl
 | a :: p, v, w => by simp [befL, befL_app p v w]
theorem befL_step {a b : Nat} {v w : List Nat} (h : b < a) : befL (a :: v) (b :: w) = false := by
 simp only [befL]
 rw [if_neg (by omega)]
 simp; omega
theorem allB_first {R C : List (Int × Int)} : ∀ (t : Nat) (p w f : List Nat), (allB R C t p).head? = some f → w ∈ allB R C t p → befL w f = false
 | 0, p, w, f, hf, hw => by
  simp only [allB] at hf hw
  split at hf
  ·rename_i h
   rw [if_pos h] at hw
   simp only [List.head?_cons, Option.some.injEq] at hf
   rw [List.mem_singleton.1 hw, hf]
   exact befL_irr _
  ·cases hf
 | t + 1, p, w, f, hf, hw => by
  simp only [allB] at hf hw
  have srt : ∀ (l : List Nat), l.Pairwise (· < ·) → (l.flatMap fun s => allB R C t (p ++ [s])).head? = some f → w ∈ (l.flatMap fun s => allB R C t (p ++ [s])) → befL w f = false := by
   intro l
   induction l with
   | nil => intro _ h; cases h
   | cons s l ih =>
    intro hp h1 h2
    rw [List.pairwise_cons] at hp
    rw [List.flatMap_cons] at h1 h2
    cases hA : allB R C t (p ++ [s]) with
    | nil =>
     rw [hA, List.nil_append] at h1 h2
     exact ih hp.2 h1 h2
    | cons b bs =>
     have hb : (allB R C t (p ++ [s])).head? = some f := by
      rw [hA] at h1 ⊢
      exact h1
     rw [List.mem_append] at h2
     rcases h2 with h2 | h2
     ·exact allB_first t (p ++ [s]) w f hb h2
     ·rw [List.mem_flatMap] at h2
      obtain ⟨s', k1, k2⟩ := h2
      obtain ⟨v, rfl, -⟩ := mem_allB.1 k2
      have hfm : f ∈ allB R C t (p ++ [s]) := List.mem_of_mem_head? (by rw [hb]; rfl)
      obtain ⟨v', rfl, -⟩ := mem_allB.1 hfm
      rw [List.append_assoc, List.append_assoc, befL_app]
      exact befL_step (hp.1 s' k1)
  refine srt _ ?_ hf hw
  exact List.Pairwise.filter _ List.pairwise_lt_range
theorem first_first {R C : List (Int × Int)} {w : List Nat} (hw : IsBody R C w) : befL w (bodyB R C R.length) = false := by
 have hm := mem_all.2 hw
 have hne : allB R C R.length [] ≠ [] := fun e => by rw [e] at hm; cases hm
 exact allB_first _ _ _ _ (body_first hne) hm
theorem first_body {R C : List (Int × Int)} (hp : possB R C anyP = true) : IsBody R C (bodyB R C R.length) := by
 have hne := poss_any.1 hp
 exact mem_all.1 (List.mem_of_mem_head? (by rw [body_first hne]; rfl))
end Go.Proofs.YtnmgpbihknjdjaaGreatDoor

/- Chapter 9: exact shadows, other cells, rows and columns exchanged: plain law. -/
namespace Go.Proofs.YtnmgpbihknjdjaaGreatDoor
open Go.RowKit
set_option linter.unusedVariables false
def exR (w : List Nat) : List (Int × Int) := w.map fun s => ((pc s : Int), (pc s : Int))
def exC (n : Nat) (w : List Nat) : List (Int × Int) := (List.range n).map fun k => (colS w k, colS w k)
theorem exact_body {n : Nat} {w : List Nat} (hn : n ≤ 5) (hw : ∀ s ∈ w, s < 2 ^ n) : IsBody (exR w) (exC n w) w := by
 have hl : (exC n w).length = n := by simp [exC]
 refine (isBody_iff (by omega)).2 ⟨by simp [exR], fun i s r hs hr => ?_, fun k c hc => ?_⟩
 ·simp only [exR, List.getElem?_map, hs, Option.map_some, Option.some.injEq] at hr
  subst hr
  rw [hl]
  exact ⟨hw s (List.mem_of_getElem? hs), Int.le_refl _, Int.le_refl _⟩
 ·simp only [exC, List.getElem?_map, Option.map_eq_some_iff] at hc
  obtain ⟨a, h1, rfl⟩ := hc
  have : a = k := by
   have h2 := (List.getElem?_eq_some_iff.1 h1).2
   simpa using h2.symm
  subst this
  exact ⟨Int.le_refl _, Int.le_refl _⟩
theorem pc_bits : ∀ n, n < 6 → ∀ s, s < 32 → s < 2 ^ n → pc s ≤ n ∧ pc (2 ^ n - 1 - s) = n - pc s ∧ 2 ^ n - 1 - s < 32 := by decide
theorem hi_bit : ∀ n, n < 6 → ∀ s, s < 32 → s < 2 ^ n → ∀ k, k < 5 → n ≤ k → bitI s k = 0 := by decide
theorem lt_pow5 {n s : Nat} (hn : n ≤ 5) (h : s < 2 ^ n) : s < 32 := by have := pow_le5 n hn; omega
theorem IsBody.lt {R C : List (Int × Int)} (hC : C.length ≤ 5) {w : List Nat} (h : IsBody R C w) : ∀ s ∈ w, s < 2 ^ C.length := fun s hs => by
 obtain ⟨i, hi⟩ := List.getElem?_of_mem hs
 have hl : i < R.length := by rw [← h.len]; exact (List.getElem?_eq_some_iff.1 hi).1
 exact (((isBody_iff hC).1 h).2.1 i s R[i] hi (by simp [hl])).1
theorem sumBits_lt32 (f : Nat → Bool) {m : Nat} (hm : m ≤ 5) : sumBits f m < 32 := by
 have h1 := sumBits_lt f m
 have h2 := pow_le5 m hm
 omega
end Go.Proofs.YtnmgpbihknjdjaaGreatDoor

/- Chapter 9: all bodies, one after the other, without those that cannot be: plain law. -/
namespace Go.Proofs.YtnmgpbihknjdjaaGreatDoor
open Go.RowKit
set_option linter.unusedVariables false
theorem getD_some {α : Type} {l : List α} {k : Nat} {c d : α} (h : l[k]? = some c) : l.getD k d = c := by rw [List.getD_eq_getElem?_getD, h]; rfl
theorem mnL_app {l : List Int} (h : l ≠ []) (x : Int) : mnL (l ++ [x]) = if x < mnL l then x else mnL l := by
 cases l with
 | nil => exact absurd rfl h
 | cons a l => unfold mnL; rw [List.cons_append]; simp only [List.foldl_append, List.foldl_cons, List.foldl_nil]
theorem mxL_app {l : List Int} (h : l ≠ []) (x : Int) : mxL (l ++ [x]) = if mxL l < x then x else mxL l := by
 cases l with
 | nil => exact absurd rfl h
 | cons a l => unfold mxL; rw [List.cons_append]; simp only [List.foldl_append, List.foldl_cons, List.foldl_nil]
end Go.Proofs.YtnmgpbihknjdjaaGreatDoor

/- Contracts: names. -/
namespace Go.Proofs.YtnmgpbihknjdjaaGreatDoor
open Go.RowKit
set_option linter.unusedVariables false
end Go.Proofs.YtnmgpbihknjdjaaGreatDoor

/- Contracts: names, as the document says. -/
namespace Go.Proofs.YtnmgpbihknjdjaaGreatDoor
open Go.RowKit
set_option linter.unusedVariables false
end Go.Proofs.YtnmgpbihknjdjaaGreatDoor

/- The first item that is not valid (plain). -/
namespace Go.Proofs.YtnmgpbihknjdjaaGreatDoor
set_option linter.unusedVariables false
def firG {α : Type} (G : Nat → α → Int) : Nat → List α → Int × Int
 | _, [] => (0, 0)
 | i, c :: l => if G i c = 0 then firG G (i + 1) l else (i, G i c)
theorem firG_ok {α : Type} {G : Nat → α → Int} : ∀ {l : List α} {i : Nat}, (firG G i l).2 = 0 → ∀ (j : Nat) (h : j < l.length), G (i + j) l[j] = 0
 | [], _, _, j, h => absurd h (Nat.not_lt_zero _)
 | c :: l, i, hz, j, h => by
  rw [firG] at hz
  split at hz
  ·rename_i h0
   cases j with
   | zero => exact h0
   | succ j =>
    have := firG_ok hz j (by simpa using h)
    rw [show i + (j + 1) = i + 1 + j by omega]
    exact this
  ·rename_i h0; exact absurd hz h0
end Go.Proofs.YtnmgpbihknjdjaaGreatDoor

/- Contracts: calendars. -/
namespace Go.Proofs.YtnmgpbihknjdjaaGreatDoor
open Go.RowKit
set_option linter.unusedVariables false
end Go.Proofs.YtnmgpbihknjdjaaGreatDoor

/- Chapter 9: which shadows are valid. -/
namespace Go.Proofs.YtnmgpbihknjdjaaGreatDoor
open Go.RowKit
set_option linter.unusedVariables false
theorem mf_eachRg : MT.mf 141 = some ⟨25, [(.tmp 4), (.tmp 5)], (.seq (.reg [gO 4 (.mv (cI 0)), gO 5 (.mv (cI 0))]) (.seq (.seq (.reg [gO 9 (.mv (.s 0)), gO 10 (.len (.s 9)), gO 11 (.mv (cI 0))]) (.block 0 (.loop [11, 10, 9, 1] (.seq (.reg [gO 12 (.bin .lss (.s 11) (.s 10))]) (.seq (.cond (.s 12) .skip (.exit 0)) (.seq (.block 1 (.seq (.reg [gO 13 (.mv (.s 11)), gO 14 (.ia 2 (.s 9) (.s 11)), gO 15 (.ld (some 2) (.s 14)), gO 7 (.new (.agg [(.lit (.int .i64 0)), (.lit (.int .i64 0))])), gO 6 (.mv (.s 13)), ⟨none, none, .st 2 (.s 7) (.s 15)⟩]) (.seq (.reg [gO 16 (.mv (.s 1)), gO 17 (.mv (.s 6)), gO 18 (.ld (some 2) (.s 7)), gO 19 (.callv (.s 16) [.s 17, .s 18]), gO 8 (.mv (.s 19))]) (.seq (.reg [gO 20 (.mv (.s 8)), gO 21 (.bin .neq (.s 20) (cI 0))]) (.cond (.s 21) (.seq (.reg [gO 22 (.mv (.s 6)), gO 23 (.mv (.s 8)), gO 4 (.mv (.s 22)), gO 5 (.mv (.s 23))]) .ret) .skip))))) (.reg [gO 24 (.bin .add (.s 11) (cI 1)), gO 11 (.mv (.s 24))]))))))) (.seq (.reg [gO 4 (.mv (cI 0)), gO 5 (.mv (cI 0))]) .ret)))⟩ := by kernel_rfl
theorem eachRg_z (k g : Nat) (caps : List MV) (G : Nat → (Int × Int) → Int) (zs : List (Int × Int)) (hx : zs.length ≤ 1000) (hcl : ltL 0 caps = true) (hg : ∀ (i : Nat) (hi : i < zs.length) h, orA k g (I64 (i : Int) :: encP zs[i] :: caps) h = some (I64 (G i zs[i]), h)) :
  runZ MT (orA k) (itA k) 4000000 141 [.sl (zs.map encP), .fn g 0 caps] [] = some (.tup [I64 (firG G 0 zs).1, I64 (firG G 0 zs).2], []) := by
 have hl : (MV.sl (zs.map encP)).slen = some zs.length := by simp [MV.slen]
 refine runZ_of mf_eachRg (by simp) ?_
 simp only [argsL]
 repeat (first | apply ef_seq | (apply ef_mv; exact rfl; exact rfl) | (apply ef_len; exact rfl; exact rfl; (assumption)) | apply ef_nil | apply seqQ.normal | apply ef_block)
 refine ef_loopf (α := Nat) (fun i => i ≤ zs.length ∧ firG G 0 zs = firG G i (zs.drop i)) (fun i => [(11, I64 (i : Int))]) [(10, I64 (zs.length : Int)), (9, .sl (zs.map encP)), (1, .fn g 0 caps)] (fun _ => []) (fun i => zs.length - i) 0 [11] (fun _ => rfl) (by ((repeat (refine Hold.cons (by exact rfl) ?_)); exact Hold.nil)) (by ((repeat (refine Hold.cons (by exact rfl) ?_)); exact Hold.nil)) rfl rfl ⟨by omega, rfl⟩ (by simp; omega) ?_
 rintro i ⟨hi, hz⟩
 by_cases hlt : i < zs.length
 ·have e1 := at_map encP zs i hlt
  have HD := Lib.hid (drop_at zs i hlt)
  have HZ := Lib.hid hz
  have hg1 := hg i hlt
  clear hz
  generalize zs[i] = z at e1 HD hg1
  obtain ⟨t, ht⟩ : ∃ t, G i z = t := ⟨_, rfl⟩
  have HT := Lib.hid ht
  rw [ht] at hg1
  clear ht
  have hlz : (encP z).lt 0 = true := by rfl
  by_cases h0 : t = 0
  ·subst h0
   repeat (first | apply ef_seq | (apply ef_mv; exact rfl; exact rfl) | (apply ef_bin; (iterate 3 exact rfl); (exact cmp_t rfl (by first | exact rfl | (simp only [cmpP]; omega)))) | (apply ef_ldr; exact rfl; exact rfl; (exact rd_2 rfl rfl)) | (apply ef_ldp; exact rfl; exact rfl; (exact rfl); exact rfl; (exact rfl); (exact rd_2 rfl rfl)) | (apply ef_ias; (iterate 3 exact rfl); (omega); assumption; exact rfl) | (apply ef_new; exact rfl) | (apply ef_st; (iterate 6 exact rfl); (exact rfl); exact rfl) | apply ef_nil | apply seqQ.normal | apply ef_block | apply ef_skip | (apply ef_condt; exact rfl; (exact (rfl : true = true))))
   (apply ef_callv; (· exact rfl); (· exact rfl); (· ((repeat (apply XVs.cons; exact rfl)); exact XVs.nil)); (· exact rfl); (· exact hg1 _))
   repeat (first | apply ef_seq | (apply ef_mv; exact rfl; exact rfl) | (apply ef_bin; (iterate 3 exact rfl); (first | exact cmp_f rfl (by simp only [cmpP]; omega) | ((with_reducible refine bin_add (wrap_of ?_ ?_)) <;> omega))) | apply ef_nil | apply seqQ.normal | apply blockQ.normal | apply ef_skip | (apply ef_condf; exact rfl; (exact (rfl : false = false))))
   (refine loopQ.normal _ _ ⟨i + 1, ⟨hlt, by rw [HZ.out, HD.out, firG, if_pos HT.out]⟩, (by first | (simp only; omega) | omega), ⟨by ((repeat (refine Hold.cons (by exact rfl) ?_)); exact Hold.nil), by ((repeat (refine Hold.cons (by exact rfl) ?_)); exact Hold.nil)⟩, .inr ⟨by ((repeat (refine hdl_cons rfl (by first | rfl | (simp [MV.lt, ltL, encP_lt, hcl])) ?_)); exact hdl_nil), by first | rfl | (simp [hltL, ltL, MV.lt, ltL, encP_lt, hcl])⟩, by first | exact rfl | (simp only [List.map_append, List.map_set]; exact rfl)⟩)
  ·repeat (first | apply ef_seq | (apply ef_mv; exact rfl; exact rfl) | (apply ef_bin; (iterate 3 exact rfl); (exact cmp_t rfl (by first | exact rfl | (simp only [cmpP]; omega)))) | (apply ef_ldr; exact rfl; exact rfl; (exact rd_2 rfl rfl)) | (apply ef_ldp; exact rfl; exact rfl; (exact rfl); exact rfl; (exact rfl); (exact rd_2 rfl rfl)) | (apply ef_ias; (iterate 3 exact rfl); (omega); assumption; exact rfl) | (apply ef_new; exact rfl) | (apply ef_st; (iterate 6 exact rfl); (exact rfl); exact rfl) | apply ef_nil | apply seqQ.normal | apply ef_block | apply ef_skip | (apply ef_condt; exact rfl; (exact (rfl : true = true))))
   (apply ef_callv; (· exact rfl); (· exact rfl); (· ((repeat (apply XVs.cons; exact rfl)); exact XVs.nil)); (· exact rfl); (· exact hg1 _))
   repeat (first | apply ef_seq | (apply ef_mv; exact rfl; exact rfl) | (apply ef_bin; (iterate 3 exact rfl); (exact cmp_t rfl (by first | exact rfl | (simp only [cmpP]; omega)))) | apply ef_nil | apply seqQ.normal | apply loopQ.ret | apply ef_ret | apply seqQ.ret | apply blockQ.ret | (apply ef_condt; exact rfl; (exact (rfl : true = true))))
   (refine fin2 rfl (by exact rfl) (by exact rfl) ?_)
   rw [HZ.out, HD.out, firG, HT.out, if_neg h0]
 ·repeat (first | apply ef_seq | (apply ef_mv; exact rfl; exact rfl) | (apply ef_bin; (iterate 3 exact rfl); (exact cmp_f rfl (by simp only [cmpP]; omega))) | apply ef_nil | apply seqQ.normal | apply loopQ.exit | apply ef_ret | apply ef_exit | apply seqQ.exit | apply blockQ.here | (apply ef_condf; exact rfl; (exact (rfl : false = false))))
  (refine fin2 rfl (by exact rfl) (by exact rfl) ?_)
  rw [hz, List.drop_eq_nil_of_le (by omega)]; rfl
theorem eachRg_c (k g : Nat) (caps : List MV) (G : Nat → (Int × Int) → Int) (zs : List (Int × Int)) (h : MHeap) {v fv : MV} (hx : zs.length ≤ 1000) (hcl : ltL 0 caps = true) (hg : ∀ (i : Nat) (hi : i < zs.length) h, orA k g (I64 (i : Int) :: encP zs[i] :: caps) h = some (I64 (G i zs[i]), h)) (hv : frz 0 [] h 8 v = some (.sl (zs.map encP))) (hf : frz 0 [] h 8 fv = some (.fn g 0 caps)) :
  orA (k + 1) 141 [v, fv] h = some (.tup [I64 (firG G 0 zs).1, I64 (firG G 0 zs).2], h) :=
 callTT (args' := [.sl (zs.map encP), .fn g 0 caps]) (by simp [List.mapM_cons, hv, hf]) rfl (eachRg_z k g caps G zs hx hcl hg)
def rgE (most : Int) (p : Int × Int) : Int := if inB p.1 0 most && inB p.2 0 most then (if p.1 ≤ p.2 then 0 else 9) else 2
def chkS (R C : List (Int × Int)) : Int × Int :=
 if R.length = 0 ∨ C.length = 0 then (0, 10) else if 5 < R.length ∨ 5 < C.length then (0, 8)
 else if (firG (fun _ => rgE C.length) 0 R).2 = 0 then firG (fun _ => rgE R.length) 0 C else firG (fun _ => rgE C.length) 0 R
theorem mf_Chk1 : MT.mf 140 = some ⟨25, [(.tmp 5)], (.seq (.reg [gO 4 (.box 2 (.s 1)), gO 5 (.mv (cI 0))]) (.seq (.reg [gO 6 (.fa 0 (.s 4)), gO 7 (.ld none (.s 6)), gO 8 (.ld none (.s 2)), gO 9 (.call 103 [.s 7, (cI 0), .s 8]), gO 10 (.mv (.s 9)), ⟨some (10, true), some 11, .fa 1 (.s 4)⟩, ⟨some (10, true), some 12, .ld none (.s 11)⟩, ⟨some (10, true), some 13, .ld none (.s 2)⟩, ⟨some (10, true), some 14, .call 103 [.s 12, (cI 0), .s 13]⟩, gO 15 (.pick (.s 10) (.s 14) cF), gO 16 (.call 105 [.s 15, (cI 2)]), gO 17 (.fa 0 (.s 4)), gO 18 (.ld none (.s 17)), gO 19 (.fa 1 (.s 4)), gO 20 (.ld none (.s 19)), gO 21 (.bin .leq (.s 18) (.s 20)), gO 22 (.call 105 [.s 21, (cI 9)]), gO 23 (.bsl (.lit (.int .i64 0)) 1 2 [(0, (.s 16)), (1, (.s 22))]), gO 24 (.call 104 [.s 23]), gO 5 (.mv (.s 24))]) .ret))⟩ := by kernel_rfl
theorem Chk1_c (k : Nat) (i : Nat) (z : Int × Int) (m : Int) (h : MHeap) : orA (k + 4) 140 (I64 (i : Int) :: encP z :: [.rp (I64 m) 0]) h = some (I64 (rgE m z), h) := by
 refine callL (args' := I64 (i : Int) :: encP z :: [.rp (I64 m) 0]) (frzL_lt rfl) rfl (runZ_of mf_Chk1 (by simp) ?_)
 simp only [argsL]
 have HE := Lib.hid (show rgE m z = if inB z.1 0 m && inB z.2 0 m then (if z.1 ≤ z.2 then 0 else 9) else 2 from rfl)
 have hu := fun b n h => unless_c (k + 2) b n h rfl
 by_cases a1 : z.1 ≤ z.2
 ·cases a2 : inB z.1 0 m
  ·repeat (first | apply ef_seq | (apply ef_mv; exact rfl; exact rfl) | (apply ef_bin; (iterate 3 exact rfl); (exact cmp_t rfl (by first | exact rfl | (simp only [cmpP]; omega)))) | (apply ef_gn; exact rfl; (exact (rfl : false = false)); exact rfl) | (apply ef_pick; (iterate 3 exact rfl)) | (apply ef_ldr; exact rfl; exact rfl; (exact rfl)) | (apply ef_ldp; exact rfl; exact rfl; (exact rfl); exact rfl; (exact rfl); (exact rfl)) | (apply ef_fap; exact rfl; exact rfl) | (apply ef_box; (iterate 4 exact rfl)) | (apply ef_bsl; exact rfl; (repeat (apply XVs.cons; exact rfl)); exact XVs.nil; exact rfl) | apply ef_nil | apply seqQ.normal | apply ef_ret | (apply ef_call; exact rfl; ((repeat (apply XVs.cons; exact rfl)); exact XVs.nil); (with_reducible first | exact within_c (k + 2) _ _ _ _ a2 | exact hu _ _ _)) | (apply ef_call; exact rfl; ((repeat (apply XVs.cons; exact rfl)); exact XVs.nil); (with_reducible apply first2_c); (iterate 3 exact rfl); (exact rfl)))
   (refine fin1 rfl (by exact rfl) rfl ?_)
   rw [HE.out, a2]; rfl
  ·cases a3 : inB z.2 0 m
   ·repeat (first | apply ef_seq | (apply ef_mv; exact rfl; exact rfl) | (apply ef_bin; (iterate 3 exact rfl); (exact cmp_t rfl (by first | exact rfl | (simp only [cmpP]; omega)))) | (apply ef_gy; exact rfl; (exact (rfl : true = true))) | (apply ef_pick; (iterate 3 exact rfl)) | (apply ef_ldr; exact rfl; exact rfl; (exact rfl)) | (apply ef_ldp; exact rfl; exact rfl; (exact rfl); exact rfl; (exact rfl); (exact rfl)) | (apply ef_fap; exact rfl; exact rfl) | (apply ef_box; (iterate 4 exact rfl)) | (apply ef_bsl; exact rfl; (repeat (apply XVs.cons; exact rfl)); exact XVs.nil; exact rfl) | apply ef_nil | apply seqQ.normal | apply ef_ret | (apply ef_call; exact rfl; ((repeat (apply XVs.cons; exact rfl)); exact XVs.nil); (with_reducible first | exact within_c (k + 2) _ _ _ _ a2 | exact within_c (k + 2) _ _ _ _ a3 | exact hu _ _ _)) | (apply ef_call; exact rfl; ((repeat (apply XVs.cons; exact rfl)); exact XVs.nil); (with_reducible apply first2_c); (iterate 3 exact rfl); (exact rfl)))
    (refine fin1 rfl (by exact rfl) rfl ?_)
    rw [HE.out, a2, a3]; rfl
   ·repeat (first | apply ef_seq | (apply ef_mv; exact rfl; exact rfl) | (apply ef_bin; (iterate 3 exact rfl); (exact cmp_t rfl (by first | exact rfl | (simp only [cmpP]; omega)))) | (apply ef_gy; exact rfl; (exact (rfl : true = true))) | (apply ef_pick; (iterate 3 exact rfl)) | (apply ef_ldr; exact rfl; exact rfl; (exact rfl)) | (apply ef_ldp; exact rfl; exact rfl; (exact rfl); exact rfl; (exact rfl); (exact rfl)) | (apply ef_fap; exact rfl; exact rfl) | (apply ef_box; (iterate 4 exact rfl)) | (apply ef_bsl; exact rfl; (repeat (apply XVs.cons; exact rfl)); exact XVs.nil; exact rfl) | apply ef_nil | apply seqQ.normal | apply ef_ret | (apply ef_call; exact rfl; ((repeat (apply XVs.cons; exact rfl)); exact XVs.nil); (with_reducible first | exact within_c (k + 2) _ _ _ _ a2 | exact within_c (k + 2) _ _ _ _ a3 | exact hu _ _ _)) | (apply ef_call; exact rfl; ((repeat (apply XVs.cons; exact rfl)); exact XVs.nil); (with_reducible apply first2_c); (iterate 3 exact rfl); (exact rfl)))
    (refine fin1 rfl (by exact rfl) rfl ?_)
    rw [HE.out, a2, a3, if_pos (by rfl), if_pos a1]; rfl
 ·cases a2 : inB z.1 0 m
  ·repeat (first | apply ef_seq | (apply ef_mv; exact rfl; exact rfl) | (apply ef_bin; (iterate 3 exact rfl); (exact cmp_f rfl (by simp only [cmpP]; omega))) | (apply ef_gn; exact rfl; (exact (rfl : false = false)); exact rfl) | (apply ef_pick; (iterate 3 exact rfl)) | (apply ef_ldr; exact rfl; exact rfl; (exact rfl)) | (apply ef_ldp; exact rfl; exact rfl; (exact rfl); exact rfl; (exact rfl); (exact rfl)) | (apply ef_fap; exact rfl; exact rfl) | (apply ef_box; (iterate 4 exact rfl)) | (apply ef_bsl; exact rfl; (repeat (apply XVs.cons; exact rfl)); exact XVs.nil; exact rfl) | apply ef_nil | apply seqQ.normal | apply ef_ret | (apply ef_call; exact rfl; ((repeat (apply XVs.cons; exact rfl)); exact XVs.nil); (with_reducible first | exact within_c (k + 2) _ _ _ _ a2 | exact hu _ _ _)) | (apply ef_call; exact rfl; ((repeat (apply XVs.cons; exact rfl)); exact XVs.nil); (with_reducible apply first2_c); (iterate 3 exact rfl); (exact rfl)))
   (refine fin1 rfl (by exact rfl) rfl ?_)
   rw [HE.out, a2]; rfl
  ·cases a3 : inB z.2 0 m
   ·repeat (first | apply ef_seq | (apply ef_mv; exact rfl; exact rfl) | (apply ef_bin; (iterate 3 exact rfl); (exact cmp_f rfl (by simp only [cmpP]; omega))) | (apply ef_gy; exact rfl; (exact (rfl : true = true))) | (apply ef_pick; (iterate 3 exact rfl)) | (apply ef_ldr; exact rfl; exact rfl; (exact rfl)) | (apply ef_ldp; exact rfl; exact rfl; (exact rfl); exact rfl; (exact rfl); (exact rfl)) | (apply ef_fap; exact rfl; exact rfl) | (apply ef_box; (iterate 4 exact rfl)) | (apply ef_bsl; exact rfl; (repeat (apply XVs.cons; exact rfl)); exact XVs.nil; exact rfl) | apply ef_nil | apply seqQ.normal | apply ef_ret | (apply ef_call; exact rfl; ((repeat (apply XVs.cons; exact rfl)); exact XVs.nil); (with_reducible first | exact within_c (k + 2) _ _ _ _ a2 | exact within_c (k + 2) _ _ _ _ a3 | exact hu _ _ _)) | (apply ef_call; exact rfl; ((repeat (apply XVs.cons; exact rfl)); exact XVs.nil); (with_reducible apply first2_c); (iterate 3 exact rfl); (exact rfl)))
    (refine fin1 rfl (by exact rfl) rfl ?_)
    rw [HE.out, a2, a3]; rfl
   ·repeat (first | apply ef_seq | (apply ef_mv; exact rfl; exact rfl) | (apply ef_bin; (iterate 3 exact rfl); (exact cmp_f rfl (by simp only [cmpP]; omega))) | (apply ef_gy; exact rfl; (exact (rfl : true = true))) | (apply ef_pick; (iterate 3 exact rfl)) | (apply ef_ldr; exact rfl; exact rfl; (exact rfl)) | (apply ef_ldp; exact rfl; exact rfl; (exact rfl); exact rfl; (exact rfl); (exact rfl)) | (apply ef_fap; exact rfl; exact rfl) | (apply ef_box; (iterate 4 exact rfl)) | (apply ef_bsl; exact rfl; (repeat (apply XVs.cons; exact rfl)); exact XVs.nil; exact rfl) | apply ef_nil | apply seqQ.normal | apply ef_ret | (apply ef_call; exact rfl; ((repeat (apply XVs.cons; exact rfl)); exact XVs.nil); (with_reducible first | exact within_c (k + 2) _ _ _ _ a2 | exact within_c (k + 2) _ _ _ _ a3 | exact hu _ _ _)) | (apply ef_call; exact rfl; ((repeat (apply XVs.cons; exact rfl)); exact XVs.nil); (with_reducible apply first2_c); (iterate 3 exact rfl); (exact rfl)))
    (refine fin1 rfl (by exact rfl) rfl ?_)
    rw [HE.out, a2, a3, if_pos (by rfl), if_neg a1]; rfl
theorem mf_ChkS : MT.mf 58 = some ⟨56, [(.tmp 2), (.tmp 3)], (.seq (.reg [gO 1 (.box 2 (.s 0)), gO 2 (.mv (cI 0)), gO 3 (.mv (cI 0))]) (.seq (.reg [gO 11 (.fa 0 (.s 1)), gO 12 (.ld none (.s 11)), gO 13 (.len (.s 12)), gO 14 (.fa 1 (.s 1)), gO 15 (.ld none (.s 14)), gO 16 (.len (.s 15)), gO 4 (.mv (.s 13)), gO 5 (.mv (.s 16))]) (.seq (.seq (.reg [gO 17 (.mv (.s 4)), gO 18 (.bin .gtr (.s 17) (cI 0)), gO 19 (.mv (.s 18)), ⟨some (19, true), some 20, .mv (.s 5)⟩, ⟨some (19, true), some 21, .bin .gtr (.s 20) (cI 0)⟩, gO 22 (.pick (.s 19) (.s 21) cF), gO 23 (.call 105 [.s 22, (cI 10)]), gO 24 (.mv (.s 4)), gO 25 (.bin .leq (.s 24) (cI 5)), gO 26 (.mv (.s 25)), ⟨some (26, true), some 27, .mv (.s 5)⟩, ⟨some (26, true), some 28, .bin .leq (.s 27) (cI 5)⟩, gO 29 (.pick (.s 26) (.s 28) cF), gO 30 (.call 105 [.s 29, (cI 8)]), gO 31 (.bsl (.lit (.int .i64 0)) 1 2 [(0, (.s 23)), (1, (.s 30))]), gO 32 (.call 104 [.s 31]), gO 6 (.mv (.s 32))]) (.seq (.reg [gO 33 (.mv (.s 6)), gO 34 (.bin .neq (.s 33) (cI 0))]) (.cond (.s 34) (.seq (.reg [gO 35 (.mv (.s 6)), gO 2 (.mv (cI 0)), gO 3 (.mv (.s 35))]) .ret) .skip))) (.seq (.reg [gO 36 (.mv (.s 5)), gO 7 (.new (.lit (.int .i64 0))), ⟨none, none, .st 1 (.s 7) (.s 36)⟩]) (.seq (.reg [gO 37 (.mf 140 0 [.s 7]), gO 8 (.mv (.s 37))]) (.seq (.seq (.reg [gO 39 (.fa 0 (.s 1)), gO 40 (.ld none (.s 39)), gO 41 (.mv (.s 8)), gO 42 (.call 141 [.s 40, .s 41]), gO 38 (.mv (.s 42)), gO 43 (.ext (.s 38) 0), gO 44 (.ext (.s 38) 1), gO 9 (.mv (.s 43)), gO 10 (.mv (.s 44))]) (.seq (.reg [gO 45 (.mv (.s 10)), gO 46 (.bin .neq (.s 45) (cI 0))]) (.cond (.s 46) (.seq (.reg [gO 47 (.mv (.s 9)), gO 48 (.mv (.s 10)), gO 2 (.mv (.s 47)), gO 3 (.mv (.s 48))]) .ret) .skip))) (.seq (.reg [gO 49 (.mv (.s 4)), ⟨none, none, .st 1 (.s 7) (.s 49)⟩]) (.seq (.reg [gO 50 (.fa 1 (.s 1)), gO 51 (.ld none (.s 50)), gO 52 (.mv (.s 8)), gO 53 (.call 141 [.s 51, .s 52]), gO 54 (.ext (.s 53) 0), gO 55 (.ext (.s 53) 1), gO 2 (.mv (.s 54)), gO 3 (.mv (.s 55))]) .ret))))))))⟩ := by kernel_rfl
abbrev outI (r : Int × Int) : MV := .tup [I64 r.1, I64 r.2]
set_option maxHeartbeats 1000000 in
theorem ChkS_z (k : Nat) (R C : List (Int × Int)) (hR : R.length ≤ 100) (hC : C.length ≤ 100) : runZ MT (orA (k + 5)) (itA (k + 5)) 4000000 58 [encS R C] [] = some (outI (chkS R C), []) := by
 refine runZ_of mf_ChkS (by simp) ?_
 simp only [argsL]
 have hs1 : (MV.sl (R.map encP)).slen = some R.length := by simp [MV.slen]
 have hs2 : (MV.sl (C.map encP)).slen = some C.length := by simp [MV.slen]
 have HC := Lib.hid (show chkS R C = _ from rfl)
 have hu := fun b n h => unless_c (k + 4) b n h rfl
 by_cases hb : R.length = 0 ∨ C.length = 0 ∨ 5 < R.length ∨ 5 < C.length
 ·by_cases a1 : R.length = 0 <;> by_cases a2 : C.length = 0 <;> by_cases a3 : 5 < R.length <;> by_cases a4 : 5 < C.length
  all_goals first | (exfalso; omega) | skip
  all_goals have HC2 := Lib.hid (show chkS R C = _ by unfold chkS; simp only [a1, a2, a3, a4, or_self, or_true, true_or, or_false, false_or, if_true, if_false]; rfl)
  all_goals repeat (first | apply ef_seq | (apply ef_mv; exact rfl; exact rfl) | (apply ef_bin; (iterate 3 exact rfl); (first | exact cmp_t rfl (by first | exact rfl | (simp only [cmpP]; omega)) | exact cmp_f rfl (by simp only [cmpP]; omega) | exact rfl)) | (apply ef_gy; exact rfl; (exact (rfl : true = true))) | (apply ef_gn; exact rfl; (exact (rfl : false = false)); exact rfl) | (apply ef_pick; (iterate 3 exact rfl)) | (apply ef_len; exact rfl; exact rfl; (assumption)) | (apply ef_ldp; exact rfl; exact rfl; (exact rfl); exact rfl; (exact rfl); (exact rfl)) | (apply ef_fap; exact rfl; exact rfl) | (apply ef_box; (iterate 4 exact rfl)) | (apply ef_bsl; exact rfl; (repeat (apply XVs.cons; exact rfl)); exact XVs.nil; exact rfl) | apply ef_nil | apply seqQ.normal | apply ef_ret | apply seqQ.ret | (apply ef_condt; exact rfl; (exact (rfl : true = true))) | (apply ef_call; exact rfl; ((repeat (apply XVs.cons; exact rfl)); exact XVs.nil); (with_reducible exact hu _ _ _)) | (apply ef_call; exact rfl; ((repeat (apply XVs.cons; exact rfl)); exact XVs.nil); (with_reducible apply first2_c); (iterate 3 exact rfl); (exact rfl)))
  all_goals (refine fin2 rfl (by exact rfl) (by exact rfl) ?_)
  all_goals rw [HC2.out]
  all_goals rfl
 ·have HC3 := Lib.hid (show chkS R C = if (firG (fun _ => rgE C.length) 0 R).2 = 0 then firG (fun _ => rgE R.length) 0 C else firG (fun _ => rgE C.length) 0 R by unfold chkS; rw [if_neg (by omega), if_neg (by omega)])
  clear HC
  have e1 := fun h fv (hf : frz 0 [] h 8 fv = some (.fn 140 0 [.rp (I64 C.length) 0])) => eachRg_c (k + 4) 140 [.rp (I64 C.length) 0] (fun _ => rgE C.length) R h (v := .sl (R.map encP)) (by omega) rfl (fun i hi h => Chk1_c k i R[i] C.length h) (frz_sl (encP_lt 0 R)) hf
  have e2 := fun h fv (hf : frz 0 [] h 8 fv = some (.fn 140 0 [.rp (I64 R.length) 0])) => eachRg_c (k + 4) 140 [.rp (I64 R.length) 0] (fun _ => rgE R.length) C h (v := .sl (C.map encP)) (by omega) rfl (fun i hi h => Chk1_c k i C[i] R.length h) (frz_sl (encP_lt 0 C)) hf
  by_cases h0 : (firG (fun _ => rgE C.length) 0 R).2 = 0
  ·have HC4 := Lib.hid (HC3.out.trans (if_pos h0))
   clear HC3
   generalize firG (fun _ => rgE C.length) 0 R = r1 at e1 h0
   generalize firG (fun _ => rgE R.length) 0 C = r2 at e2 HC4
   repeat (first | apply ef_seq | (apply ef_mv; exact rfl; exact rfl) | (apply ef_bin; (iterate 3 exact rfl); (first | exact cmp_t rfl (by first | exact rfl | (simp only [cmpP]; omega)) | exact rfl)) | (apply ef_gy; exact rfl; (exact (rfl : true = true))) | (apply ef_pick; (iterate 3 exact rfl)) | (apply ef_len; exact rfl; exact rfl; (assumption)) | (apply ef_ldp; exact rfl; exact rfl; (exact rfl); exact rfl; (exact rfl); (exact rfl)) | (apply ef_fap; exact rfl; exact rfl) | (apply ef_box; (iterate 4 exact rfl)) | (apply ef_newst; (iterate 3 exact rfl); (exact rfl); exact rfl) | (apply ef_bsl; exact rfl; (repeat (apply XVs.cons; exact rfl)); exact XVs.nil; exact rfl) | (apply ef_mf; exact rfl; (repeat (apply XVs.cons; exact rfl)); exact XVs.nil) | apply ef_nil | apply seqQ.normal | apply ef_skip | (apply ef_condf; exact rfl; (exact (rfl : false = false))) | (apply ef_call; exact rfl; ((repeat (apply XVs.cons; exact rfl)); exact XVs.nil); (with_reducible exact hu _ _ _)) | (apply ef_call; exact rfl; ((repeat (apply XVs.cons; exact rfl)); exact XVs.nil); (with_reducible apply first2_c); (iterate 3 exact rfl); (exact rfl)))
   (apply ef_call; (· exact rfl); (· ((repeat (apply XVs.cons; exact rfl)); exact XVs.nil)); · exact e1 _ _ rfl)
   repeat (first | apply ef_seq | (apply ef_mv; exact rfl; exact rfl) | (apply ef_bin; (iterate 3 exact rfl); (exact cmp_f rfl (by simp only [cmpP]; omega))) | (apply ef_ldp; exact rfl; exact rfl; (exact rfl); exact rfl; (exact rfl); (exact rfl)) | (apply ef_fap; exact rfl; exact rfl) | (apply ef_ext; (iterate 3 exact rfl)) | (apply ef_st; (iterate 6 exact rfl); (exact rfl); exact rfl) | apply ef_nil | apply seqQ.normal | apply ef_skip | (apply ef_condf; exact rfl; (exact (rfl : false = false))))
   (apply ef_call; (· exact rfl); (· ((repeat (apply XVs.cons; exact rfl)); exact XVs.nil)); · exact e2 _ _ rfl)
   repeat (first | (apply ef_mv; exact rfl; exact rfl) | (apply ef_ext; (iterate 3 exact rfl)) | apply ef_nil | apply seqQ.normal | apply ef_ret)
   (refine fin2 rfl (by exact rfl) (by exact rfl) ?_)
   rw [HC4.out]
  ·have HC4 := Lib.hid (HC3.out.trans (if_neg h0))
   clear HC3
   generalize firG (fun _ => rgE C.length) 0 R = r1 at e1 h0 HC4
   repeat (first | apply ef_seq | (apply ef_mv; exact rfl; exact rfl) | (apply ef_bin; (iterate 3 exact rfl); (first | exact cmp_t rfl (by first | exact rfl | (simp only [cmpP]; omega)) | exact rfl)) | (apply ef_gy; exact rfl; (exact (rfl : true = true))) | (apply ef_pick; (iterate 3 exact rfl)) | (apply ef_len; exact rfl; exact rfl; (assumption)) | (apply ef_ldp; exact rfl; exact rfl; (exact rfl); exact rfl; (exact rfl); (exact rfl)) | (apply ef_fap; exact rfl; exact rfl) | (apply ef_box; (iterate 4 exact rfl)) | (apply ef_newst; (iterate 3 exact rfl); (exact rfl); exact rfl) | (apply ef_bsl; exact rfl; (repeat (apply XVs.cons; exact rfl)); exact XVs.nil; exact rfl) | (apply ef_mf; exact rfl; (repeat (apply XVs.cons; exact rfl)); exact XVs.nil) | apply ef_nil | apply seqQ.normal | apply ef_skip | (apply ef_condf; exact rfl; (exact (rfl : false = false))) | (apply ef_call; exact rfl; ((repeat (apply XVs.cons; exact rfl)); exact XVs.nil); (with_reducible exact hu _ _ _)) | (apply ef_call; exact rfl; ((repeat (apply XVs.cons; exact rfl)); exact XVs.nil); (with_reducible apply first2_c); (iterate 3 exact rfl); (exact rfl)))
   (apply ef_call; (· exact rfl); (· ((repeat (apply XVs.cons; exact rfl)); exact XVs.nil)); · exact e1 _ _ rfl)
   repeat (first | apply ef_seq | (apply ef_mv; exact rfl; exact rfl) | (apply ef_bin; (iterate 3 exact rfl); (exact cmp_t rfl (by first | exact rfl | (simp only [cmpP]; omega)))) | (apply ef_ext; (iterate 3 exact rfl)) | apply ef_nil | apply seqQ.normal | apply ef_ret | apply seqQ.ret | (apply ef_condt; exact rfl; (exact (rfl : true = true))))
   (refine fin2 rfl (by exact rfl) (by exact rfl) ?_)
   rw [HC4.out]
theorem ChkS_c (k : Nat) (R C : List (Int × Int)) (hR : R.length ≤ 100) (hC : C.length ≤ 100) (h : MHeap) : orA (k + 6) 58 [encS R C] h = some (outI (chkS R C), h) := callTT (args' := [encS R C]) (frzL_lt (by simp only [ltL, encS_lt, Bool.and_self])) rfl (ChkS_z k R C hR hC)
theorem mf_sides : MT.mf 151 = some ⟨44, [(.tmp 4), (.tmp 5)], (.seq (.reg [gO 4 (.mv (cI 0)), gO 5 (.mv (cI 0))]) (.seq (.seq (.reg [gO 6 (.mv (cI 0))]) (.block 0 (.loop [6, 0, 1] (.seq (.seq (.reg [gO 7 (.mv (.s 6)), gO 8 (.mv (.s 0)), gO 9 (.len (.s 8)), gO 10 (.bin .lss (.s 7) (.s 9))]) (.cond (.s 10) .skip (.exit 0))) (.seq (.block 1 (.seq (.seq (.reg [gO 13 (.mv (.s 0)), gO 14 (.mv (.s 6)), gO 15 (.ia 2 (.s 13) (.s 14)), gO 16 (.fa 0 (.s 15)), gO 17 (.ld none (.s 16)), gO 18 (.mv (.s 1)), gO 19 (.call 53 [.s 17, (cI 0), .s 18]), gO 20 (.un .not (.s 19)), gO 21 (.mv (.s 20)), ⟨some (21, false), some 22, .mv (.s 0)⟩, ⟨some (21, false), some 23, .mv (.s 6)⟩, ⟨some (21, false), some 24, .ia 2 (.s 22) (.s 23)⟩, ⟨some (21, false), some 25, .fa 1 (.s 24)⟩, ⟨some (21, false), some 26, .ld none (.s 25)⟩, ⟨some (21, false), some 27, .mv (.s 1)⟩, ⟨some (21, false), some 28, .call 53 [.s 26, (cI 0), .s 27]⟩, ⟨some (21, false), some 29, .un .not (.s 28)⟩, gO 30 (.pick (.s 21) cT (.s 29))]) (.cond (.s 30) (.seq (.reg [gO 31 (.mv (.s 6)), gO 4 (.mv (.s 31)), gO 5 (.mv (cI 2))]) .ret) .skip)) (.seq (.reg [gO 32 (.mv (.s 0)), gO 33 (.mv (.s 6)), gO 34 (.ia 2 (.s 32) (.s 33)), gO 35 (.fa 0 (.s 34)), gO 36 (.ld none (.s 35)), gO 37 (.mv (.s 0)), gO 38 (.mv (.s 6)), gO 39 (.ia 2 (.s 37) (.s 38)), gO 40 (.fa 1 (.s 39)), gO 41 (.ld none (.s 40)), gO 42 (.bin .gtr (.s 36) (.s 41))]) (.cond (.s 42) (.seq (.reg [gO 43 (.mv (.s 6)), gO 4 (.mv (.s 43)), gO 5 (.mv (cI 9))]) .ret) .skip)))) (.reg [gO 11 (.mv (.s 6)), gO 12 (.bin .add (.s 11) (cI 1)), gO 6 (.mv (.s 12))])))))) (.seq (.reg [gO 4 (.mv (cI 0)), gO 5 (.mv (cI 0))]) .ret)))⟩ := by kernel_rfl
set_option maxHeartbeats 1000000 in
theorem sides_z (k : Nat) (zs : List (Int × Int)) (m : Int) (hx : zs.length ≤ 1000) : runZ MT (orA (k + 1)) (itA (k + 1)) 4000000 151 [.sl (zs.map encP), I64 m] [] = some (outI (firG (fun _ => rgE m) 0 zs), []) := by
 have hl : (MV.sl (zs.map encP)).slen = some zs.length := by simp [MV.slen]
 refine runZ_of mf_sides (by simp) ?_
 simp only [argsL]
 repeat (first | apply ef_seq | (apply ef_mv; exact rfl; exact rfl) | apply ef_nil | apply seqQ.normal | apply ef_block)
 refine ef_loopf (α := Nat) (fun i => i ≤ zs.length ∧ firG (fun _ => rgE m) 0 zs = firG (fun _ => rgE m) i (zs.drop i)) (fun i => [(6, I64 (i : Int))]) [(0, .sl (zs.map encP)), (1, I64 m)] (fun _ => []) (fun i => zs.length - i) 0 [6] (fun _ => rfl) (by ((repeat (refine Hold.cons (by exact rfl) ?_)); exact Hold.nil)) (by ((repeat (refine Hold.cons (by exact rfl) ?_)); exact Hold.nil)) rfl rfl ⟨by omega, rfl⟩ (by simp; omega) ?_
 rintro i ⟨hi, hz⟩
 by_cases hlt : i < zs.length
 ·have e1 := at_map encP zs i hlt
  have HD := Lib.hid (drop_at zs i hlt)
  have HZ := Lib.hid hz
  clear hz
  generalize zs[i] = z at e1 HD
  have HE := Lib.hid (show rgE m z = if inB z.1 0 m && inB z.2 0 m then (if z.1 ≤ z.2 then 0 else 9) else 2 from rfl)
  by_cases a1 : z.1 ≤ z.2
  ·cases a2 : inB z.1 0 m
   ·repeat (first | apply ef_seq | (apply ef_mv; exact rfl; exact rfl) | (apply ef_bin; (iterate 3 exact rfl); (exact cmp_t rfl (by first | exact rfl | (simp only [cmpP]; omega)))) | (apply ef_gn; exact rfl; (exact (rfl : true = true)); exact rfl) | (apply ef_pick; (iterate 3 exact rfl)) | (apply ef_len; exact rfl; exact rfl; (assumption)) | (apply ef_ldr; exact rfl; exact rfl; (exact rfl)) | (apply ef_ias; (iterate 3 exact rfl); (omega); assumption; exact rfl) | (apply ef_far; exact rfl; exact rfl) | (apply ef_notF; exact rfl; exact rfl) | apply ef_nil | apply seqQ.normal | apply loopQ.ret | apply ef_ret | apply seqQ.ret | apply blockQ.ret | apply ef_block | apply ef_skip | (apply ef_condt; exact rfl; (exact (rfl : true = true))) | (apply ef_call; exact rfl; ((repeat (apply XVs.cons; exact rfl)); exact XVs.nil); (with_reducible exact Within_c k _ _ _ _ a2)))
    (refine fin2 rfl (by exact rfl) (by exact rfl) ?_)
    rw [HZ.out, HD.out, firG, HE.out, a2]; rfl
   ·cases a3 : inB z.2 0 m
    ·repeat (first | apply ef_seq | (apply ef_mv; exact rfl; exact rfl) | (apply ef_bin; (iterate 3 exact rfl); (exact cmp_t rfl (by first | exact rfl | (simp only [cmpP]; omega)))) | (apply ef_gy; exact rfl; (exact (rfl : false = false))) | (apply ef_pick; (iterate 3 exact rfl)) | (apply ef_len; exact rfl; exact rfl; (assumption)) | (apply ef_ldr; exact rfl; exact rfl; (exact rfl)) | (apply ef_ias; (iterate 3 exact rfl); (omega); assumption; exact rfl) | (apply ef_far; exact rfl; exact rfl) | (apply ef_notT; exact rfl; exact rfl) | (apply ef_notF; exact rfl; exact rfl) | apply ef_nil | apply seqQ.normal | apply loopQ.ret | apply ef_ret | apply seqQ.ret | apply blockQ.ret | apply ef_block | apply ef_skip | (apply ef_condt; exact rfl; (exact (rfl : true = true))) | (apply ef_call; exact rfl; ((repeat (apply XVs.cons; exact rfl)); exact XVs.nil); (with_reducible first | exact Within_c k _ _ _ _ a2 | exact Within_c k _ _ _ _ a3)))
     (refine fin2 rfl (by exact rfl) (by exact rfl) ?_)
     rw [HZ.out, HD.out, firG, HE.out, a2, a3]; rfl
    ·repeat (first | apply ef_seq | (apply ef_mv; exact rfl; exact rfl) | (apply ef_bin; (iterate 3 exact rfl); (first | exact cmp_t rfl (by first | exact rfl | (simp only [cmpP]; omega)) | exact cmp_f rfl (by simp only [cmpP]; omega) | ((with_reducible refine bin_add (wrap_of ?_ ?_)) <;> omega))) | (apply ef_gy; exact rfl; (exact (rfl : false = false))) | (apply ef_pick; (iterate 3 exact rfl)) | (apply ef_len; exact rfl; exact rfl; (assumption)) | (apply ef_ldr; exact rfl; exact rfl; (exact rfl)) | (apply ef_ias; (iterate 3 exact rfl); (omega); assumption; exact rfl) | (apply ef_far; exact rfl; exact rfl) | (apply ef_notT; exact rfl; exact rfl) | apply ef_nil | apply seqQ.normal | apply blockQ.normal | apply ef_block | apply ef_skip | (apply ef_condt; exact rfl; (exact (rfl : true = true))) | (apply ef_condf; exact rfl; (exact (rfl : false = false))) | (apply ef_call; exact rfl; ((repeat (apply XVs.cons; exact rfl)); exact XVs.nil); (with_reducible first | exact Within_c k _ _ _ _ a2 | exact Within_c k _ _ _ _ a3)))
     (refine loopQ.normal _ _ ⟨i + 1, ⟨hlt, by rw [HZ.out, HD.out, firG, if_pos (by rw [HE.out, a2, a3]; simp [a1])]⟩, (by first | (simp only; omega) | omega), ⟨by ((repeat (refine Hold.cons (by exact rfl) ?_)); exact Hold.nil), by ((repeat (refine Hold.cons (by exact rfl) ?_)); exact Hold.nil)⟩, .inl (Nat.le_refl _), (by first | exact List.take_length | exact rfl | exact takeF rfl rfl)⟩)
  ·cases a2 : inB z.1 0 m
   ·repeat (first | apply ef_seq | (apply ef_mv; exact rfl; exact rfl) | (apply ef_bin; (iterate 3 exact rfl); (exact cmp_t rfl (by first | exact rfl | (simp only [cmpP]; omega)))) | (apply ef_gn; exact rfl; (exact (rfl : true = true)); exact rfl) | (apply ef_pick; (iterate 3 exact rfl)) | (apply ef_len; exact rfl; exact rfl; (assumption)) | (apply ef_ldr; exact rfl; exact rfl; (exact rfl)) | (apply ef_ias; (iterate 3 exact rfl); (omega); assumption; exact rfl) | (apply ef_far; exact rfl; exact rfl) | (apply ef_notF; exact rfl; exact rfl) | apply ef_nil | apply seqQ.normal | apply loopQ.ret | apply ef_ret | apply seqQ.ret | apply blockQ.ret | apply ef_block | apply ef_skip | (apply ef_condt; exact rfl; (exact (rfl : true = true))) | (apply ef_call; exact rfl; ((repeat (apply XVs.cons; exact rfl)); exact XVs.nil); (with_reducible exact Within_c k _ _ _ _ a2)))
    (refine fin2 rfl (by exact rfl) (by exact rfl) ?_)
    rw [HZ.out, HD.out, firG, HE.out, a2]; rfl
   ·cases a3 : inB z.2 0 m
    ·repeat (first | apply ef_seq | (apply ef_mv; exact rfl; exact rfl) | (apply ef_bin; (iterate 3 exact rfl); (exact cmp_t rfl (by first | exact rfl | (simp only [cmpP]; omega)))) | (apply ef_gy; exact rfl; (exact (rfl : false = false))) | (apply ef_pick; (iterate 3 exact rfl)) | (apply ef_len; exact rfl; exact rfl; (assumption)) | (apply ef_ldr; exact rfl; exact rfl; (exact rfl)) | (apply ef_ias; (iterate 3 exact rfl); (omega); assumption; exact rfl) | (apply ef_far; exact rfl; exact rfl) | (apply ef_notT; exact rfl; exact rfl) | (apply ef_notF; exact rfl; exact rfl) | apply ef_nil | apply seqQ.normal | apply loopQ.ret | apply ef_ret | apply seqQ.ret | apply blockQ.ret | apply ef_block | apply ef_skip | (apply ef_condt; exact rfl; (exact (rfl : true = true))) | (apply ef_call; exact rfl; ((repeat (apply XVs.cons; exact rfl)); exact XVs.nil); (with_reducible first | exact Within_c k _ _ _ _ a2 | exact Within_c k _ _ _ _ a3)))
     (refine fin2 rfl (by exact rfl) (by exact rfl) ?_)
     rw [HZ.out, HD.out, firG, HE.out, a2, a3]; rfl
    ·repeat (first | apply ef_seq | (apply ef_mv; exact rfl; exact rfl) | (apply ef_bin; (iterate 3 exact rfl); (exact cmp_t rfl (by first | exact rfl | (simp only [cmpP]; omega)))) | (apply ef_gy; exact rfl; (exact (rfl : false = false))) | (apply ef_pick; (iterate 3 exact rfl)) | (apply ef_len; exact rfl; exact rfl; (assumption)) | (apply ef_ldr; exact rfl; exact rfl; (exact rfl)) | (apply ef_ias; (iterate 3 exact rfl); (omega); assumption; exact rfl) | (apply ef_far; exact rfl; exact rfl) | (apply ef_notT; exact rfl; exact rfl) | apply ef_nil | apply seqQ.normal | apply loopQ.ret | apply ef_ret | apply seqQ.ret | apply blockQ.ret | apply ef_block | apply ef_skip | (apply ef_condt; exact rfl; (exact (rfl : true = true))) | (apply ef_condf; exact rfl; (exact (rfl : false = false))) | (apply ef_call; exact rfl; ((repeat (apply XVs.cons; exact rfl)); exact XVs.nil); (with_reducible first | exact Within_c k _ _ _ _ a2 | exact Within_c k _ _ _ _ a3)))
     (refine fin2 rfl (by exact rfl) (by exact rfl) ?_)
     rw [HZ.out, HD.out, firG, HE.out, a2, a3, if_pos (show (true && true) = true from rfl), if_neg a1]; rfl
 ·repeat (first | apply ef_seq | (apply ef_mv; exact rfl; exact rfl) | (apply ef_bin; (iterate 3 exact rfl); (exact cmp_f rfl (by simp only [cmpP]; omega))) | (apply ef_len; exact rfl; exact rfl; (assumption)) | apply ef_nil | apply seqQ.normal | apply loopQ.exit | apply ef_ret | apply ef_exit | apply seqQ.exit | apply blockQ.here | (apply ef_condf; exact rfl; (exact (rfl : false = false))))
  (refine fin2 rfl (by exact rfl) (by exact rfl) ?_)
  rw [hz, List.drop_eq_nil_of_le (by omega)]; rfl
theorem mf_rChkS : MT.mf 63 = some ⟨47, [(.tmp 2), (.tmp 3)], (.seq (.reg [gO 1 (.box 2 (.s 0)), gO 2 (.mv (cI 0)), gO 3 (.mv (cI 0))]) (.seq (.seq (.reg [gO 6 (.fa 0 (.s 1)), gO 7 (.ld none (.s 6)), gO 8 (.len (.s 7)), gO 9 (.bin .eql (.s 8) (cI 0)), gO 10 (.mv (.s 9)), ⟨some (10, false), some 11, .fa 1 (.s 1)⟩, ⟨some (10, false), some 12, .ld none (.s 11)⟩, ⟨some (10, false), some 13, .len (.s 12)⟩, ⟨some (10, false), some 14, .bin .eql (.s 13) (cI 0)⟩, gO 15 (.pick (.s 10) cT (.s 14))]) (.cond (.s 15) (.seq (.reg [gO 2 (.mv (cI 0)), gO 3 (.mv (cI 10))]) .ret) .skip)) (.seq (.seq (.reg [gO 16 (.fa 0 (.s 1)), gO 17 (.ld none (.s 16)), gO 18 (.len (.s 17)), gO 19 (.bin .gtr (.s 18) (cI 5)), gO 20 (.mv (.s 19)), ⟨some (20, false), some 21, .fa 1 (.s 1)⟩, ⟨some (20, false), some 22, .ld none (.s 21)⟩, ⟨some (20, false), some 23, .len (.s 22)⟩, ⟨some (20, false), some 24, .bin .gtr (.s 23) (cI 5)⟩, gO 25 (.pick (.s 20) cT (.s 24))]) (.cond (.s 25) (.seq (.reg [gO 2 (.mv (cI 0)), gO 3 (.mv (cI 8))]) .ret) .skip)) (.seq (.seq (.reg [gO 27 (.fa 0 (.s 1)), gO 28 (.ld none (.s 27)), gO 29 (.fa 1 (.s 1)), gO 30 (.ld none (.s 29)), gO 31 (.len (.s 30)), gO 32 (.call 151 [.s 28, .s 31]), gO 26 (.mv (.s 32)), gO 33 (.ext (.s 26) 0), gO 34 (.ext (.s 26) 1), gO 4 (.mv (.s 33)), gO 5 (.mv (.s 34))]) (.seq (.reg [gO 35 (.mv (.s 5)), gO 36 (.bin .neq (.s 35) (cI 0))]) (.cond (.s 36) (.seq (.reg [gO 37 (.mv (.s 4)), gO 38 (.mv (.s 5)), gO 2 (.mv (.s 37)), gO 3 (.mv (.s 38))]) .ret) .skip))) (.seq (.reg [gO 39 (.fa 1 (.s 1)), gO 40 (.ld none (.s 39)), gO 41 (.fa 0 (.s 1)), gO 42 (.ld none (.s 41)), gO 43 (.len (.s 42)), gO 44 (.call 151 [.s 40, .s 43]), gO 45 (.ext (.s 44) 0), gO 46 (.ext (.s 44) 1), gO 2 (.mv (.s 45)), gO 3 (.mv (.s 46))]) .ret)))))⟩ := by kernel_rfl
set_option maxHeartbeats 1000000 in
theorem rChkS_z (k : Nat) (R C : List (Int × Int)) : runZ MT (orA (k + 2)) (itA (k + 2)) 4000000 63 [encS R C] [] = some (outI (chkS R C), []) := by
 refine runZ_of mf_rChkS (by simp) ?_
 simp only [argsL]
 have hs1 : (MV.sl (R.map encP)).slen = some R.length := by simp [MV.slen]
 have hs2 : (MV.sl (C.map encP)).slen = some C.length := by simp [MV.slen]
 by_cases hb : R.length = 0 ∨ C.length = 0 ∨ 5 < R.length ∨ 5 < C.length
 ·by_cases a1 : R.length = 0 <;> by_cases a2 : C.length = 0 <;> by_cases a3 : 5 < R.length <;> by_cases a4 : 5 < C.length
  all_goals first | (exfalso; omega) | skip
  all_goals have HC2 := Lib.hid (show chkS R C = _ by unfold chkS; simp only [a1, a2, a3, a4, or_self, or_true, true_or, or_false, false_or, if_true, if_false]; rfl)
  all_goals repeat (first | apply ef_seq | (apply ef_mv; exact rfl; exact rfl) | (apply ef_bin; (iterate 3 exact rfl); (first | exact cmp_t rfl (by first | exact rfl | (simp only [cmpP]; omega)) | exact cmp_f rfl (by simp only [cmpP]; omega))) | (apply ef_gy; exact rfl; (exact (rfl : false = false))) | (apply ef_gn; exact rfl; (exact (rfl : true = true)); exact rfl) | (apply ef_pick; (iterate 3 exact rfl)) | (apply ef_len; exact rfl; exact rfl; (assumption)) | (apply ef_ldp; exact rfl; exact rfl; (exact rfl); exact rfl; (exact rfl); (exact rfl)) | (apply ef_fap; exact rfl; exact rfl) | (apply ef_box; (iterate 4 exact rfl)) | apply ef_nil | apply seqQ.normal | apply ef_ret | apply seqQ.ret | apply ef_skip | (apply ef_condt; exact rfl; (exact (rfl : true = true))) | (apply ef_condf; exact rfl; (exact (rfl : false = false))))
  all_goals (refine fin2 rfl (by exact rfl) (by exact rfl) ?_)
  all_goals rw [HC2.out]
  all_goals rfl
 ·have HC3 := Lib.hid (show chkS R C = if (firG (fun _ => rgE C.length) 0 R).2 = 0 then firG (fun _ => rgE R.length) 0 C else firG (fun _ => rgE C.length) 0 R by unfold chkS; rw [if_neg (by omega), if_neg (by omega)])
  have e1 := fun (h : MHeap) => callTT (k := k + 1) (h := h) (args := [.sl (R.map encP), I64 C.length]) (args' := [.sl (R.map encP), I64 C.length]) (frzL_lt (by simp only [ltL, MV.lt, encP_lt, Bool.and_self])) rfl (sides_z k R C.length (by omega))
  have e2 := fun (h : MHeap) => callTT (k := k + 1) (h := h) (args := [.sl (C.map encP), I64 R.length]) (args' := [.sl (C.map encP), I64 R.length]) (frzL_lt (by simp only [ltL, MV.lt, encP_lt, Bool.and_self])) rfl (sides_z k C R.length (by omega))
  by_cases h0 : (firG (fun _ => rgE C.length) 0 R).2 = 0
  ·have HC4 := Lib.hid (HC3.out.trans (if_pos h0))
   clear HC3
   generalize firG (fun _ => rgE C.length) 0 R = r1 at e1 h0
   generalize firG (fun _ => rgE R.length) 0 C = r2 at e2 HC4
   repeat (first | apply ef_seq | (apply ef_mv; exact rfl; exact rfl) | (apply ef_bin; (iterate 3 exact rfl); (exact cmp_f rfl (by simp only [cmpP]; omega))) | (apply ef_gy; exact rfl; (exact (rfl : false = false))) | (apply ef_pick; (iterate 3 exact rfl)) | (apply ef_len; exact rfl; exact rfl; (assumption)) | (apply ef_ldp; exact rfl; exact rfl; (exact rfl); exact rfl; (exact rfl); (exact rfl)) | (apply ef_fap; exact rfl; exact rfl) | (apply ef_box; (iterate 4 exact rfl)) | apply ef_nil | apply seqQ.normal | apply ef_skip | (apply ef_condf; exact rfl; (exact (rfl : false = false))))
   (apply ef_call; (· exact rfl); (· ((repeat (apply XVs.cons; exact rfl)); exact XVs.nil)); · exact e1 _)
   repeat (first | apply ef_seq | (apply ef_mv; exact rfl; exact rfl) | (apply ef_bin; (iterate 3 exact rfl); (exact cmp_f rfl (by simp only [cmpP]; omega))) | (apply ef_len; exact rfl; exact rfl; (assumption)) | (apply ef_ldp; exact rfl; exact rfl; (exact rfl); exact rfl; (exact rfl); (exact rfl)) | (apply ef_fap; exact rfl; exact rfl) | (apply ef_ext; (iterate 3 exact rfl)) | apply ef_nil | apply seqQ.normal | apply ef_skip | (apply ef_condf; exact rfl; (exact (rfl : false = false))))
   (apply ef_call; (· exact rfl); (· ((repeat (apply XVs.cons; exact rfl)); exact XVs.nil)); · exact e2 _)
   repeat (first | (apply ef_mv; exact rfl; exact rfl) | (apply ef_ext; (iterate 3 exact rfl)) | apply ef_nil | apply seqQ.normal | apply ef_ret)
   (refine fin2 rfl (by exact rfl) (by exact rfl) ?_)
   rw [HC4.out]
  ·have HC4 := Lib.hid (HC3.out.trans (if_neg h0))
   clear HC3
   generalize firG (fun _ => rgE C.length) 0 R = r1 at e1 h0 HC4
   repeat (first | apply ef_seq | (apply ef_mv; exact rfl; exact rfl) | (apply ef_bin; (iterate 3 exact rfl); (exact cmp_f rfl (by simp only [cmpP]; omega))) | (apply ef_gy; exact rfl; (exact (rfl : false = false))) | (apply ef_pick; (iterate 3 exact rfl)) | (apply ef_len; exact rfl; exact rfl; (assumption)) | (apply ef_ldp; exact rfl; exact rfl; (exact rfl); exact rfl; (exact rfl); (exact rfl)) | (apply ef_fap; exact rfl; exact rfl) | (apply ef_box; (iterate 4 exact rfl)) | apply ef_nil | apply seqQ.normal | apply ef_skip | (apply ef_condf; exact rfl; (exact (rfl : false = false))))
   (apply ef_call; (· exact rfl); (· ((repeat (apply XVs.cons; exact rfl)); exact XVs.nil)); · exact e1 _)
   repeat (first | apply ef_seq | (apply ef_mv; exact rfl; exact rfl) | (apply ef_bin; (iterate 3 exact rfl); (exact cmp_t rfl (by first | exact rfl | (simp only [cmpP]; omega)))) | (apply ef_ext; (iterate 3 exact rfl)) | apply ef_nil | apply seqQ.normal | apply ef_ret | apply seqQ.ret | (apply ef_condt; exact rfl; (exact (rfl : true = true))))
   (refine fin2 rfl (by exact rfl) (by exact rfl) ?_)
   rw [HC4.out]
theorem rChkS_c (k : Nat) (R C : List (Int × Int)) (h : MHeap) : orA (k + 3) 63 [encS R C] h = some (outI (chkS R C), h) := callTT (args' := [encS R C]) (frzL_lt (by simp only [ltL, encS_lt, Bool.and_self])) rfl (rChkS_z k R C)
theorem mf_rSErr : MT.mf 56 = some ⟨11, [(.tmp 2)], (.seq (.reg [gO 1 (.box 2 (.s 0)), gO 2 (.mv (cI 0))]) (.seq (.reg [gO 6 (.ld (some 2) (.s 1)), gO 7 (.call 63 [.s 6]), gO 5 (.mv (.s 7)), gO 8 (.ext (.s 5) 0), gO 9 (.ext (.s 5) 1), gO 3 (.mv (.s 8)), gO 4 (.mv (.s 9))]) (.seq (.reg [gO 10 (.mv (.s 4)), gO 2 (.mv (.s 10))]) .ret)))⟩ := by kernel_rfl
theorem rSErr_c (k : Nat) (R C : List (Int × Int)) (h : MHeap) : orA (k + 4) 56 [encS R C] h = some (I64 (chkS R C).2, h) := by
 refine callL (args' := [encS R C]) (frzL_lt (by simp only [ltL, encS_lt, Bool.and_self])) rfl (runZ_of mf_rSErr (by simp) ?_)
 simp only [argsL]
 repeat (first | apply ef_seq | (apply ef_mv; exact rfl; exact rfl) | (apply ef_ldp; exact rfl; exact rfl; (exact rfl); exact rfl; (exact rfl); (exact rd_2 rfl rfl)) | (apply ef_ext; (iterate 3 exact rfl)) | (apply ef_box; (iterate 4 exact rfl)) | apply ef_nil | apply seqQ.normal | apply ef_ret | (apply ef_call; exact rfl; ((repeat (apply XVs.cons; exact rfl)); exact XVs.nil); (with_reducible exact rChkS_c k R C _)))
 (refine fin1 rfl (by exact rfl) rfl ?_)
 rfl
structure ValS (R C : List (Int × Int)) : Prop where
 r1 : 0 < R.length
 r5 : R.length ≤ 5
 c1 : 0 < C.length
 c5 : C.length ≤ 5
 rr : ∀ p ∈ R, 0 ≤ p.1 ∧ p.1 ≤ p.2 ∧ p.2 ≤ C.length
 cc : ∀ p ∈ C, 0 ≤ p.1 ∧ p.1 ≤ p.2 ∧ p.2 ≤ R.length
theorem rgE_zero {m : Int} {p : Int × Int} (h : rgE m p = 0) : 0 ≤ p.1 ∧ p.1 ≤ p.2 ∧ p.2 ≤ m := by
 unfold rgE inB at h
 split at h
 ·rename_i h1
  split at h
  ·simp only [Bool.and_eq_true, decide_eq_true_eq] at h1
   omega
  ·omega
 ·omega
theorem firG_all {α : Type} {g : α → Int} {l : List α} (h : (firG (fun _ => g) 0 l).2 = 0) : ∀ x ∈ l, g x = 0 := fun x hx => by
 obtain ⟨j, hj, rfl⟩ := List.getElem_of_mem hx
 exact firG_ok h j hj
theorem chkS_val {R C : List (Int × Int)} (h : (chkS R C).2 = 0) : ValS R C := by
 unfold chkS at h
 split at h
 ·cases h
 rename_i h1
 split at h
 ·cases h
 rename_i h2
 split at h
 ·rename_i h3
  exact ⟨by omega, by omega, by omega, by omega, fun p hp => rgE_zero (firG_all h3 p hp), fun p hp => rgE_zero (firG_all h p hp)⟩
 ·rename_i h3
  exact absurd h h3
theorem firG_zero {α : Type} {g : α → Int} : ∀ {l : List α} {i : Nat}, (∀ x ∈ l, g x = 0) → firG (fun _ => g) i l = (0, 0)
 | [], _, _ => rfl
 | c :: l, i, h => by rw [firG, if_pos (h c (by simp))]; exact firG_zero fun x hx => h x (List.mem_cons_of_mem _ hx)
theorem val_chkS {R C : List (Int × Int)} (h : ValS R C) : chkS R C = (0, 0) := by
 have g : ∀ {m : Int} {p : Int × Int}, 0 ≤ p.1 ∧ p.1 ≤ p.2 ∧ p.2 ≤ m → rgE m p = 0 := fun {m p} hp => by
  unfold rgE inB
  rw [if_pos (by simp only [Bool.and_eq_true, decide_eq_true_eq]; omega), if_pos hp.2.1]
 have := h.r1; have := h.r5; have := h.c1; have := h.c5
 unfold chkS
 rw [if_neg (by omega), if_neg (by omega), firG_zero fun p hp => g (h.rr p hp), firG_zero fun p hp => g (h.cc p hp)]
 rfl
end Go.Proofs.YtnmgpbihknjdjaaGreatDoor

/- Evaluation: a range over a map with what is behind it. -/
namespace Go.Proofs.YtnmgpbihknjdjaaGreatDoor
open Go.RowKit
set_option linter.unusedVariables false
structure EfT (F : MSt → Option (MX2 × MSt)) (n : Nat) (A : Sl) (h : MHeap) (Q : MX2 → Sl → MHeap → Prop) : Prop where
 run : ∀ s, SRel n A s → ∃ x s' h', F ⟨s, h⟩ = some (x, ⟨s', h'⟩) ∧ ∃ A', SRel n A' s' ∧ Q x A' h'
section
variable {O : Oracle} {I : Iter} {N n : Nat} {lk : Nat → Bool} {A : Sl} {h : MHeap} {Q : MX2 → Sl → MHeap → Prop}
noncomputable def mrkS (O : Oracle) (I : Iter) (N : Nat) (lk : Nat → Bool) (keep ke : List Nat) (id : Nat) (m : MX) (r d e : Nat) (b : MC) (k2 : List Nat) (c : MC) (st : MSt) : Option (MX2 × MSt) := match m.get st.s with
      | .rm es => if r < st.s.length ∧ es.all entP = true then
          mrP es fun es' => (((overS (roundS (evC O I N b lk) keep st.h.length r d e) es' ⟨st.s.set r .junk, st.h⟩).bind (finS ke id st.h.length r d e)).bind fun p => match p with
            | (.normal, st') => evC O I N c lk st'
            | p => some p).map fun p => (p.1, headM k2 st.h.length p.2)
        else none
      | _ => none
theorem ef_mrk {gl : List GO} {keep ke : List Nat} {id : Nat} {m : MX} {r d e : Nat} {b : MC} {k2 : List Nat} {c : MC} (hE : Ef O I N n lk (.reg gl) A h (fun x A1 h1 => x = .normal ∧ EfT (mrkS O I N lk keep ke id m r d e b k2 c) n A1 h1 Q)) : Ef O I N n lk (.mrk gl keep ke id m r d e b k2 c) A h Q := .mk fun s hs => by
 obtain ⟨x, s', h', h1, A', h2, rfl, h3⟩ := hE.run s hs
 simp only [evC, Option.map_eq_some_iff, Prod.mk.injEq, true_and, exists_eq_right] at h1
 obtain ⟨y, s2, h2', k1, k2'⟩ := h3.run s' h2
 refine ⟨y, s2, h2', ?_, k2'⟩
 simp only [evC, h1]
 exact k1
theorem finl_eq2 {n : Nat} {A B : Sl} {ke : List Nat} {s : List MV} (hs : SRel n A s) (hB : ∀ t ∈ ke, ∃ v, look A t = some v ∧ look B t = some v) : keepS ke 0 s = finl n ke B := by
 refine List.ext_getElem? fun t => ?_
 by_cases ht : t < n
 ·have hlen : t < s.length := by rw [hs.len]; exact ht
  have e0 : (finl n ke B)[t]? = some (if t ∈ ke then (look B t).getD .junk else .junk) := by simp [finl, ht]
  rw [e0, keepS_get', List.getElem?_eq_getElem hlen, Option.map_some, Nat.zero_add]
  by_cases hk : t ∈ ke
  ·obtain ⟨v, h1, h2⟩ := hB t hk
   have := hs.get t v h1
   rw [List.getD_eq_getElem?_getD, List.getElem?_eq_getElem hlen, Option.getD_some] at this
   simp [hk, h2, this]
  ·simp [hk]
 ·rw [List.getElem?_eq_none (by rw [keepS_len', hs.len]; omega), List.getElem?_eq_none (by simp [finl]; omega)]
theorem eft_mrk {keep ke : List Nat} {id : Nat} {m : MX} {r d e : Nat} {b : MC} {k2 : List Nat} {c : MC} {es : List MV} (J : List MV → Sl → MHeap → Prop) (x : MX2) (B : Sl) (hF : MHeap)
  (hm : XV A m (.rm es)) (hes : es.all entP = true) (hr : Nat.blt r n = true) (hdn : Nat.blt d n = true) (hen : Nat.blt e n = true) (hrk : keep.contains r = false)
  (hkn : keep.all (fun t => Nat.blt t n) = true) (hke : ke.all (fun t => Nat.blt t n && (!Nat.beq t r && (!Nat.beq t d && !Nat.beq t e))) = true) (hk2 : k2.all (fun t => Nat.blt t n) = true)
  (B0 : Sl) (hB0 : Hold A B0) (hB0r : look B0 r = none) (h0 : J [] B0 h)
  (hb : ∀ p k v l B1 h1, (p ++ .tup [k, v] :: l).Perm es → J p B1 h1 → ∃ B2 h2, Hold B1 B2 ∧ (B2.map (·.1)).all (fun t => keep.contains t) = true ∧ HeadIs keep h.length B1 h1 h2 ∧ (∀ t ∈ keep, ∃ v, look B1 t = some v ∧ v.lt h2.length = true) ∧ hltL h2.length h2 = true ∧
   Ef O I N n lk b ((e, .junk) :: (d, .junk) :: (r, .itr k v) :: B2) h2 (fun y A' h' => y = .normal ∧ (∃ k' v', look A' r = some (.itr k' v')) ∧ ∃ B3, Hold A' B3 ∧ J (p ++ [.tup [k, v]]) B3 h'))
  (hfin : ∀ p B1 h1, p.Perm es → J p B1 h1 → ∃ B2 h2, Hold B1 B2 ∧ (B2.map (·.1)).all (fun t => ke.contains t) = true ∧ HeadIs ke h.length B1 h1 h2 ∧ (∀ t ∈ ke, ∃ v, look B1 t = some v ∧ v.lt h2.length = true) ∧ hltL h2.length h2 = true ∧
   Ef O I N n lk c B2 h2 (fun y A' h' => y = x ∧ (∀ t ∈ k2, ∃ v, look A' t = some v ∧ look B t = some v) ∧ HeadIs k2 h.length A' h' hF))
  (hBk : (B.map (·.1)).all (fun t => k2.contains t) = true) (hQ : Q x B hF) : EfT (mrkS O I N lk keep ke id m r d e b k2 c) n A h Q := .mk fun s hs => by
 have hr' : r < n := by simpa [Nat.blt_eq] using hr
 have hd' : d < n := by simpa [Nat.blt_eq] using hdn
 have he' : e < n := by simpa [Nat.blt_eq] using hen
 have key : ∀ (l p : List MV) (A1 B1 : Sl) (s1 : List MV) (h1 : MHeap), (p ++ l).Perm es → SRel n A1 s1 → Sub B1 A1 → J p B1 h1 →
   (((overS (roundS (evC O I N b lk) keep h.length r d e) l ⟨s1, h1⟩).bind (finS ke id h.length r d e)).bind fun p => match p with
         | (.normal, st') => evC O I N c lk st'
         | p => some p).map (fun p => (p.1, headM k2 h.length p.2)) = some (x, ⟨finl n k2 B, hF⟩) := by
  intro l
  induction l with
  | nil =>
   intro p A1 B1 s1 h1 hpm hs1 hA1 hJ
   rw [List.append_nil] at hpm
   obtain ⟨B2, h2, f1, f2, f3, f4, f5, f6⟩ := hfin p B1 h1 hpm hJ
   have hS1 : SRel n B1 s1 := ⟨hs1.len, fun t v ht => hs1.get t v (hA1 t v ht)⟩
   have e1 : headM ke h.length ⟨s1, h1⟩ = ⟨keepS ke 0 s1, h2⟩ := headM_is hS1 (by
    rw [List.all_eq_true]; intro t ht; have := List.all_eq_true.1 hke t ht; rw [Bool.and_eq_true] at this; exact this.1) f3
   have hkk : ∀ t ∈ ke, t < n ∧ t ≠ r ∧ t ≠ d ∧ t ≠ e := fun t ht => by
    have := List.all_eq_true.1 hke t ht
    simp only [Bool.and_eq_true, Nat.blt_eq, Bool.not_eq_true'] at this
    exact ⟨this.1, nbeq this.2.1, nbeq this.2.2.1, nbeq this.2.2.2⟩
   have hl3 : ((((keepS ke 0 s1).set r .junk).set d .junk).set e .junk).length = n := by simp [keepS_len', hs1.len]
   have get3 : ∀ t ∈ ke, ((((keepS ke 0 s1).set r .junk).set d .junk).set e .junk)[t]? = s1[t]? := fun t ht => by
    obtain ⟨n0, n1, n2, n3⟩ := hkk t ht
    have hlen : t < s1.length := by rw [hs1.len]; exact n0
    rw [List.getElem?_set_ne (Ne.symm n3), List.getElem?_set_ne (Ne.symm n2), List.getElem?_set_ne (Ne.symm n1), keepS_get', List.getElem?_eq_getElem hlen]
    simp [ht]
   have hcl : ltL h2.length ((((keepS ke 0 s1).set r .junk).set d .junk).set e .junk) = true := ltL_iff'.2 fun v hv => by
    obtain ⟨t, ht⟩ := List.getElem?_of_mem hv
    by_cases hk : t ∈ ke
    ·rw [get3 t hk] at ht
     obtain ⟨w, q1, q2⟩ := f4 t hk
     have := hS1.get t w q1
     rw [List.getD_eq_getElem?_getD, ht, Option.getD_some] at this
     rw [this]; exact q2
    ·rw [List.getElem?_set, List.getElem?_set, List.getElem?_set] at ht
     have junk : v = .junk → v.lt h2.length = true := fun h => by subst h; rfl
     split at ht
     ·split at ht
      ·exact junk (Option.some.inj ht).symm
      ·cases ht
     ·split at ht
      ·split at ht
       ·exact junk (Option.some.inj ht).symm
       ·cases ht
      ·split at ht
       ·split at ht
        ·exact junk (Option.some.inj ht).symm
        ·cases ht
       ·rw [keepS_get', Option.map_eq_some_iff] at ht
        obtain ⟨w, q1, q2⟩ := ht
        rw [Nat.zero_add, if_neg (by simpa using hk)] at q2
        exact junk q2.symm
   have hfs : finS ke id h.length r d e (.normal, ⟨s1, h1⟩) = some (.normal, ⟨(((keepS ke 0 s1).set r .junk).set d .junk).set e .junk, h2⟩) := by
    unfold finS
    dsimp only
    simp only [e1]
    rw [if_pos (by simp only [clean, okLen, hcl, f5, hs1.len, hr', hd', he', decide_true, Bool.and_self])]
    simp
   have hS2 : SRel n B2 ((((keepS ke 0 s1).set r .junk).set d .junk).set e .junk) := ⟨hl3, fun t v ht => by
    have hk : t ∈ ke := by
     have := List.all_eq_true.1 f2 t (look_mem ht)
     simpa using this
    rw [List.getD_eq_getElem?_getD, get3 t hk, ← List.getD_eq_getElem?_getD]
    exact hS1.get t v (f1.sub t v ht)⟩
   obtain ⟨y, s', h', k1, A', k2', rfl, k4, k5⟩ := f6.run _ hS2
   simp only [overS, Option.bind_some, hfs, k1, Option.map_some]
   rw [headM_is k2' hk2 k5, finl_eq2 k2' k4]
  | cons c0 l ih =>
   intro p A1 B1 s1 h1 hpm hs1 hA1 hJ
   have hce : entP c0 = true := List.all_eq_true.1 hes c0 (hpm.mem_iff.1 (by simp))
   obtain ⟨k, v, rfl⟩ : ∃ k v, c0 = .tup [k, v] := by
    unfold entP at hce
    split at hce
    ·exact ⟨_, _, rfl⟩
    ·cases hce
   obtain ⟨B2, h2, f1, f2, f3, f4, f5, f6⟩ := hb p k v l B1 h1 hpm hJ
   have hS1 : SRel n B1 s1 := ⟨hs1.len, fun t v ht => hs1.get t v (hA1 t v ht)⟩
   have e1 : headM keep h.length ⟨s1, h1⟩ = ⟨keepS keep 0 s1, h2⟩ := headM_is hS1 hkn f3
   have hsk : SRel n B2 (keepS keep 0 s1) := ⟨by rw [keepS_len', hs1.len], fun t v ht => by
    have hk : t ∈ keep := by
     have := List.all_eq_true.1 f2 t (look_mem ht)
     simpa using this
    rw [keepS_getD hk]
    exact hS1.get t v (f1.sub t v ht)⟩
   have hcl : ltL h2.length (keepS keep 0 s1) = true := ltL_iff'.2 fun v hv => by
    obtain ⟨t, ht⟩ := List.getElem?_of_mem hv
    rw [keepS_get', Option.map_eq_some_iff] at ht
    obtain ⟨v0, h3, rfl⟩ := ht
    simp only [Nat.zero_add]
    split
    ·rename_i hc
     obtain ⟨v, q1, q2⟩ := f4 t (by simpa using hc)
     have := hS1.get t v q1
     rw [List.getD_eq_getElem?_getD, h3, Option.getD_some] at this
     rw [this]; exact q2
    ·rfl
   obtain ⟨y, s', h', k1, A', k2', rfl, ⟨k', v', k3⟩, B3, k4, k5⟩ := f6.run ((((keepS keep 0 s1).set r (.itr k v)).set d .junk).set e .junk) (((hsk.put hr' _).put hd' _).put he' _)
   have hcok : (clean ⟨keepS keep 0 s1, h2⟩ && okLen r d e s1) = true := by simp only [clean, okLen, hcl, f5, hs1.len, hr', hd', he', decide_true, Bool.and_self]
   have hro : roundS (evC O I N b lk) keep h.length r d e (.tup [k, v]) ⟨s1, h1⟩ = some (.normal, ⟨s', h'⟩) := by
    unfold roundS
    simp only [e1]
    rw [if_pos hcok, k1]
    exact if_pos (by rw [k2'.get r _ k3]; rfl)
   simp only [overS, hro]
   exact ih (p ++ [.tup [k, v]]) A' B3 s' h' (by simpa using hpm) k2' k4.sub k5
 refine ⟨x, finl n k2 B, hF, ?_, B, ⟨by simp [finl], fun t v ht => ?_⟩, hQ⟩
 ·unfold mrkS
  rw [hs.x hm]
  dsimp only
  rw [if_pos ⟨by rw [hs.len]; exact hr', hes⟩]
  refine mrP_of fun es' hp => ?_
  refine key es' [] B0 B0 _ h hp ⟨by rw [List.length_set, hs.len], fun t v ht => ?_⟩ (fun _ _ h => h) h0
  ·have hne : r ≠ t := fun e => by subst e; rw [hB0r] at ht; cases ht
   rw [List.getD_eq_getElem?_getD, List.getElem?_set_ne hne, ← List.getD_eq_getElem?_getD]
   exact hs.get t v (hB0.sub t v ht)
 ·have hk : t ∈ k2 := by
   have := List.all_eq_true.1 hBk t (look_mem ht)
   simpa using this
  have htn : t < n := by have := List.all_eq_true.1 hk2 t hk; simpa [Nat.blt_eq] using this
  simp [finl, List.getD_eq_getElem?_getD, htn, hk, ht]
end
end Go.Proofs.YtnmgpbihknjdjaaGreatDoor

/- Chapter 9: shadows that have bodies, their volumes. -/
namespace Go.Proofs.YtnmgpbihknjdjaaGreatDoor
open Go.RowKit
set_option linter.unusedVariables false
def opnE (R C : List (Int × Int)) : Int := if (chkS R C).2 = 0 then (if possB R C anyP then 0 else 12) else (chkS R C).2
abbrev outS (R C : List (Int × Int)) (e : Int) : MV := .tup [encS R C, I64 e]
theorem openS_z (k : Nat) (R C : List (Int × Int)) (hR : R.length ≤ 100) (hC : C.length ≤ 100) : runZ MT (orA (k + 6)) (itA (k + 6)) 4000000 146 [encS R C] [] = some (outS R C (opnE R C), []) := by
 refine runZ_of mf_open (by simp) ?_
 simp only [argsL]
 have hlt := encS_lt 0 R C
 have hck := ChkS_c k R C hR hC
 by_cases h0 : (chkS R C).2 = 0
 ·have hv := chkS_val h0
  have HE := Lib.hid (show opnE R C = if possB R C anyP then 0 else 12 from if_pos h0)
  have hp := fun h => possible_c k R C (.fn 170 0 []) anyP hv.r5 hv.c5 (may_any (k + 3) _) h
  generalize chkS R C = ck at *
  cases hb : possB R C anyP
  ·rw [hb] at hp
   rw [hb] at HE
   repeat (first | apply ef_seq | (apply ef_mv; exact rfl; exact rfl) | (apply ef_ldp; exact rfl; exact rfl; (exact rfl); exact rfl; (exact rfl); (exact rd_2 rfl rfl)) | (apply ef_box; (iterate 4 exact rfl)) | (apply ef_new; exact rfl) | apply ef_nil | apply seqQ.normal)
   (apply ef_call; (· exact rfl); (· ((repeat (apply XVs.cons; exact rfl)); exact XVs.nil)); · exact hck _)
   repeat (first | apply ef_seq | (apply ef_mv; exact rfl; exact rfl) | (apply ef_bin; (iterate 3 exact rfl); (exact cmp_t rfl (by first | exact rfl | (simp only [cmpP]; omega)))) | (apply ef_ldp; exact rfl; exact rfl; (exact rfl); exact rfl; (exact rfl); (exact rd_2 rfl rfl)) | (apply ef_ext; (iterate 3 exact rfl)) | (apply ef_newst; (iterate 3 exact rfl); (exact rfl); exact rfl) | (apply ef_build; exact rfl; (repeat (apply XVs.cons; exact rfl)); exact XVs.nil; exact rfl; exact rfl) | apply ef_nil | apply seqQ.normal | (apply ef_condt; exact rfl; (exact (rfl : true = true))))
   (apply ef_call; (· exact rfl); (· ((repeat (apply XVs.cons; exact rfl)); exact XVs.nil)); · exact hp _)
   repeat (fail)
   (apply ef_call; (· exact rfl); (· ((repeat (apply XVs.cons; exact rfl)); exact XVs.nil)); · exact unless_c (k + 5) false 12 _ (e := 12) rfl)
   repeat (first | apply ef_seq | (apply ef_mv; exact rfl; exact rfl) | (apply ef_ldp; exact rfl; exact rfl; (exact rfl); exact rfl; (exact rfl); (exact rd_2 rfl rfl)) | (apply ef_st; (iterate 6 exact rfl); (exact rfl); exact rfl) | apply ef_nil | apply seqQ.normal | apply ef_ret)
   refine finR2 (v := encS R C) (w := I64 12) rfl ?_ (by exact rfl) hlt rfl (by rw [HE.out]; rfl)
   apply resC <;> exact rfl
  ·rw [hb] at hp
   rw [hb] at HE
   repeat (first | apply ef_seq | (apply ef_mv; exact rfl; exact rfl) | (apply ef_ldp; exact rfl; exact rfl; (exact rfl); exact rfl; (exact rfl); (exact rd_2 rfl rfl)) | (apply ef_box; (iterate 4 exact rfl)) | (apply ef_new; exact rfl) | apply ef_nil | apply seqQ.normal)
   (apply ef_call; (· exact rfl); (· ((repeat (apply XVs.cons; exact rfl)); exact XVs.nil)); · exact hck _)
   repeat (first | apply ef_seq | (apply ef_mv; exact rfl; exact rfl) | (apply ef_bin; (iterate 3 exact rfl); (exact cmp_t rfl (by first | exact rfl | (simp only [cmpP]; omega)))) | (apply ef_ldp; exact rfl; exact rfl; (exact rfl); exact rfl; (exact rfl); (exact rd_2 rfl rfl)) | (apply ef_ext; (iterate 3 exact rfl)) | (apply ef_newst; (iterate 3 exact rfl); (exact rfl); exact rfl) | (apply ef_build; exact rfl; (repeat (apply XVs.cons; exact rfl)); exact XVs.nil; exact rfl; exact rfl) | apply ef_nil | apply seqQ.normal | (apply ef_condt; exact rfl; (exact (rfl : true = true))))
   (apply ef_call; (· exact rfl); (· ((repeat (apply XVs.cons; exact rfl)); exact XVs.nil)); · exact hp _)
   repeat (fail)
   (apply ef_call; (· exact rfl); (· ((repeat (apply XVs.cons; exact rfl)); exact XVs.nil)); · exact unless_c (k + 5) true 12 _ (e := 0) rfl)
   repeat (first | apply ef_seq | (apply ef_mv; exact rfl; exact rfl) | (apply ef_ldp; exact rfl; exact rfl; (exact rfl); exact rfl; (exact rfl); (exact rd_2 rfl rfl)) | (apply ef_st; (iterate 6 exact rfl); (exact rfl); exact rfl) | apply ef_nil | apply seqQ.normal | apply ef_ret)
   refine finR2 (v := encS R C) (w := I64 0) rfl ?_ (by exact rfl) hlt rfl (by rw [HE.out]; rfl)
   apply resC <;> exact rfl
 ·have HE := Lib.hid (show opnE R C = (chkS R C).2 from if_neg h0)
  generalize chkS R C = ck at *
  repeat (first | apply ef_seq | (apply ef_mv; exact rfl; exact rfl) | (apply ef_ldp; exact rfl; exact rfl; (exact rfl); exact rfl; (exact rfl); (exact rd_2 rfl rfl)) | (apply ef_box; (iterate 4 exact rfl)) | (apply ef_new; exact rfl) | apply ef_nil | apply seqQ.normal)
  (apply ef_call; (· exact rfl); (· ((repeat (apply XVs.cons; exact rfl)); exact XVs.nil)); · exact hck _)
  repeat (first | apply ef_seq | (apply ef_mv; exact rfl; exact rfl) | (apply ef_bin; (iterate 3 exact rfl); (exact cmp_f rfl (by simp only [cmpP]; omega))) | (apply ef_ldp; exact rfl; exact rfl; (exact rfl); exact rfl; (exact rfl); (exact rd_2 rfl rfl)) | (apply ef_ext; (iterate 3 exact rfl)) | (apply ef_newst; (iterate 3 exact rfl); (exact rfl); exact rfl) | (apply ef_build; exact rfl; (repeat (apply XVs.cons; exact rfl)); exact XVs.nil; exact rfl; exact rfl) | (apply ef_st; (iterate 6 exact rfl); (exact rfl); exact rfl) | apply ef_nil | apply seqQ.normal | apply ef_ret | apply ef_skip | (apply ef_condf; exact rfl; (exact (rfl : false = false))))
  refine finR2 (v := encS R C) (w := I64 ck.2) rfl ?_ (by exact rfl) hlt rfl (by rw [HE.out])
  apply resC <;> exact rfl
theorem ltS0 (R C : List (Int × Int)) : ltL 0 [encS R C] = true := by
 show ((encS R C).lt 0 && true) = true
 rw [encS_lt]; rfl
theorem openS_c (k : Nat) (R C : List (Int × Int)) (hR : R.length ≤ 100) (hC : C.length ≤ 100) (h : MHeap) : orA (k + 7) 146 [encS R C] h = some (outS R C (opnE R C), h) := by
 have := callA (k := k + 6) (h := h) (args := [encS R C]) (args' := [encS R C]) (frzL_lt (ltS0 R C)) rfl (openS_z k R C hR hC) (by rw [ltS0]; show ((MV.lt 0 (encS R C) && true) && _) = true; rw [encS_lt]; rfl) rfl
 simpa [shV, sh1] using this
theorem total_z (k : Nat) (a b c d e : Int) (ha : 0 ≤ a ∧ a ≤ 100) (hb : 0 ≤ b ∧ b ≤ 100) (hc : 0 ≤ c ∧ c ≤ 100) (hd : 0 ≤ d ∧ d ≤ 100) (he : 0 ≤ e ∧ e ≤ 100) : runZ MT (orA k) (itA k) 4000000 145 [keyA [a, b, c, d, e]] [] = some (I64 [a, b, c, d, e].sum, []) := by
 have hz : runZ MT (orA k) (itA k) 4000000 145 [keyA [a, b, c, d, e]] [] = some (W64 (IntKind.i64.wrap (IntKind.i64.wrap (IntKind.i64.wrap (IntKind.i64.wrap (0 + a) + b) + c) + d) + e), []) := by kernel_rfl
 rw [hz]
 have w : ∀ z : Int, 0 ≤ z ∧ z ≤ 1000 → IntKind.i64.wrap z = z := fun z hz => wrap_of (by omega) (by omega)
 simp only [W64]
 rw [w (0 + a) (by omega), w (0 + a + b) (by omega), w (0 + a + b + c) (by omega), w (0 + a + b + c + d) (by omega), w (0 + a + b + c + d + e) (by omega)]
 simp only [List.sum_cons, List.sum_nil]
 rw [show (0 + a + b + c + d + e : Int) = a + (b + (c + (d + (e + 0)))) by omega]
theorem total_c (k : Nat) (v : List Int) (hl : v.length = 5) (hv : ∀ x ∈ v, 0 ≤ x ∧ x ≤ 100) (h : MHeap) : orA (k + 1) 145 [keyA v] h = some (I64 v.sum, h) := by
 obtain ⟨a, b, c, d, e, rfl⟩ : ∃ a b c d e, v = [a, b, c, d, e] := by
  match v, hl with
  | [a, b, c, d, e], _ => exact ⟨a, b, c, d, e, rfl⟩
 exact callL (args' := [keyA [a, b, c, d, e]]) (frzL_lt (by show ((keyA [a, b, c, d, e]).lt 0 && true) = true; rw [keyA_lt]; rfl)) rfl (total_z k a b c d e (hv a (by simp)) (hv b (by simp)) (hv c (by simp)) (hv d (by simp)) (hv e (by simp)))
theorem mf_Min : MT.mf 172 = some ⟨25, [(.tmp 2)], (.seq (.reg [gO 2 (.mv (cI 0))]) (.seq (.seq (.reg [gO 5 (.mv (.s 0)), gO 6 (.len (.s 5)), gO 7 (.bin .lss (.s 6) (cI 1))]) (.cond (.s 7) (.reg [gO 8 (.bad), ⟨none, none, .bad⟩]) .skip)) (.seq (.reg [gO 9 (.mv (.s 0)), gO 10 (.ia 1 (.s 9) (cI 0)), gO 11 (.ld none (.s 10)), gO 3 (.mv (.s 11))]) (.seq (.seq (.reg [gO 4 (.mv (cI 1))]) (.block 0 (.loop [4, 0, 3] (.seq (.seq (.reg [gO 12 (.mv (.s 4)), gO 13 (.mv (.s 0)), gO 14 (.len (.s 13)), gO 15 (.bin .lss (.s 12) (.s 14))]) (.cond (.s 15) .skip (.exit 0))) (.seq (.block 1 (.reg [gO 18 (.mv (.s 3)), gO 19 (.mv (.s 0)), gO 20 (.mv (.s 4)), gO 21 (.ia 1 (.s 19) (.s 20)), gO 22 (.ld none (.s 21)), gO 23 (.mn (.s 18) (.s 22)), gO 3 (.mv (.s 23))])) (.reg [gO 16 (.mv (.s 4)), gO 17 (.bin .add (.s 16) (cI 1)), gO 4 (.mv (.s 17))])))))) (.seq (.reg [gO 24 (.mv (.s 3)), gO 2 (.mv (.s 24))]) .ret)))))⟩ := by kernel_rfl
theorem mf_Max : MT.mf 173 = some ⟨25, [(.tmp 2)], (.seq (.reg [gO 2 (.mv (cI 0))]) (.seq (.seq (.reg [gO 5 (.mv (.s 0)), gO 6 (.len (.s 5)), gO 7 (.bin .lss (.s 6) (cI 1))]) (.cond (.s 7) (.reg [gO 8 (.bad), ⟨none, none, .bad⟩]) .skip)) (.seq (.reg [gO 9 (.mv (.s 0)), gO 10 (.ia 1 (.s 9) (cI 0)), gO 11 (.ld none (.s 10)), gO 3 (.mv (.s 11))]) (.seq (.seq (.reg [gO 4 (.mv (cI 1))]) (.block 0 (.loop [4, 0, 3] (.seq (.seq (.reg [gO 12 (.mv (.s 4)), gO 13 (.mv (.s 0)), gO 14 (.len (.s 13)), gO 15 (.bin .lss (.s 12) (.s 14))]) (.cond (.s 15) .skip (.exit 0))) (.seq (.block 1 (.reg [gO 18 (.mv (.s 3)), gO 19 (.mv (.s 0)), gO 20 (.mv (.s 4)), gO 21 (.ia 1 (.s 19) (.s 20)), gO 22 (.ld none (.s 21)), gO 23 (.mx (.s 18) (.s 22)), gO 3 (.mv (.s 23))])) (.reg [gO 16 (.mv (.s 4)), gO 17 (.bin .add (.s 16) (cI 1)), gO 4 (.mv (.s 17))])))))) (.seq (.reg [gO 24 (.mv (.s 3)), gO 2 (.mv (.s 24))]) .ret)))))⟩ := by kernel_rfl
theorem mn_next (x : Int) (l : List Int) (j : Nat) (h : j < l.length) : mnL (x :: l.take (j + 1)) = if l[j] < mnL (x :: l.take j) then l[j] else mnL (x :: l.take j) := by
 rw [List.take_add_one, List.getElem?_eq_getElem h]
 exact mnL_app (l := x :: l.take j) (by simp) _
theorem mx_next (x : Int) (l : List Int) (j : Nat) (h : j < l.length) : mxL (x :: l.take (j + 1)) = if mxL (x :: l.take j) < l[j] then l[j] else mxL (x :: l.take j) := by
 rw [List.take_add_one, List.getElem?_eq_getElem h]
 exact mxL_app (l := x :: l.take j) (by simp) _
theorem Min_z (k : Nat) (x : Int) (l : List Int) (hx : l.length ≤ 1000000) : runZ MT (orA k) (itA k) 4000000 172 [.sl ((x :: l).map I64)] [] = some (I64 (mnL (x :: l)), []) := by
 have hl : (MV.sl ((x :: l).map I64)).slen = some (l.length + 1) := by simp [MV.slen]
 have h0 : ((x :: l).map I64)[(0 : Int).toNat]? = some (I64 x) := rfl
 refine runZ_of mf_Min (by simp) ?_
 simp only [argsL]
 repeat (first | apply ef_seq | (apply ef_mv; exact rfl; exact rfl) | (apply ef_bin; (iterate 3 exact rfl); (exact cmp_f rfl (by simp only [cmpP]; omega))) | (apply ef_len; exact rfl; exact rfl; (assumption)) | (apply ef_ldr; exact rfl; exact rfl; (exact rfl)) | (apply ef_ias; (iterate 3 exact rfl); (omega); assumption; exact rfl) | apply ef_nil | apply seqQ.normal | apply ef_block | apply ef_skip | (apply ef_condf; exact rfl; (exact (rfl : false = false))))
 refine ef_loopf (α := Nat × Int) (fun a => a.1 ≤ l.length ∧ a.2 = mnL (x :: l.take a.1)) (fun a => [(4, I64 ((a.1 + 1 : Nat) : Int)), (3, I64 a.2)]) [(0, .sl ((x :: l).map I64))] (fun _ => []) (fun a => l.length - a.1) (0, x) [4, 3] (fun _ => rfl) (by ((repeat (refine Hold.cons (by exact rfl) ?_)); exact Hold.nil)) (by ((repeat (refine Hold.cons (by exact rfl) ?_)); exact Hold.nil)) rfl rfl ⟨Nat.zero_le _, rfl⟩ (by simp; omega) ?_
 rintro ⟨j, m⟩ ⟨hj, hm⟩
 simp only at hj hm
 by_cases hlt : j < l.length
 ·have e1 : ((x :: l).map I64)[((j + 1 : Nat) : Int).toNat]? = some (I64 l[j]) := by
   rw [Int.toNat_natCast, List.getElem?_map, List.getElem?_cons_succ, List.getElem?_eq_getElem hlt]; rfl
  have HN := Lib.hid (mn_next x l j hlt)
  rw [← hm] at HN
  generalize l[j] = y at *
  clear hm
  repeat (first | apply ef_seq | (apply ef_mv; exact rfl; exact rfl) | (apply ef_bin; (iterate 3 exact rfl); (first | exact cmp_t rfl (by first | exact rfl | (simp only [cmpP]; omega)) | ((with_reducible refine bin_add (wrap_of ?_ ?_)) <;> omega))) | (apply ef_len; exact rfl; exact rfl; (assumption)) | (apply ef_ldr; exact rfl; exact rfl; (exact rfl)) | (apply ef_ias; (iterate 3 exact rfl); (omega); assumption; exact rfl) | (apply ef_mn; (iterate 3 exact rfl)) | apply ef_nil | apply seqQ.normal | apply blockQ.normal | apply ef_block | apply ef_skip | (apply ef_condt; exact rfl; (exact (rfl : true = true))))
  (refine loopQ.normal _ _ ⟨(j + 1, mn m y), ⟨hlt, HN.out.symm⟩, (by first | (simp only; omega) | omega), ⟨by ((repeat (refine Hold.cons (by exact rfl) ?_)); exact Hold.nil), by ((repeat (refine Hold.cons (by exact rfl) ?_)); exact Hold.nil)⟩, .inl (Nat.le_refl _), (by first | exact List.take_length | exact rfl | exact takeF rfl rfl)⟩)
 ·obtain rfl : j = l.length := by omega
  have HM := Lib.hid hm
  clear hm
  repeat (first | apply ef_seq | (apply ef_mv; exact rfl; exact rfl) | (apply ef_bin; (iterate 3 exact rfl); (exact cmp_f rfl (by simp only [cmpP]; omega))) | (apply ef_len; exact rfl; exact rfl; (assumption)) | apply ef_nil | apply seqQ.normal | apply loopQ.exit | apply ef_ret | apply ef_exit | apply seqQ.exit | apply blockQ.here | (apply ef_condf; exact rfl; (exact (rfl : false = false))))
  (refine fin1 rfl (by exact rfl) rfl ?_)
  rw [HM.out, List.take_length]
theorem Max_z (k : Nat) (x : Int) (l : List Int) (hx : l.length ≤ 1000000) : runZ MT (orA k) (itA k) 4000000 173 [.sl ((x :: l).map I64)] [] = some (I64 (mxL (x :: l)), []) := by
 have hl : (MV.sl ((x :: l).map I64)).slen = some (l.length + 1) := by simp [MV.slen]
 have h0 : ((x :: l).map I64)[(0 : Int).toNat]? = some (I64 x) := rfl
 refine runZ_of mf_Max (by simp) ?_
 simp only [argsL]
 repeat (first | apply ef_seq | (apply ef_mv; exact rfl; exact rfl) | (apply ef_bin; (iterate 3 exact rfl); (exact cmp_f rfl (by simp only [cmpP]; omega))) | (apply ef_len; exact rfl; exact rfl; (assumption)) | (apply ef_ldr; exact rfl; exact rfl; (exact rfl)) | (apply ef_ias; (iterate 3 exact rfl); (omega); assumption; exact rfl) | apply ef_nil | apply seqQ.normal | apply ef_block | apply ef_skip | (apply ef_condf; exact rfl; (exact (rfl : false = false))))
 refine ef_loopf (α := Nat × Int) (fun a => a.1 ≤ l.length ∧ a.2 = mxL (x :: l.take a.1)) (fun a => [(4, I64 ((a.1 + 1 : Nat) : Int)), (3, I64 a.2)]) [(0, .sl ((x :: l).map I64))] (fun _ => []) (fun a => l.length - a.1) (0, x) [4, 3] (fun _ => rfl) (by ((repeat (refine Hold.cons (by exact rfl) ?_)); exact Hold.nil)) (by ((repeat (refine Hold.cons (by exact rfl) ?_)); exact Hold.nil)) rfl rfl ⟨Nat.zero_le _, rfl⟩ (by simp; omega) ?_
 rintro ⟨j, m⟩ ⟨hj, hm⟩
 simp only at hj hm
 by_cases hlt : j < l.length
 ·have e1 : ((x :: l).map I64)[((j + 1 : Nat) : Int).toNat]? = some (I64 l[j]) := by
   rw [Int.toNat_natCast, List.getElem?_map, List.getElem?_cons_succ, List.getElem?_eq_getElem hlt]; rfl
  have HN := Lib.hid (mx_next x l j hlt)
  rw [← hm] at HN
  generalize l[j] = y at *
  clear hm
  repeat (first | apply ef_seq | (apply ef_mv; exact rfl; exact rfl) | (apply ef_bin; (iterate 3 exact rfl); (first | exact cmp_t rfl (by first | exact rfl | (simp only [cmpP]; omega)) | ((with_reducible refine bin_add (wrap_of ?_ ?_)) <;> omega))) | (apply ef_len; exact rfl; exact rfl; (assumption)) | (apply ef_ldr; exact rfl; exact rfl; (exact rfl)) | (apply ef_ias; (iterate 3 exact rfl); (omega); assumption; exact rfl) | (apply ef_mx; (iterate 3 exact rfl)) | apply ef_nil | apply seqQ.normal | apply blockQ.normal | apply ef_block | apply ef_skip | (apply ef_condt; exact rfl; (exact (rfl : true = true))))
  (refine loopQ.normal _ _ ⟨(j + 1, mx m y), ⟨hlt, HN.out.symm⟩, (by first | (simp only; omega) | omega), ⟨by ((repeat (refine Hold.cons (by exact rfl) ?_)); exact Hold.nil), by ((repeat (refine Hold.cons (by exact rfl) ?_)); exact Hold.nil)⟩, .inl (Nat.le_refl _), (by first | exact List.take_length | exact rfl | exact takeF rfl rfl)⟩)
 ·obtain rfl : j = l.length := by omega
  have HM := Lib.hid hm
  clear hm
  repeat (first | apply ef_seq | (apply ef_mv; exact rfl; exact rfl) | (apply ef_bin; (iterate 3 exact rfl); (exact cmp_f rfl (by simp only [cmpP]; omega))) | (apply ef_len; exact rfl; exact rfl; (assumption)) | apply ef_nil | apply seqQ.normal | apply loopQ.exit | apply ef_ret | apply ef_exit | apply seqQ.exit | apply blockQ.here | (apply ef_condf; exact rfl; (exact (rfl : false = false))))
  (refine fin1 rfl (by exact rfl) rfl ?_)
  rw [HM.out, List.take_length]
theorem Min_c (k : Nat) (xs : List Int) (h : MHeap) {v : MV} (hx : xs.length ≤ 1000000) (h0 : xs ≠ []) (hv : frz 0 [] h 8 v = some (.sl (xs.map I64))) : orA (k + 1) 172 [v] h = some (I64 (mnL xs), h) := by
 cases xs with
 | nil => exact absurd rfl h0
 | cons x l => exact callL (args' := [.sl ((x :: l).map I64)]) (by simp [List.mapM_cons, hv]) rfl (Min_z k x l (by simp at hx; omega))
theorem Max_c (k : Nat) (xs : List Int) (h : MHeap) {v : MV} (hx : xs.length ≤ 1000000) (h0 : xs ≠ []) (hv : frz 0 [] h 8 v = some (.sl (xs.map I64))) : orA (k + 1) 173 [v] h = some (I64 (mxL xs), h) := by
 cases xs with
 | nil => exact absurd rfl h0
 | cons x l => exact callL (args' := [.sl ((x :: l).map I64)]) (by simp [List.mapM_cons, hv]) rfl (Max_z k x l (by simp at hx; omega))
end Go.Proofs.YtnmgpbihknjdjaaGreatDoor

/- Chapter 9: the bounds of the volume. -/
namespace Go.Proofs.YtnmgpbihknjdjaaGreatDoor
open Go.RowKit
set_option linter.unusedVariables false
theorem giveV_arrg {lk : Nat → Bool} {h : MHeap} {id k sz g : Nat} {nl : Bool} {es : List MV} (ho : h[id]? = some ⟨g, nl, sz, es⟩) (hk : k = es.length) (hl : ltL 0 es = true) (h1 : lk id = false) : giveV lk h (.arr id 0 k g) = some (.sl es, h.set id ⟨g + 1, nl, sz, []⟩) := by
 have hids : MV.ids h 6 (.arr id 0 k g) = [id] := by
  have e2 : MV.ids h 6 (.arr id 0 k g) = id :: (match h[id]? with | some o => o.es.flatMap (MV.ids h 5) | none => []) := rfl
  rw [ho] at e2
  dsimp only at e2
  rw [idsL_lt0 hl] at e2
  exact e2
 have hmap : (h.mapIdx fun i p => if ([id] : List Nat).contains i then (⟨p.g + 1, p.nl, p.sz, []⟩ : MObj) else p) = h.set id ⟨g + 1, nl, sz, []⟩ := by
  apply List.ext_getElem?
  intro j
  rw [List.getElem?_mapIdx, List.getElem?_set]
  by_cases e : j = id
  ·subst e
   rw [if_pos rfl, if_pos (List.getElem?_eq_some_iff.1 ho).1, ho]
   simp
  ·rw [if_neg (by omega)]
   cases h[j]? <;> simp [e]
 have himp : ((List.range h.length).filter fun i => !([id] : List Nat).contains i).contains id = false := by
  rw [Bool.eq_false_iff]
  intro hc
  simp only [List.contains_iff_mem, List.mem_filter] at hc
  simpa using hc.2
 have hfr : frz 0 ((List.range h.length).filter fun i => !([id] : List Nat).contains i) h 8 (.arr id 0 k g) = some (.sl es) := by
  have h3 : es.take k = es := List.take_of_length_le (by omega)
  simp only [frz, MV.lt, Nat.not_lt_zero, decide_false, Bool.false_eq_true, if_false, himp, ho]
  simp only [hl, if_true, List.drop_zero, h3]
  simp; omega
 unfold giveV
 rw [hids, hfr]
 simp only [hmap]
 simp [h1]
def volsE (C : List (Int × Int)) (p : List MV) : List Int := ((p.map unK).filter (hasB C)).map List.sum
theorem volsE_app (C : List (Int × Int)) (p : List MV) (u : List Int) : volsE C (p ++ [entK u]) = volsE C p ++ if hasB C u then [u.sum] else [] := by
 unfold volsE
 rw [List.map_append, List.filter_append, List.map_append]
 congr 1
 simp only [List.map_cons, List.map_nil, unK_ent, List.filter_cons, List.filter_nil]
 split <;> rfl
theorem volsE_len (C : List (Int × Int)) (p : List MV) : (volsE C p).length ≤ p.length := by
 unfold volsE
 rw [List.length_map]
 refine Nat.le_trans (List.length_filter_le _ _) ?_
 rw [List.length_map]; exact Nat.le_refl _
abbrev M0v (R C : List (Int × Int)) (vs : List Int) : MHeap := [⟨0, false, 2, [encS R C]⟩, ⟨0, false, 2, [.agg [I64 0, I64 0]]⟩, ⟨0, false, 2, [encS R C]⟩, ⟨vs.length, vs.isEmpty, 1, vs.map I64⟩]
abbrev B0v (n : Nat) : Sl := [(6, .arr 3 0 n n), (2, .ptr 1 0 0 0), (3, I64 0), (4, .ptr 2 0 0 0)]
structure JV (R C : List (Int × Int)) (p : List MV) (B : Sl) (h : MHeap) : Prop where
 b : B = B0v (volsE C p).length
 h : h.take 4 = M0v R C (volsE C p)
theorem I64_lt (n : Nat) (l : List Int) : ltL n (l.map I64) = true := ltL_iff'.2 fun m hm => by obtain ⟨e, _, rfl⟩ := List.mem_map.1 hm; rfl
theorem M0v_lt (n : Nat) (R C : List (Int × Int)) (vs : List Int) : hltL n (M0v R C vs) = true := by
 simp only [hltL, List.all_cons, List.all_nil, ltL, encS_lt, I64_lt, Bool.and_true, Bool.true_and]
 rfl
theorem five_of : ∀ {v : List Int}, v.length = 5 → ∃ a b c d e, v = [a, b, c, d, e]
 | [a, b, c, d, e], _ => ⟨a, b, c, d, e, rfl⟩
 | [], h => by simp at h
 | [_], h => by simp at h
 | [_, _], h => by simp at h
 | [_, _, _], h => by simp at h
 | [_, _, _, _], h => by simp at h
 | _ :: _ :: _ :: _ :: _ :: _ :: _, h => by simp at h
def code6 : List Int → Nat
 | [] => 0
 | x :: l => x.toNat + 6 * code6 l
theorem code6_lt : ∀ {v : List Int}, (∀ x ∈ v, 0 ≤ x ∧ x ≤ 5) → code6 v < 6 ^ v.length
 | [], _ => by simp [code6]
 | x :: l, h => by
  have h1 := code6_lt (v := l) fun y hy => h y (List.mem_cons_of_mem _ hy)
  have h2 := h x (by simp)
  simp only [code6, List.length_cons, Nat.pow_succ]
  omega
theorem code6_inj : ∀ {v w : List Int}, v.length = w.length → (∀ x ∈ v, 0 ≤ x ∧ x ≤ 5) → (∀ x ∈ w, 0 ≤ x ∧ x ≤ 5) → code6 v = code6 w → v = w
 | [], [], _, _, _, _ => rfl
 | [], _ :: _, h, _, _, _ => by simp at h
 | _ :: _, [], h, _, _, _ => by simp at h
 | x :: v, y :: w, h, h1, h2, h3 => by
  have a1 := h1 x (by simp)
  have a2 := h2 y (by simp)
  simp only [code6] at h3
  have e1 : x = y := by omega
  have e2 : code6 v = code6 w := by omega
  rw [e1, code6_inj (by simpa using h) (fun z hz => h1 z (List.mem_cons_of_mem _ hz)) (fun z hz => h2 z (List.mem_cons_of_mem _ hz)) e2]
theorem reach_len (R : List (Int × Int)) (m : Nat) (P : Nat → Nat → Bool) (hR : R.length ≤ 5) : (reachL R m P R.length).length ≤ 7776 := by
 obtain ⟨h1, h2⟩ := reachL_ok R m P R.length
 generalize reachL R m P R.length = l at *
 have hb : ∀ v ∈ l, v.length = 5 ∧ ∀ x ∈ v, 0 ≤ x ∧ x ≤ 5 := fun v hv => ⟨(h1 v hv).1, fun x hx => by have := (h1 v hv).2 x hx; omega⟩
 have hn : (l.map code6).Nodup := by
  unfold List.Nodup
  rw [List.pairwise_map]
  refine List.Pairwise.imp_of_mem (R := fun a b => ltK a b = true) (fun {a b} ha hb2 hlt e => ?_) h2
  have := code6_inj ((hb a ha).1.trans (hb b hb2).1.symm) (hb a ha).2 (hb b hb2).2 e
  rw [this, ltK_irrefl] at hlt; cases hlt
 have := nodup_len (n := 7776) hn fun i hi => by
  obtain ⟨v, hv, rfl⟩ := List.mem_map.1 hi
  have := code6_lt (hb v hv).2
  rw [(hb v hv).1] at this
  exact this
 rwa [List.length_map] at this
theorem mf_Vol : MT.mf 89 = some ⟨37, [(.cell 2 (some 2)), (.tmp 3)], (.seq (.reg [gO 1 (.box 2 (.s 0)), gO 2 (.new (.agg [(.lit (.int .i64 0)), (.lit (.int .i64 0))])), gO 3 (.mv (cI 0))]) (.seq (.reg [gO 9 (.ld (some 2) (.s 1)), gO 10 (.call 146 [.s 9]), gO 8 (.mv (.s 10)), gO 11 (.ext (.s 8) 0), gO 12 (.ext (.s 8) 1), gO 4 (.new (.agg [(.lit (.slice none 0 0)), (.lit (.slice none 0 0))])), ⟨none, none, .st 2 (.s 4) (.s 11)⟩, gO 5 (.mv (.s 12))]) (.seq (.seq (.reg [gO 13 (.mv (.s 5)), gO 14 (.bin .neq (.s 13) (cI 0))]) (.cond (.s 14) (.seq (.reg [gO 15 (.build [(.lit (.int .i64 0)), (.lit (.int .i64 0))] []), gO 16 (.mv (.s 5)), ⟨none, none, .st 2 (.s 2) (.s 15)⟩, gO 3 (.mv (.s 16))]) .ret) .skip)) (.seq (.reg [gO 6 (.nil0 1)]) (.mrk [gO 17 (.ld (some 2) (.s 4)), gO 18 (.call 169 [.s 17, (cI 0), (.c (.fn 170 0 []))])] [6, 2, 3, 4] [6, 2, 3] 0 (.s 18) 19 20 21 (.block 1 (.seq (.reg [gO 22 (.ent (.s 19)), gO 23 (.ext (.s 22) 0), gO 7 (.new (.agg [(.lit (.int .i64 0)), (.lit (.int .i64 0)), (.lit (.int .i64 0)), (.lit (.int .i64 0)), (.lit (.int .i64 0))])), ⟨none, none, .st 5 (.s 7) (.s 23)⟩]) (.seq (.reg [gO 24 (.ld (some 2) (.s 4)), gO 25 (.ld (some 5) (.s 7)), gO 26 (.call 171 [.s 24, .s 25])]) (.cond (.s 26) (.reg [gO 27 (.mv (.s 6)), gO 28 (.ld (some 5) (.s 7)), gO 29 (.call 145 [.s 28]), gO 30 (.bsl (.lit (.int .i64 0)) 1 1 [(0, (.s 29))]), gO 31 (.app 1 (.s 27) (.s 30)), gO 6 (.mv (.s 31))]) .skip)))) [2, 3] (.seq (.give 6 (.reg [gO 32 (.mv (.s 6)), gO 33 (.call 172 [.s 32]), gO 34 (.mv (.s 6)), gO 35 (.call 173 [.s 34]), gO 36 (.build [(.lit (.int .i64 0)), (.lit (.int .i64 0))] [(0, (1, (.s 33))), (1, (1, (.s 35)))]), ⟨none, none, .st 2 (.s 2) (.s 36)⟩, gO 3 (.mv (cI 0))])) .ret))))))⟩ := by kernel_rfl
abbrev outR (p : Int × Int) (e : Int) : MV := .tup [encP p, I64 e]
set_option maxHeartbeats 2000000 in
theorem Vol_z (k : Nat) (R C : List (Int × Int)) (hR : R.length ≤ 100) (hC : C.length ≤ 100) : runZ MT (orA (k + 7)) (itA (k + 7)) 4000000 89 [encS R C] [] = some (outR (if opnE R C = 0 then (mnL (volL R C), mxL (volL R C)) else (0, 0)) (opnE R C), []) := by
 refine runZ_of mf_Vol (by simp) ?_
 simp only [argsL]
 have hop := openS_c k R C hR hC
 by_cases h0 : opnE R C = 0
 ·have hb : possB R C anyP = true ∧ ValS R C := by
   unfold opnE at h0
   split at h0
   ·rename_i h1
    split at h0
    ·rename_i h2; exact ⟨h2, chkS_val h1⟩
    ·cases h0
   ·rename_i h1; exact absurd h0 h1
  obtain ⟨hb, hv⟩ := hb
  rw [if_pos h0]
  generalize opnE R C = e at *
  subst h0
  have hre : ∀ h, orA (k + 7) 169 [encS R C, I64 0, .fn 170 0 []] h = some (.rm ((reachL R C.length anyP R.length).map entK), h) := fun h => reached_c (k + 2) R C 0 _ anyP hv.r5 (Nat.zero_le _) hv.c5 (may_any (k + 5) _) h
  have hmem : ∀ p : List MV, p.Perm ((reachL R C.length anyP R.length).map entK) → ∀ x, x ∈ volsE C p ↔ x ∈ volL R C := fun p hp x => by
   unfold volsE volL
   rw [List.mem_map, List.mem_map]
   refine exists_congr fun u => and_congr_left fun _ => ?_
   rw [List.mem_filter, List.mem_filter]
   refine and_congr_left fun _ => ?_
   rw [(hp.map unK).mem_iff, unK_map]
  have hlen : ∀ p : List MV, p.Perm ((reachL R C.length anyP R.length).map entK) → (volsE C p).length = (volL R C).length := fun p hp => by
   have h1 := (((hp.map unK).filter (hasB C)).map List.sum).length_eq
   rw [unK_map] at h1
   exact h1
  have hvne : volL R C ≠ [] := fun h => by
   obtain ⟨w, hw, _⟩ := possB_iff.1 hb
   have := mem_volL.2 ⟨w, hw, rfl⟩
   rw [h] at this; cases this
  have hm := reach_len R C.length anyP hv.r5
  obtain ⟨nok, _⟩ := reachL_ok R C.length anyP R.length
  have hR5 := hv.r5
  generalize volL R C = vl at *
  generalize reachL R C.length anyP R.length = now at *
  repeat (first | apply ef_seq | (apply ef_mv; exact rfl; exact rfl) | (apply ef_bin; (iterate 3 exact rfl); (exact cmp_f rfl (by simp only [cmpP]; omega))) | (apply ef_ldp; exact rfl; exact rfl; (exact rfl); exact rfl; (exact rfl); (exact rd_2 rfl rfl)) | (apply ef_ext; (iterate 3 exact rfl)) | (apply ef_box; (iterate 4 exact rfl)) | (apply ef_newst; (iterate 3 exact rfl); (exact rfl); exact rfl) | (apply ef_new; exact rfl) | (apply ef_nil0; exact rfl) | apply ef_nil | apply seqQ.normal | apply ef_skip | (apply ef_condf; exact rfl; (exact (rfl : false = false))) | (apply ef_call; exact rfl; ((repeat (apply XVs.cons; exact rfl)); exact XVs.nil); (with_reducible exact hop _)))
  refine ef_mrk ?_
  repeat (first | (apply ef_ldp; exact rfl; exact rfl; (exact rfl); exact rfl; (exact rfl); (exact rd_2 rfl rfl)) | apply ef_nil | (apply ef_call; exact rfl; ((repeat (apply XVs.cons; exact rfl)); exact XVs.nil); (with_reducible exact hre _)))
  refine ⟨rfl, ?_⟩
  refine eft_mrk (JV R C) .ret [(2, .ptr 1 0 0 0), (3, I64 0)] [⟨0, false, 2, [encS R C]⟩, ⟨0, false, 2, [.agg [I64 (mnL vl), I64 (mxL vl)]]⟩, ⟨0, false, 2, [encS R C]⟩, ⟨vl.length + 1, false, 1, []⟩] (by exact rfl) (entK_all now) rfl rfl rfl rfl rfl rfl rfl (B0v 0) (by ((repeat (refine Hold.cons (by exact rfl) ?_)); exact Hold.nil)) rfl ⟨rfl, rfl⟩ ?_ ?_ rfl ?_
  ·intro p kk vv l' B1 h1 hpm hJ
   have hmm : MV.tup [kk, vv] ∈ now.map entK := hpm.mem_iff.1 (by simp)
   have hpl : (volsE C p).length ≤ 7776 := by
    have h2 := volsE_len C p
    have h3 := hpm.length_eq
    simp at h3
    omega
   obtain ⟨u, hu, e⟩ := List.mem_map.1 hmm
   obtain ⟨hu5, hu6⟩ := nok u hu
   simp only [MV.tup.injEq, List.cons.injEq, and_true] at e
   obtain ⟨rfl, rfl⟩ := e
   have hap := volsE_app C p u
   have hcon := has_c (k + 5) R C u hu5 hv.c5
   have htot := total_c (k + 6) u hu5 (fun x hx => by have := hu6 x hx; omega)
   obtain ⟨rfl, hh⟩ := hJ
   generalize volsE C p = vs at *
   refine ⟨B0v vs.length, M0v R C vs, fun p hp => by
    simp only [List.mem_cons, List.not_mem_nil, or_false] at hp
    rcases hp with rfl | rfl | rfl | rfl <;> rfl, rfl, by rw [← hh]; exact .cut (fun t ht => by
    simp only [List.mem_cons, List.not_mem_nil, or_false] at ht
    rcases ht with rfl | rfl | rfl | rfl <;> exact ⟨_, rfl, rfl⟩) (by show hltL 4 (h1.take 4) = true; rw [hh]; exact M0v_lt 4 R C vs), fun t ht => by
    simp only [List.mem_cons, List.not_mem_nil, or_false] at ht
    rcases ht with rfl | rfl | rfl | rfl <;> exact ⟨_, rfl, rfl⟩, M0v_lt _ R C vs, ?_⟩
   obtain ⟨a, b, c', d, e', rfl⟩ := five_of hu5
   cases hh2 : hasB C [a, b, c', d, e']
   ·rw [hh2] at hcon hap
    repeat (first | apply ef_seq | (apply ef_ldp; exact rfl; exact rfl; (exact rfl); exact rfl; (exact rfl); (first | exact rd_2 rfl rfl | exact rd_5 rfl rfl rfl rfl rfl)) | (apply ef_ext; (iterate 3 exact rfl)) | (apply ef_newst; (iterate 3 exact rfl); (exact rfl); exact rfl) | (apply ef_ent; exact rfl; exact rfl) | apply ef_nil | apply seqQ.normal | apply ef_block)
    (apply ef_call; (· exact rfl); (· ((repeat (apply XVs.cons; exact rfl)); exact XVs.nil)); · exact hcon _)
    repeat (first | apply ef_nil | apply seqQ.normal | apply blockQ.normal | apply ef_skip | (apply ef_condf; exact rfl; (exact (rfl : false = false))))
    refine ⟨rfl, ⟨_, _, by exact rfl⟩, B0v vs.length, by ((repeat (refine Hold.cons (by exact rfl) ?_)); exact Hold.nil), ?_, ?_⟩
    ·rw [hap]; simp
    ·rw [hap]; simp
   ·rw [hh2] at hcon hap
    repeat (first | apply ef_seq | (apply ef_ldp; exact rfl; exact rfl; (exact rfl); exact rfl; (exact rfl); (first | exact rd_2 rfl rfl | exact rd_5 rfl rfl rfl rfl rfl)) | (apply ef_ext; (iterate 3 exact rfl)) | (apply ef_newst; (iterate 3 exact rfl); (exact rfl); exact rfl) | (apply ef_ent; exact rfl; exact rfl) | apply ef_nil | apply seqQ.normal | apply ef_block)
    (apply ef_call; (· exact rfl); (· ((repeat (apply XVs.cons; exact rfl)); exact XVs.nil)); · exact hcon _)
    repeat (first | (apply ef_mv; exact rfl; exact rfl) | (apply ef_ldp; exact rfl; exact rfl; (exact rfl); exact rfl; (exact rfl); (exact rd_5 rfl rfl rfl rfl rfl)) | apply ef_nil | apply seqQ.normal | (apply ef_condt; exact rfl; (exact (rfl : true = true))))
    (apply ef_call; (· exact rfl); (· ((repeat (apply XVs.cons; exact rfl)); exact XVs.nil)); · exact htot _)
    repeat (first | (apply ef_bsl; exact rfl; (repeat (apply XVs.cons; exact rfl)); exact XVs.nil; exact rfl))
    (apply ef_app; (· exact rfl); (· exact rfl); (· exact rfl); (· exact rfl); (· exact rfl); (· exact rfl); (· (simp)); (· exact rfl); (· (simp; omega)); (· (rfl)); (· exact rfl))
    repeat (first | (apply ef_mv; exact rfl; exact rfl) | apply ef_nil | apply blockQ.normal)
    refine ⟨rfl, ⟨_, _, by exact rfl⟩, B0v (vs.length + 1), by ((repeat (refine Hold.cons (by exact rfl) ?_)); exact Hold.nil), ?_, ?_⟩
    ·rw [hap]; simp
    ·rw [hap]; simp [List.take]
  ·intro p B1 h1 hp hJ
   obtain ⟨rfl, hh⟩ := hJ
   have hmm := hmem p hp
   have hln := hlen p hp
   have hne : volsE C p ≠ [] := fun e => by
    obtain ⟨x, hx⟩ := List.exists_mem_of_ne_nil _ hvne
    rw [← hmm x, e] at hx; cases hx
   have h6 : (volsE C p).length ≤ 7776 := by
    have h2 := volsE_len C p
    have h3 := hp.length_eq
    simp at h3
    omega
   have hmn := mn_ext hne hmm
   have hmx := mx_ext hne hmm
   generalize volsE C p = vs at *
   refine ⟨[(6, .arr 3 0 vs.length vs.length), (2, .ptr 1 0 0 0), (3, I64 0)], M0v R C vs, fun p hp => by
    simp only [List.mem_cons, List.not_mem_nil, or_false] at hp
    rcases hp with rfl | rfl | rfl <;> rfl, rfl, by rw [← hh]; exact .cut (fun t ht => by
    simp only [List.mem_cons, List.not_mem_nil, or_false] at ht
    rcases ht with rfl | rfl | rfl <;> exact ⟨_, rfl, rfl⟩) (by show hltL 4 (h1.take 4) = true; rw [hh]; exact M0v_lt 4 R C vs), fun t ht => by
    simp only [List.mem_cons, List.not_mem_nil, or_false] at ht
    rcases ht with rfl | rfl | rfl <;> exact ⟨_, rfl, rfl⟩, M0v_lt _ R C vs, ?_⟩
   have q1 := fun h => Min_c (k + 6) vs h (v := .sl (vs.map I64)) (by omega) hne (frz_sl (I64_lt 0 vs))
   have q2 := fun h => Max_c (k + 6) vs h (v := .sl (vs.map I64)) (by omega) hne (frz_sl (I64_lt 0 vs))
   repeat (first | apply ef_seq)
   refine ef_givev rfl (by exact rfl) (giveV_arrg (es := vs.map I64) rfl (by simp) (I64_lt 0 vs) rfl) ?_
   repeat (first | (apply ef_mv; exact rfl; exact rfl))
   (apply ef_call; (· exact rfl); (· ((repeat (apply XVs.cons; exact rfl)); exact XVs.nil)); · exact q1 _)
   repeat (first | (apply ef_mv; exact rfl; exact rfl))
   (apply ef_call; (· exact rfl); (· ((repeat (apply XVs.cons; exact rfl)); exact XVs.nil)); · exact q2 _)
   repeat (first | (apply ef_mv; exact rfl; exact rfl) | (apply ef_build; exact rfl; (repeat (apply XVs.cons; exact rfl)); exact XVs.nil; exact rfl; exact rfl) | (apply ef_st; (iterate 6 exact rfl); (exact rfl); (exact rfl)) | apply ef_nil | apply seqQ.normal | apply ef_ret)
   refine ⟨rfl, fun t ht => ?_, ?_⟩
   ·simp only [List.mem_cons, List.not_mem_nil, or_false] at ht
    rcases ht with rfl | rfl <;> exact ⟨_, rfl, rfl⟩
   ·have hem : vs.isEmpty = false := by cases vs with | nil => exact absurd rfl hne | cons => rfl
    have e1 : (⟨vl.length + 1, false, 1, []⟩ : MObj) = ⟨vs.length + 1, vs.isEmpty, 1, []⟩ := by rw [hln, hem]
    rw [e1, ← hmn, ← hmx]
    exact .all (Nat.le_refl _)
  ·repeat (fail)
   refine finR2 (v := encP (mnL vl, mxL vl)) (w := I64 0) rfl ?_ (by exact rfl) rfl rfl rfl
   apply resC <;> exact rfl
 ·rw [if_neg h0]
  generalize opnE R C = e at *
  repeat (first | apply ef_seq | (apply ef_mv; exact rfl; exact rfl) | (apply ef_bin; (iterate 3 exact rfl); (exact cmp_t rfl (by first | exact rfl | (simp only [cmpP]; omega)))) | (apply ef_ldp; exact rfl; exact rfl; (exact rfl); exact rfl; (exact rfl); (exact rd_2 rfl rfl)) | (apply ef_ext; (iterate 3 exact rfl)) | (apply ef_box; (iterate 4 exact rfl)) | (apply ef_newst; (iterate 3 exact rfl); (exact rfl); exact rfl) | (apply ef_new; exact rfl) | (apply ef_build; exact rfl; (repeat (apply XVs.cons; exact rfl)); exact XVs.nil; exact rfl; exact rfl) | (apply ef_st; (iterate 6 exact rfl); (exact rfl); (exact rfl)) | apply ef_nil | apply seqQ.normal | apply ef_ret | apply seqQ.ret | (apply ef_condt; exact rfl; (exact (rfl : true = true))) | (apply ef_call; exact rfl; ((repeat (apply XVs.cons; exact rfl)); exact XVs.nil); (with_reducible exact hop _)))
  refine finR2 (v := encP (0, 0)) (w := I64 e) rfl ?_ (by exact rfl) rfl rfl rfl
  apply resC <;> exact rfl
theorem Vol_c (k : Nat) (R C : List (Int × Int)) (hR : R.length ≤ 100) (hC : C.length ≤ 100) (h : MHeap) {v : MV} (hv : frz 0 [] h 8 v = some (encS R C)) : orA (k + 8) 89 [v] h = some (outR (if opnE R C = 0 then (mnL (volL R C), mxL (volL R C)) else (0, 0)) (opnE R C), h) := by
 have := callA (k := k + 7) (h := h) (args := [v]) (args' := [encS R C]) (by simp [List.mapM_cons, hv]) rfl (Vol_z k R C hR hC) (by simp [okV, ok1, MV.lt, ltL, MV.pure, pureL]) rfl
 simpa [shV, sh1] using this
end Go.Proofs.YtnmgpbihknjdjaaGreatDoor

/- Small helpers about memory. -/
namespace Go.Proofs.YtnmgpbihknjdjaaGreatDoor
open Go.RowKit
set_option linter.unusedVariables false
structure Bx (p : Prop) : Prop where
 out : p
theorem hltL_no {m : Nat} {h : MHeap} {j : Nat} {o : MObj} (hj : j < m) (ho : h[j]? = some o) (hl : ltL m o.es = false) : hltL m (h.take m) = false := by
 unfold hltL
 rw [Bool.eq_false_iff]
 intro hc
 have h1 : (h.take m)[j]? = some o := by rw [List.getElem?_take, if_pos hj]; exact ho
 have := List.all_eq_true.1 hc o (List.mem_of_getElem? h1)
 rw [hl] at this
 cases this
end Go.Proofs.YtnmgpbihknjdjaaGreatDoor

/- Contracts: the numbers of a set; the program. -/
namespace Go.Proofs.YtnmgpbihknjdjaaGreatDoor
open Go.RowKit Go.Lib
set_option linter.unusedVariables false
set_option linter.unusedSimpArgs false
end Go.Proofs.YtnmgpbihknjdjaaGreatDoor

/- Contracts: which targets are valid. -/
namespace Go.Proofs.YtnmgpbihknjdjaaGreatDoor
open Go.RowKit
set_option linter.unusedVariables false
end Go.Proofs.YtnmgpbihknjdjaaGreatDoor

/- Contracts: targets and budgets. -/
namespace Go.Proofs.YtnmgpbihknjdjaaGreatDoor
open Go.RowKit
set_option linter.unusedVariables false
end Go.Proofs.YtnmgpbihknjdjaaGreatDoor

/- Contracts: sets of targets compared; the document's sets. -/
namespace Go.Proofs.YtnmgpbihknjdjaaGreatDoor
open Go.RowKit
set_option linter.unusedVariables false
abbrev natI (S : List Nat) : List Int := S.map fun i : Nat => (i : Int)
theorem at_nat (S : List Nat) (i : Nat) (h : i < S.length) : ((natI S).map I64)[((i : Nat) : Int).toNat]? = some (I64 (S[i] : Nat)) := by
 rw [Int.toNat_natCast, List.getElem?_map, List.getElem?_map, List.getElem?_eq_getElem h]; rfl
theorem mf_Before : MT.mf 92 = some ⟨41, [(.tmp 4)], (.seq (.reg [gO 4 (.mv cF)]) (.seq (.seq (.reg [gO 5 (.mv (cI 0))]) (.block 0 (.loop [5, 0, 1] (.seq (.seq (.reg [gO 6 (.mv (.s 5)), gO 7 (.mv (.s 0)), gO 8 (.len (.s 7)), gO 9 (.bin .lss (.s 6) (.s 8)), gO 10 (.mv (.s 9)), ⟨some (10, true), some 11, .mv (.s 5)⟩, ⟨some (10, true), some 12, .mv (.s 1)⟩, ⟨some (10, true), some 13, .len (.s 12)⟩, ⟨some (10, true), some 14, .bin .lss (.s 11) (.s 13)⟩, gO 15 (.pick (.s 10) (.s 14) cF)]) (.cond (.s 15) .skip (.exit 0))) (.seq (.block 1 (.seq (.reg [gO 18 (.mv (.s 0)), gO 19 (.mv (.s 5)), gO 20 (.ia 1 (.s 18) (.s 19)), gO 21 (.ld none (.s 20)), gO 22 (.mv (.s 1)), gO 23 (.mv (.s 5)), gO 24 (.ia 1 (.s 22) (.s 23)), gO 25 (.ld none (.s 24)), gO 26 (.bin .neq (.s 21) (.s 25))]) (.cond (.s 26) (.seq (.reg [gO 27 (.mv (.s 0)), gO 28 (.mv (.s 5)), gO 29 (.ia 1 (.s 27) (.s 28)), gO 30 (.ld none (.s 29)), gO 31 (.mv (.s 1)), gO 32 (.mv (.s 5)), gO 33 (.ia 1 (.s 31) (.s 32)), gO 34 (.ld none (.s 33)), gO 35 (.bin .lss (.s 30) (.s 34)), gO 4 (.mv (.s 35))]) .ret) .skip))) (.reg [gO 16 (.mv (.s 5)), gO 17 (.bin .add (.s 16) (cI 1)), gO 5 (.mv (.s 17))])))))) (.seq (.reg [gO 36 (.mv (.s 0)), gO 37 (.len (.s 36)), gO 38 (.mv (.s 1)), gO 39 (.len (.s 38)), gO 40 (.bin .lss (.s 37) (.s 39)), gO 4 (.mv (.s 40))]) .ret)))⟩ := by kernel_rfl
theorem Before_z (k : Nat) (a b : List Nat) (ha : a.length ≤ 1000) (hb : b.length ≤ 1000) : runZ MT (orA k) (itA k) 4000000 92 [.sl ((natI a).map I64), .sl ((natI b).map I64)] [] = some (Bo (befL a b), []) := by
 have l1 : (MV.sl ((natI a).map I64)).slen = some a.length := by simp [MV.slen]
 have l2 : (MV.sl ((natI b).map I64)).slen = some b.length := by simp [MV.slen]
 refine runZ_of mf_Before (by simp) ?_
 simp only [argsL]
 repeat (first | apply ef_seq | (apply ef_mv; exact rfl; exact rfl) | apply ef_nil | apply seqQ.normal | apply ef_block)
 refine ef_loopf (α := Nat) (fun i => i ≤ a.length ∧ i ≤ b.length ∧ befL a b = befL (a.drop i) (b.drop i)) (fun i => [(5, I64 (i : Int))]) [(0, .sl ((natI a).map I64)), (1, .sl ((natI b).map I64))] (fun _ => []) (fun i => a.length - i) 0 [5] (fun _ => rfl) (by ((repeat (refine Hold.cons (by exact rfl) ?_)); exact Hold.nil)) (by ((repeat (refine Hold.cons (by exact rfl) ?_)); exact Hold.nil)) rfl rfl ⟨by omega, by omega, rfl⟩ (by simp; omega) ?_
 rintro i ⟨hi, hj, hz⟩
 by_cases hlt : i < a.length
 ·have e1 := at_nat a i hlt
  have HD := drop_at a i hlt
  rw [HD] at hz
  by_cases hlb : i < b.length
  ·have e2 := at_nat b i hlb
   have HD2 := drop_at b i hlb
   rw [HD2, befL] at hz
   generalize a[i] = x at *
   generalize b[i] = y at *
   clear HD HD2
   by_cases c0 : x = y
   ·rw [if_pos c0] at hz
    have HZ := Lib.hid hz
    repeat (first | apply ef_seq | (apply ef_mv; exact rfl; exact rfl) | (apply ef_bin; (iterate 3 exact rfl); (first | exact cmp_t rfl (by first | exact rfl | (simp only [cmpP]; omega)) | exact cmp_f rfl (by simp only [cmpP]; omega) | ((with_reducible refine bin_add (wrap_of ?_ ?_)) <;> omega))) | (apply ef_gy; exact rfl; (exact (rfl : true = true))) | (apply ef_pick; (iterate 3 exact rfl)) | (apply ef_len; exact rfl; exact rfl; (assumption)) | (apply ef_ldr; exact rfl; exact rfl; (exact rfl)) | (apply ef_ias; (iterate 3 exact rfl); (omega); assumption; exact rfl) | apply ef_nil | apply seqQ.normal | apply blockQ.normal | apply ef_block | apply ef_skip | (apply ef_condt; exact rfl; (exact (rfl : true = true))) | (apply ef_condf; exact rfl; (exact (rfl : false = false))))
    (refine loopQ.normal _ _ ⟨i + 1, ⟨hlt, hlb, HZ.out⟩, (by first | (simp only; omega) | omega), ⟨by ((repeat (refine Hold.cons (by exact rfl) ?_)); exact Hold.nil), by ((repeat (refine Hold.cons (by exact rfl) ?_)); exact Hold.nil)⟩, .inl (Nat.le_refl _), (by first | exact List.take_length | exact rfl | exact takeF rfl rfl)⟩)
   ·rw [if_neg c0] at hz
    by_cases c1 : x < y
    ·rw [decide_eq_true c1] at hz
     have HZ := Lib.hid hz
     repeat (first | apply ef_seq | (apply ef_mv; exact rfl; exact rfl) | (apply ef_bin; (iterate 3 exact rfl); (exact cmp_t rfl (by first | exact rfl | (simp only [cmpP]; omega)))) | (apply ef_gy; exact rfl; (exact (rfl : true = true))) | (apply ef_pick; (iterate 3 exact rfl)) | (apply ef_len; exact rfl; exact rfl; (assumption)) | (apply ef_ldr; exact rfl; exact rfl; (exact rfl)) | (apply ef_ias; (iterate 3 exact rfl); (omega); assumption; exact rfl) | apply ef_nil | apply seqQ.normal | apply loopQ.ret | apply ef_ret | apply seqQ.ret | apply blockQ.ret | apply ef_block | apply ef_skip | (apply ef_condt; exact rfl; (exact (rfl : true = true))))
     (refine fin1 rfl (by exact rfl) rfl ?_)
     rw [HZ.out]
    ·rw [decide_eq_false c1] at hz
     have HZ := Lib.hid hz
     repeat (first | apply ef_seq | (apply ef_mv; exact rfl; exact rfl) | (apply ef_bin; (iterate 3 exact rfl); (first | exact cmp_t rfl (by first | exact rfl | (simp only [cmpP]; omega)) | exact cmp_f rfl (by simp only [cmpP]; omega))) | (apply ef_gy; exact rfl; (exact (rfl : true = true))) | (apply ef_pick; (iterate 3 exact rfl)) | (apply ef_len; exact rfl; exact rfl; (assumption)) | (apply ef_ldr; exact rfl; exact rfl; (exact rfl)) | (apply ef_ias; (iterate 3 exact rfl); (omega); assumption; exact rfl) | apply ef_nil | apply seqQ.normal | apply loopQ.ret | apply ef_ret | apply seqQ.ret | apply blockQ.ret | apply ef_block | apply ef_skip | (apply ef_condt; exact rfl; (exact (rfl : true = true))))
     (refine fin1 rfl (by exact rfl) rfl ?_)
     rw [HZ.out]
  ·rw [List.drop_eq_nil_of_le (show b.length ≤ i by omega)] at hz
   have HZ := Lib.hid hz
   repeat (first | apply ef_seq | (apply ef_mv; exact rfl; exact rfl) | (apply ef_bin; (iterate 3 exact rfl); (first | exact cmp_t rfl (by first | exact rfl | (simp only [cmpP]; omega)) | exact cmp_f rfl (by simp only [cmpP]; omega))) | (apply ef_gy; exact rfl; (exact (rfl : true = true))) | (apply ef_pick; (iterate 3 exact rfl)) | (apply ef_len; exact rfl; exact rfl; (assumption)) | apply ef_nil | apply seqQ.normal | apply loopQ.exit | apply ef_ret | apply ef_exit | apply seqQ.exit | apply blockQ.here | (apply ef_condf; exact rfl; (exact (rfl : false = false))))
   (refine fin1 rfl (by exact rfl) rfl ?_)
   rw [HZ.out]; rfl
 ·rw [List.drop_eq_nil_of_le (show a.length ≤ i by omega)] at hz
  by_cases hlb : i < b.length
  ·rw [drop_at b i hlb] at hz
   have HZ := Lib.hid hz
   repeat (first | apply ef_seq | (apply ef_mv; exact rfl; exact rfl) | (apply ef_bin; (iterate 3 exact rfl); (first | exact cmp_t rfl (by first | exact rfl | (simp only [cmpP]; omega)) | exact cmp_f rfl (by simp only [cmpP]; omega))) | (apply ef_gn; exact rfl; (exact (rfl : false = false)); exact rfl) | (apply ef_pick; (iterate 3 exact rfl)) | (apply ef_len; exact rfl; exact rfl; (assumption)) | apply ef_nil | apply seqQ.normal | apply loopQ.exit | apply ef_ret | apply ef_exit | apply seqQ.exit | apply blockQ.here | (apply ef_condf; exact rfl; (exact (rfl : false = false))))
   (refine fin1 rfl (by exact rfl) rfl ?_)
   rw [HZ.out]; rfl
  ·rw [List.drop_eq_nil_of_le (show b.length ≤ i by omega)] at hz
   have HZ := Lib.hid hz
   repeat (first | apply ef_seq | (apply ef_mv; exact rfl; exact rfl) | (apply ef_bin; (iterate 3 exact rfl); (exact cmp_f rfl (by simp only [cmpP]; omega))) | (apply ef_gn; exact rfl; (exact (rfl : false = false)); exact rfl) | (apply ef_pick; (iterate 3 exact rfl)) | (apply ef_len; exact rfl; exact rfl; (assumption)) | apply ef_nil | apply seqQ.normal | apply loopQ.exit | apply ef_ret | apply ef_exit | apply seqQ.exit | apply blockQ.here | (apply ef_condf; exact rfl; (exact (rfl : false = false))))
   (refine fin1 rfl (by exact rfl) rfl ?_)
   rw [HZ.out]; rfl
theorem Before_c (k : Nat) (a b : List Nat) (h : MHeap) {v w : MV} (ha : a.length ≤ 1000) (hb : b.length ≤ 1000) (hv : frz 0 [] h 8 v = some (.sl ((natI a).map I64))) (hw : frz 0 [] h 8 w = some (.sl ((natI b).map I64))) {t : Bool} (ht : befL a b = t) : orA (k + 1) 92 [v, w] h = some (Bo t, h) := by
 subst ht
 exact callL (args' := [.sl ((natI a).map I64), .sl ((natI b).map I64)]) (by simp [List.mapM_cons, hv, hw]) rfl (Before_z k a b ha hb)
theorem bits_and_i64_1 (a : Nat) (ha : a < 9223372036854775808) : binI .and .i64 (a : Int) 1 = some (.int .i64 ((a % 2 : Nat) : Int)) := by
 have h1 : (BitVec.ofInt 64 (a : Int)).toNat = a := by
  rw [BitVec.ofInt_natCast, BitVec.toNat_ofNat]; exact Nat.mod_eq_of_lt (by omega)
 have h2 : (BitVec.ofInt 64 (1 : Int)).toNat = 1 := by decide
 show some (Value.int .i64 (IntKind.i64.wrap ((BitVec.ofInt 64 (a : Int) &&& BitVec.ofInt 64 (1 : Int)).toNat : Int))) = _
 rw [BitVec.toNat_and, h1, h2, Nat.and_one_is_mod, wrap_of (by omega) (by omega)]
theorem shr_i64 {k : Nat} (a : Nat) (hk : k ≤ 63) : shfI .shr .i64 (a : Int) (k : Int) = some (.int .i64 ((a / 2 ^ k : Nat) : Int)) := by
 have e : shfI .shr .i64 (a : Int) (k : Int) = some (.int .i64 ((a : Int).fdiv (2 ^ min (k : Int).toNat 64))) := by
  unfold shfI
  rw [if_neg (by omega)]
  rfl
 rw [e, Int.toNat_natCast, Nat.min_eq_left (by omega)]
 congr 2
 rw [Int.fdiv_eq_ediv_of_nonneg _ (Int.pow_nonneg (by decide))]
 have : ((2 : Int) ^ k) = ((2 ^ k : Nat) : Int) := by rw [Int.natCast_pow]; rfl
 rw [this, Int.natCast_ediv]
end Go.Proofs.YtnmgpbihknjdjaaGreatDoor

/- Chapter 9: the bounds of the top, the certain cells. -/
namespace Go.Proofs.YtnmgpbihknjdjaaGreatDoor
open Go.RowKit
set_option linter.unusedVariables false
theorem mf_Tops1 : MT.mf 174 = some ⟨17, [(.tmp 5)], (.seq (.reg [gO 5 (.mv cF)]) (.seq (.reg [gO 6 (.mv (.s 0)), gO 7 (.ld none (.s 2)), gO 8 (.bin .gtr (.s 6) (.s 7)), gO 9 (.mv (.s 8)), ⟨some (9, false), some 10, .mv (.s 0)⟩, ⟨some (9, false), some 11, .ld none (.s 2)⟩, ⟨some (9, false), some 12, .bin .eql (.s 10) (.s 11)⟩, ⟨some (9, false), some 13, .mv (.s 1)⟩, ⟨some (9, false), some 14, .bin .neq (.s 13) (cI 0)⟩, ⟨some (9, false), some 15, .beq false (.s 12) (.s 14)⟩, gO 16 (.pick (.s 9) cT (.s 15)), gO 5 (.mv (.s 16))]) .ret))⟩ := by kernel_rfl
theorem Tops1_z (k : Nat) (top row set : Nat) : runZ MT (orA k) (itA k) 4000000 174 [I64 row, I64 set, .rp (I64 top) 0] [] = some (Bo (topP top row set), []) := by
 refine runZ_of mf_Tops1 (by simp) ?_
 simp only [argsL]
 have HT := Lib.hid (show topP top row set = _ from rfl)
 by_cases h1 : top < row
 ·repeat (first | apply ef_seq | (apply ef_mv; exact rfl; exact rfl) | (apply ef_bin; (iterate 3 exact rfl); (exact cmp_t rfl (by first | exact rfl | (simp only [cmpP]; omega)))) | (apply ef_gn; exact rfl; (exact (rfl : true = true)); exact rfl) | (apply ef_pick; (iterate 3 exact rfl)) | (apply ef_ldr; exact rfl; exact rfl; (exact rfl)) | apply ef_nil | apply seqQ.normal | apply ef_ret)
  (refine fin1 rfl (by exact rfl) rfl ?_)
  rw [HT.out]; simp [topP, h1]
 ·by_cases h2 : row = top
  ·by_cases h3 : set = 0
   ·subst h2 h3
    repeat (first | apply ef_seq | (apply ef_mv; exact rfl; exact rfl) | (apply ef_bin; (iterate 3 exact rfl); (first | exact cmp_t rfl (by first | exact rfl | (simp only [cmpP]; omega)) | exact cmp_f rfl (by simp only [cmpP]; omega))) | (apply ef_gy; exact rfl; (exact (rfl : false = false))) | (apply ef_pick; (iterate 3 exact rfl)) | (apply ef_ldr; exact rfl; exact rfl; (exact rfl)) | (apply ef_beq; (iterate 3 exact rfl)) | apply ef_nil | apply seqQ.normal | apply ef_ret)
    (refine fin1 rfl (by exact rfl) rfl ?_)
    simp [topP, negIf]
   ·subst h2
    repeat (first | apply ef_seq | (apply ef_mv; exact rfl; exact rfl) | (apply ef_bin; (iterate 3 exact rfl); (first | exact cmp_t rfl (by first | exact rfl | (simp only [cmpP]; omega)) | exact cmp_f rfl (by simp only [cmpP]; omega))) | (apply ef_gy; exact rfl; (exact (rfl : false = false))) | (apply ef_pick; (iterate 3 exact rfl)) | (apply ef_ldr; exact rfl; exact rfl; (exact rfl)) | (apply ef_beq; (iterate 3 exact rfl)) | apply ef_nil | apply seqQ.normal | apply ef_ret)
    (refine fin1 rfl (by exact rfl) rfl ?_)
    simp [topP, h3, negIf]
  ·by_cases h3 : set = 0
   ·subst h3
    repeat (first | apply ef_seq | (apply ef_mv; exact rfl; exact rfl) | (apply ef_bin; (iterate 3 exact rfl); (exact cmp_f rfl (by simp only [cmpP]; omega))) | (apply ef_gy; exact rfl; (exact (rfl : false = false))) | (apply ef_pick; (iterate 3 exact rfl)) | (apply ef_ldr; exact rfl; exact rfl; (exact rfl)) | (apply ef_beq; (iterate 3 exact rfl)) | apply ef_nil | apply seqQ.normal | apply ef_ret)
    (refine fin1 rfl (by exact rfl) rfl ?_)
    simp [topP, h1, h2, negIf]
   ·repeat (first | apply ef_seq | (apply ef_mv; exact rfl; exact rfl) | (apply ef_bin; (iterate 3 exact rfl); (first | exact cmp_t rfl (by first | exact rfl | (simp only [cmpP]; omega)) | exact cmp_f rfl (by simp only [cmpP]; omega))) | (apply ef_gy; exact rfl; (exact (rfl : false = false))) | (apply ef_pick; (iterate 3 exact rfl)) | (apply ef_ldr; exact rfl; exact rfl; (exact rfl)) | (apply ef_beq; (iterate 3 exact rfl)) | apply ef_nil | apply seqQ.normal | apply ef_ret)
    (refine fin1 rfl (by exact rfl) rfl ?_)
    simp [topP, h1, h2, h3, negIf]
theorem may_top (k : Nat) (top n : Nat) : MayB (k + 1) (.fn 174 0 [.rp (I64 top) 0]) (topP top) n :=
 ⟨_, _, _, rfl, rfl, fun row set hr _ h => callL (args' := [I64 row, I64 set, .rp (I64 top) 0]) (frzL_lt rfl) rfl (Tops1_z k top row set)⟩
theorem mf_Cert2 : MT.mf 176 = some ⟨19, [(.tmp 7)], (.seq (.reg [gO 7 (.mv cF)]) (.seq (.reg [gO 8 (.mv (.s 0)), gO 9 (.ld none (.s 2)), gO 10 (.bin .neq (.s 8) (.s 9)), gO 11 (.mv (.s 10)), ⟨some (11, false), some 12, .mv (.s 1)⟩, ⟨some (11, false), some 13, .ld none (.s 3)⟩, ⟨some (11, false), some 14, .shf .shr (.s 12) (.s 13)⟩, ⟨some (11, false), some 15, .bin .and (.s 14) (cI 1)⟩, ⟨some (11, false), some 16, .ld none (.s 4)⟩, ⟨some (11, false), some 17, .bin .eql (.s 15) (.s 16)⟩, gO 18 (.pick (.s 11) cT (.s 17)), gO 7 (.mv (.s 18))]) .ret))⟩ := by kernel_rfl
theorem Cert2_z (k : Nat) (at_ c row set : Nat) (d : Bool) (hs : set < 32) (hc : c < 5) : runZ MT (orA k) (itA k) 4000000 176 [I64 row, I64 set, .rp (I64 at_) 0, .rp (I64 c) 0, .rp (I64 (if d then 1 else 0)) 0] [] = some (Bo (cellP at_ c d row set), []) := by
 refine runZ_of mf_Cert2 (by simp) ?_
 simp only [argsL]
 have e1 := shr_i64 (k := c) set (by omega)
 have e2 := bits_and_i64_1 (set / 2 ^ c) (by have := Nat.div_le_self set (2 ^ c); omega)
 have e3 : set.testBit c = decide (set / 2 ^ c % 2 = 1) := Nat.testBit_eq_decide_div_mod_eq
 have e4 : set / 2 ^ c % 2 = 0 ∨ set / 2 ^ c % 2 = 1 := by omega
 by_cases h1 : row = at_
 ·subst h1
  rcases e4 with e4 | e4 <;> rw [e4] at e2 e3 <;> cases d
  all_goals repeat (first | apply ef_seq | (apply ef_mv; exact rfl; exact rfl) | (apply ef_bin; (iterate 3 exact rfl); (first | assumption | exact cmp_t rfl (by first | exact rfl | (simp only [cmpP]; omega)) | exact cmp_f rfl (by simp only [cmpP]; omega) | exact rfl)) | (apply ef_gy; exact rfl; (exact (rfl : false = false))) | (apply ef_pick; (iterate 3 exact rfl)) | (apply ef_ldr; exact rfl; exact rfl; (exact rfl)) | (apply ef_shf; (iterate 3 exact rfl); (assumption)) | apply ef_nil | apply seqQ.normal | apply ef_ret)
  all_goals (refine fin1 rfl (by exact rfl) rfl ?_)
  all_goals simp [cellP, e3]
 ·repeat (first | apply ef_seq | (apply ef_mv; exact rfl; exact rfl) | (apply ef_bin; (iterate 3 exact rfl); (exact cmp_t rfl (by first | exact rfl | (simp only [cmpP]; omega)))) | (apply ef_gn; exact rfl; (exact (rfl : true = true)); exact rfl) | (apply ef_pick; (iterate 3 exact rfl)) | (apply ef_ldr; exact rfl; exact rfl; (exact rfl)) | apply ef_nil | apply seqQ.normal | apply ef_ret)
  (refine fin1 rfl (by exact rfl) rfl ?_)
  simp [cellP, h1]
theorem may_cell (k : Nat) (at_ c n : Nat) (d : Bool) (hc : c < 5) : MayB (k + 1) (.fn 176 0 [.rp (I64 at_) 0, .rp (I64 c) 0, .rp (I64 (if d then 1 else 0)) 0]) (cellP at_ c d) n :=
 ⟨_, _, _, rfl, rfl, fun row set hr hs h => callL (args' := [I64 row, I64 set, .rp (I64 at_) 0, .rp (I64 c) 0, .rp (I64 (if d then 1 else 0)) 0]) (frzL_lt rfl) rfl (Cert2_z k at_ c row set d hs hc)⟩
theorem mf_Cert1 : MT.mf 175 = some ⟨9, [(.tmp 5)], (.seq (.reg [gO 4 (.box 1 (.s 0)), gO 5 (.mv cF)]) (.seq (.reg [gO 6 (.ld (some 2) (.s 1)), gO 7 (.mf 176 0 [.s 2, .s 3, .s 4]), gO 8 (.call 149 [.s 6, .s 7]), gO 5 (.mv (.s 8))]) .ret))⟩ := by kernel_rfl
theorem Cert1_z (k : Nat) (R C : List (Int × Int)) (at_ c : Nat) (d : Bool) (hR : R.length ≤ 5) (hC : C.length ≤ 5) (hc : c < 5) : runZ MT (orA (k + 6)) (itA (k + 6)) 4000000 175 [I64 (if d then 1 else 0), .rp (encS R C) 0, .rp (I64 at_) 0, .rp (I64 c) 0] [] = some (Bo (possB R C (cellP at_ c d)), []) := by
 refine runZ_of mf_Cert1 (by simp) ?_
 simp only [argsL]
 have hlt := encS_lt 0 R C
 have hp := fun (h : MHeap) args ha => possible_f k R C _ (cellP at_ c d) hR hC (may_cell (k + 3) at_ c R.length d hc) (args := args) (h := h) ha
 generalize possB R C (cellP at_ c d) = t at *
 repeat (first | apply ef_seq | (apply ef_mv; exact rfl; exact rfl) | (apply ef_ldr; exact rfl; exact rfl; (exact rd_2 rfl rfl)) | (apply ef_box; (iterate 4 exact rfl)) | (apply ef_mf; exact rfl; (repeat (apply XVs.cons; exact rfl)); exact XVs.nil) | apply ef_nil | apply seqQ.normal)
 (apply ef_call; (· exact rfl); (· ((repeat (apply XVs.cons; exact rfl)); exact XVs.nil)); · exact hp _ _ (by simp [List.mapM_cons, frz, MV.lt, ltL, hlt, encP_lt]))
 repeat (first | (apply ef_mv; exact rfl; exact rfl) | apply ef_nil | apply seqQ.normal | apply ef_ret)
 (refine fin1 rfl (by exact rfl) rfl ?_)
 rfl
theorem frz_arrg {h : MHeap} {id k sz g : Nat} {nl : Bool} {es : List MV} (ho : h[id]? = some ⟨g, nl, sz, es⟩) (hk : k = es.length) (hl : ltL 0 es = true) : frz 0 [] h 8 (.arr id 0 k g) = some (.sl es) := by
 have h3 : es.take k = es := List.take_of_length_le (by omega)
 simp only [frz, MV.lt, Nat.not_lt_zero, decide_false, Bool.false_eq_true, if_false, List.contains_nil, ho]
 simp only [hl, if_true, List.drop_zero, h3]
 simp; omega
def topsI (R C : List (Int × Int)) (j : Nat) : List Int := ((List.range j).filter fun top => possB R C (topP top)).map fun t : Nat => (t : Int)
theorem topsI_succ (R C : List (Int × Int)) (j : Nat) : topsI R C (j + 1) = topsI R C j ++ if possB R C (topP j) then [(j : Int)] else [] := by
 unfold topsI
 rw [List.range_succ, List.filter_append, List.map_append]
 congr 1
 simp only [List.filter_cons, List.filter_nil]
 split <;> rfl
theorem topsI_len (R C : List (Int × Int)) (j : Nat) : (topsI R C j).length ≤ j := by
 unfold topsI
 rw [List.length_map]
 refine Nat.le_trans (List.length_filter_le _ _) ?_
 rw [List.length_range]; exact Nat.le_refl _
theorem opn_zero {R C : List (Int × Int)} (h0 : opnE R C = 0) : possB R C anyP = true ∧ ValS R C := by
 unfold opnE at h0
 split at h0
 ·rename_i h1
  split at h0
  ·rename_i h2; exact ⟨h2, chkS_val h1⟩
  ·cases h0
 ·rename_i h1; exact absurd h0 h1
theorem mf_Tops : MT.mf 90 = some ⟨37, [(.cell 2 (some 2)), (.tmp 3)], (.seq (.reg [gO 1 (.box 2 (.s 0)), gO 2 (.new (.agg [(.lit (.int .i64 0)), (.lit (.int .i64 0))])), gO 3 (.mv (cI 0))]) (.seq (.reg [gO 9 (.ld (some 2) (.s 1)), gO 10 (.call 146 [.s 9]), gO 8 (.mv (.s 10)), gO 11 (.ext (.s 8) 0), gO 12 (.ext (.s 8) 1), gO 4 (.new (.agg [(.lit (.slice none 0 0)), (.lit (.slice none 0 0))])), ⟨none, none, .st 2 (.s 4) (.s 11)⟩, gO 5 (.mv (.s 12))]) (.seq (.seq (.reg [gO 13 (.mv (.s 5)), gO 14 (.bin .neq (.s 13) (cI 0))]) (.cond (.s 14) (.seq (.reg [gO 15 (.build [(.lit (.int .i64 0)), (.lit (.int .i64 0))] []), gO 16 (.mv (.s 5)), ⟨none, none, .st 2 (.s 2) (.s 15)⟩, gO 3 (.mv (.s 16))]) .ret) .skip)) (.seq (.reg [gO 6 (.nil0 1)]) (.seq (.seq (.reg [gO 17 (.fa 0 (.s 1)), gO 18 (.ld none (.s 17)), gO 19 (.len (.s 18)), gO 20 (.bin .add (.s 19) (cI 1)), gO 21 (.mv (cI 0))]) (.block 0 (.loop [21, 20, 4, 6, 2] (.seq (.reg [gO 22 (.bin .lss (.s 21) (.s 20))]) (.seq (.cond (.s 22) .skip (.exit 0)) (.seq (.block 1 (.seq (.reg [gO 23 (.mv (.s 21)), gO 7 (.new (.lit (.int .i64 0))), ⟨none, none, .st 1 (.s 7) (.s 23)⟩]) (.seq (.reg [gO 24 (.ld (some 2) (.s 4)), gO 25 (.mf 174 0 [.s 7]), gO 26 (.call 149 [.s 24, .s 25])]) (.cond (.s 26) (.reg [gO 27 (.mv (.s 6)), gO 28 (.ld none (.s 7)), gO 29 (.bsl (.lit (.int .i64 0)) 1 1 [(0, (.s 28))]), gO 30 (.app 1 (.s 27) (.s 29)), gO 6 (.mv (.s 30))]) .skip)))) (.reg [gO 31 (.bin .add (.s 21) (cI 1)), gO 21 (.mv (.s 31))]))))))) (.seq (.reg [gO 32 (.mv (.s 6)), gO 33 (.call 172 [.s 32]), gO 34 (.mv (.s 6)), gO 35 (.call 173 [.s 34]), gO 36 (.build [(.lit (.int .i64 0)), (.lit (.int .i64 0))] [(0, (1, (.s 33))), (1, (1, (.s 35)))]), ⟨none, none, .st 2 (.s 2) (.s 36)⟩, gO 3 (.mv (cI 0))]) .ret))))))⟩ := by kernel_rfl
set_option maxHeartbeats 2000000 in
theorem Tops_z (k : Nat) (R C : List (Int × Int)) (hR : R.length ≤ 100) (hC : C.length ≤ 100) : runZ MT (orA (k + 7)) (itA (k + 7)) 4000000 90 [encS R C] [] = some (outR (if opnE R C = 0 then (mnL (topsI R C (R.length + 1)), mxL (topsI R C (R.length + 1))) else (0, 0)) (opnE R C), []) := by
 refine runZ_of mf_Tops (by simp) ?_
 simp only [argsL]
 have hop := openS_c k R C hR hC
 have hs1 : (MV.sl (R.map encP)).slen = some R.length := by simp [MV.slen]
 by_cases h0 : opnE R C = 0
 ·obtain ⟨hb, hv⟩ := opn_zero h0
  rw [if_pos h0]
  generalize opnE R C = e at *
  subst h0
  have hR5 := hv.r5
  have hne : topsI R C (R.length + 1) ≠ [] := fun h => by
   obtain ⟨w, hw, _⟩ := possB_iff.1 hb
   have h1 := mem_topL.2 ⟨w, hw, rfl⟩
   have h2 : ((topW w : Nat) : Int) ∈ topsI R C (R.length + 1) := List.mem_map.2 ⟨_, h1, rfl⟩
   rw [h] at h2; cases h2
  repeat (first | apply ef_seq | (apply ef_mv; exact rfl; exact rfl) | (apply ef_bin; (iterate 3 exact rfl); (first | exact cmp_f rfl (by simp only [cmpP]; omega) | ((with_reducible refine bin_add (wrap_of ?_ ?_)) <;> omega))) | (apply ef_len; exact rfl; exact rfl; (assumption)) | (apply ef_ldp; exact rfl; exact rfl; (exact rfl); exact rfl; (exact rfl); (first | exact rd_2 rfl rfl | exact rfl)) | (apply ef_fap; exact rfl; exact rfl) | (apply ef_ext; (iterate 3 exact rfl)) | (apply ef_box; (iterate 4 exact rfl)) | (apply ef_newst; (iterate 3 exact rfl); (exact rfl); exact rfl) | (apply ef_new; exact rfl) | (apply ef_nil0; exact rfl) | apply ef_nil | apply seqQ.normal | apply ef_block | apply ef_skip | (apply ef_condf; exact rfl; (exact (rfl : false = false))) | (apply ef_call; exact rfl; ((repeat (apply XVs.cons; exact rfl)); exact XVs.nil); (with_reducible exact hop _)))
  refine ef_loopg (α := Nat × Nat × List Int) (fun a => a.1 ≤ R.length + 1 ∧ a.2.1 = a.2.2.length ∧ a.2.2 = topsI R C a.1) (fun a => [(21, I64 (a.1 : Int)), (6, .arr 3 0 a.2.1 a.2.1)]) [(20, I64 ((R.length : Int) + 1)), (4, .ptr 2 0 0 0), (2, .ptr 1 0 0 0)] (fun a => M0v R C a.2.2) (fun a => R.length + 1 - a.1) (0, 0, []) [21, 6] (fun _ => rfl) (by ((repeat (refine Hold.cons (by exact rfl) ?_)); exact Hold.nil)) (by ((repeat (refine Hold.cons (by exact rfl) ?_)); exact Hold.nil)) rfl rfl rfl ⟨by omega, rfl, rfl⟩ (by simp; omega) ?_
  rintro ⟨j, n, vs⟩ ⟨hj, hn, hvs⟩
  simp only at hj hn hvs
  have hln := topsI_len R C j
  rw [← hvs] at hln
  by_cases hlt : j < R.length + 1
  ·have hp := fun (h : MHeap) args ha => possible_f (k + 1) R C _ (topP j) hv.r5 hv.c5 (may_top (k + 4) j R.length) (args := args) (h := h) ha
   have hnx := topsI_succ R C j
   rw [← hvs] at hnx
   have hle := encS_lt 0 R C
   have head : ∀ A h vs, h.take 4 = M0v R C vs → (∀ t ∈ [21, 20, 4, 6, 2], ∃ v, look A t = some v ∧ v.lt 4 = true) → HeadIs [21, 20, 4, 6, 2] 4 A h (M0v R C vs) := fun A h vs hh hA => by
    rw [← hh]
    exact .cut hA (by rw [hh]; exact M0v_lt 4 R C vs)
   clear hvs
   subst hn
   cases hP : possB R C (topP j) <;> rw [hP] at hp hnx
   ·repeat (first | apply ef_seq | (apply ef_mv; exact rfl; exact rfl) | (apply ef_bin; (iterate 3 exact rfl); (exact cmp_t rfl (by first | exact rfl | (simp only [cmpP]; omega)))) | (apply ef_ldp; exact rfl; exact rfl; (exact rfl); exact rfl; (exact rfl); (exact rd_2 rfl rfl)) | (apply ef_newst; (iterate 3 exact rfl); (exact rfl); exact rfl) | (apply ef_mf; exact rfl; (repeat (apply XVs.cons; exact rfl)); exact XVs.nil) | apply ef_nil | apply seqQ.normal | apply ef_block | apply ef_skip | (apply ef_condt; exact rfl; (exact (rfl : true = true))))
    (apply ef_call; (· exact rfl); (· ((repeat (apply XVs.cons; exact rfl)); exact XVs.nil)); · exact hp _ _ (by simp [List.mapM_cons, frz, MV.lt, ltL, encP_lt]))
    repeat (first | (apply ef_mv; exact rfl; exact rfl) | (apply ef_bin; (iterate 3 exact rfl); (((with_reducible refine bin_add (wrap_of ?_ ?_)) <;> omega))) | apply ef_nil | apply seqQ.normal | apply blockQ.normal | apply ef_skip | (apply ef_condf; exact rfl; (exact (rfl : false = false))))
    refine loopQ.normal _ _ ⟨(j + 1, vs.length, vs), ⟨hlt, rfl, by rw [hnx]; simp⟩, by simp only; omega, ⟨by ((repeat (refine Hold.cons (by exact rfl) ?_)); exact Hold.nil), by ((repeat (refine Hold.cons (by exact rfl) ?_)); exact Hold.nil)⟩, head _ _ vs (by rfl) fun t ht => ?_⟩
    simp only [List.mem_cons, List.not_mem_nil, or_false] at ht
    rcases ht with rfl | rfl | rfl | rfl | rfl <;> exact ⟨_, rfl, rfl⟩
   ·repeat (first | apply ef_seq | (apply ef_mv; exact rfl; exact rfl) | (apply ef_bin; (iterate 3 exact rfl); (exact cmp_t rfl (by first | exact rfl | (simp only [cmpP]; omega)))) | (apply ef_ldp; exact rfl; exact rfl; (exact rfl); exact rfl; (exact rfl); (exact rd_2 rfl rfl)) | (apply ef_newst; (iterate 3 exact rfl); (exact rfl); exact rfl) | (apply ef_mf; exact rfl; (repeat (apply XVs.cons; exact rfl)); exact XVs.nil) | apply ef_nil | apply seqQ.normal | apply ef_block | apply ef_skip | (apply ef_condt; exact rfl; (exact (rfl : true = true))))
    (apply ef_call; (· exact rfl); (· ((repeat (apply XVs.cons; exact rfl)); exact XVs.nil)); · exact hp _ _ (by simp [List.mapM_cons, frz, MV.lt, ltL, encP_lt]))
    repeat (first | (apply ef_mv; exact rfl; exact rfl) | (apply ef_ldp; exact rfl; exact rfl; (exact rfl); exact rfl; (exact rfl); (exact rfl)) | (apply ef_bsl; exact rfl; (repeat (apply XVs.cons; exact rfl)); exact XVs.nil; exact rfl) | apply ef_nil | apply seqQ.normal | (apply ef_condt; exact rfl; (exact (rfl : true = true))))
    (apply ef_app; (· exact rfl); (· exact rfl); (· exact rfl); (· exact rfl); (· exact rfl); (· exact rfl); (· (simp)); (· exact rfl); (· (simp; omega)); (· (rfl)); (· exact rfl))
    repeat (first | (apply ef_mv; exact rfl; exact rfl) | (apply ef_bin; (iterate 3 exact rfl); (((with_reducible refine bin_add (wrap_of ?_ ?_)) <;> omega))) | apply ef_nil | apply seqQ.normal | apply blockQ.normal)
    refine loopQ.normal _ _ ⟨(j + 1, vs.length + 1, vs ++ [(j : Int)]), ⟨hlt, by simp, by rw [hnx]; simp⟩, by simp only; omega, ⟨by ((repeat (refine Hold.cons (by exact rfl) ?_)); exact Hold.nil), by ((repeat (refine Hold.cons (by exact rfl) ?_)); exact Hold.nil)⟩, head _ _ (vs ++ [(j : Int)]) (by simp [List.take]) fun t ht => ?_⟩
    simp only [List.mem_cons, List.not_mem_nil, or_false] at ht
    rcases ht with rfl | rfl | rfl | rfl | rfl <;> exact ⟨_, rfl, rfl⟩
  ·obtain rfl : j = R.length + 1 := by omega
   subst hvs hn
   generalize topsI R C (R.length + 1) = vs at *
   have q1 := fun (h : MHeap) v hv => Min_c (k + 6) vs h (v := v) (by omega) hne hv
   have q2 := fun (h : MHeap) v hv => Max_c (k + 6) vs h (v := v) (by omega) hne hv
   repeat (first | apply ef_seq | (apply ef_mv; exact rfl; exact rfl) | (apply ef_bin; (iterate 3 exact rfl); (exact cmp_f rfl (by simp only [cmpP]; omega))) | apply ef_nil | apply seqQ.normal | apply loopQ.exit | apply ef_exit | apply seqQ.exit | apply blockQ.here | (apply ef_condf; exact rfl; (exact (rfl : false = false))))
   (apply ef_call; (· exact rfl); (· ((repeat (apply XVs.cons; exact rfl)); exact XVs.nil)); · exact q1 _ _ (frz_arrg rfl (by simp) (I64_lt 0 vs)))
   repeat (first | (apply ef_mv; exact rfl; exact rfl))
   (apply ef_call; (· exact rfl); (· ((repeat (apply XVs.cons; exact rfl)); exact XVs.nil)); · exact q2 _ _ (frz_arrg rfl (by simp) (I64_lt 0 vs)))
   repeat (first | (apply ef_mv; exact rfl; exact rfl) | (apply ef_build; exact rfl; (repeat (apply XVs.cons; exact rfl)); exact XVs.nil; exact rfl; exact rfl) | (apply ef_st; (iterate 6 exact rfl); (exact rfl); (exact rfl)) | apply ef_nil | apply seqQ.normal | apply ef_ret)
   refine finR2 (v := encP (mnL vs, mxL vs)) (w := I64 0) rfl ?_ (by exact rfl) rfl rfl rfl
   apply resC <;> exact rfl
 ·rw [if_neg h0]
  generalize opnE R C = e at *
  repeat (first | apply ef_seq | (apply ef_mv; exact rfl; exact rfl) | (apply ef_bin; (iterate 3 exact rfl); (exact cmp_t rfl (by first | exact rfl | (simp only [cmpP]; omega)))) | (apply ef_ldp; exact rfl; exact rfl; (exact rfl); exact rfl; (exact rfl); (exact rd_2 rfl rfl)) | (apply ef_ext; (iterate 3 exact rfl)) | (apply ef_box; (iterate 4 exact rfl)) | (apply ef_newst; (iterate 3 exact rfl); (exact rfl); exact rfl) | (apply ef_new; exact rfl) | (apply ef_build; exact rfl; (repeat (apply XVs.cons; exact rfl)); exact XVs.nil; exact rfl; exact rfl) | (apply ef_st; (iterate 6 exact rfl); (exact rfl); (exact rfl)) | apply ef_nil | apply seqQ.normal | apply ef_ret | apply seqQ.ret | (apply ef_condt; exact rfl; (exact (rfl : true = true))) | (apply ef_call; exact rfl; ((repeat (apply XVs.cons; exact rfl)); exact XVs.nil); (with_reducible exact hop _)))
  refine finR2 (v := encP (0, 0)) (w := I64 e) rfl ?_ (by exact rfl) rfl rfl rfl
  apply resC <;> exact rfl
theorem Tops_c (k : Nat) (R C : List (Int × Int)) (hR : R.length ≤ 100) (hC : C.length ≤ 100) (h : MHeap) {v : MV} (hv : frz 0 [] h 8 v = some (encS R C)) : orA (k + 8) 90 [v] h = some (outR (if opnE R C = 0 then (mnL (topsI R C (R.length + 1)), mxL (topsI R C (R.length + 1))) else (0, 0)) (opnE R C), h) := by
 have := callA (k := k + 7) (h := h) (args := [v]) (args' := [encS R C]) (by simp [List.mapM_cons, hv]) rfl (Tops_z k R C hR hC) (by simp [okV, ok1, MV.lt, ltL, MV.pure, pureL]) rfl
 simpa [shV, sh1] using this
end Go.Proofs.YtnmgpbihknjdjaaGreatDoor

/- Chapter 9: the certain cells. -/
namespace Go.Proofs.YtnmgpbihknjdjaaGreatDoor
open Go.RowKit
set_option linter.unusedVariables false
theorem or_i64 (a b : Nat) (ha : a < 4611686018427387904) (hb : b < 4611686018427387904) : binI .or .i64 (a : Int) (b : Int) = some (.int .i64 ((a ||| b : Nat) : Int)) := by
 have h1 : (BitVec.ofInt 64 (a : Int)).toNat = a := by
  rw [BitVec.ofInt_natCast, BitVec.toNat_ofNat]; exact Nat.mod_eq_of_lt (by omega)
 have h2 : (BitVec.ofInt 64 (b : Int)).toNat = b := by
  rw [BitVec.ofInt_natCast, BitVec.toNat_ofNat]; exact Nat.mod_eq_of_lt (by omega)
 have h3 : a ||| b < 2 ^ 62 := Nat.or_lt_two_pow (by omega) (by omega)
 show some (Value.int .i64 (IntKind.i64.wrap ((BitVec.ofInt 64 (a : Int) ||| BitVec.ofInt 64 (b : Int)).toNat : Int))) = _
 rw [BitVec.toNat_or, h1, h2, wrap_of (by omega) (by omega)]
theorem and_i64 (a b : Nat) (ha : a < 4611686018427387904) (hb : b < 9223372036854775808) : binI .and .i64 (a : Int) (b : Int) = some (.int .i64 ((a &&& b : Nat) : Int)) := by
 have h1 : (BitVec.ofInt 64 (a : Int)).toNat = a := by
  rw [BitVec.ofInt_natCast, BitVec.toNat_ofNat]; exact Nat.mod_eq_of_lt (by omega)
 have h2 : (BitVec.ofInt 64 (b : Int)).toNat = b := by
  rw [BitVec.ofInt_natCast, BitVec.toNat_ofNat]; exact Nat.mod_eq_of_lt (by omega)
 have h3 : a &&& b ≤ a := Nat.and_le_left
 show some (Value.int .i64 (IntKind.i64.wrap ((BitVec.ofInt 64 (a : Int) &&& BitVec.ofInt 64 (b : Int)).toNat : Int))) = _
 rw [BitVec.toNat_and, h1, h2, wrap_of (by omega) (by omega)]
theorem or_next (f : Nat → Bool) (c : Nat) (h : f c = true) : sumBits f c ||| 2 ^ c = sumBits f (c + 1) := by
 have h2 := Nat.two_pow_add_eq_or_of_lt (sumBits_lt f c) 1
 rw [Nat.mul_one] at h2
 simp only [sumBits, h, if_true]
 rw [Nat.add_comm, h2, Nat.or_comm]
theorem or_skip (f : Nat → Bool) (c : Nat) (h : f c = false) : sumBits f c = sumBits f (c + 1) := by
 simp [sumBits, h]
theorem sumBits_le (f : Nat → Bool) {c : Nat} (hc : c ≤ 5) : sumBits f c < 32 := sumBits_lt32 f hc
def alwR (R C : List (Int × Int)) (i : Nat) : List Nat := (List.range i).map (alwB R C)
def nevR (R C : List (Int × Int)) (i : Nat) : List Nat := (List.range i).map (nevB R C)
theorem alwR_succ (R C : List (Int × Int)) (i : Nat) : alwR R C (i + 1) = alwR R C i ++ [alwB R C i] := by simp [alwR, List.range_succ]
theorem nevR_succ (R C : List (Int × Int)) (i : Nat) : nevR R C (i + 1) = nevR R C i ++ [nevB R C i] := by simp [nevR, List.range_succ]
theorem alwR_len (R C : List (Int × Int)) (i : Nat) : (alwR R C i).length = i := by simp [alwR]
theorem nevR_len (R C : List (Int × Int)) (i : Nat) : (nevR R C i).length = i := by simp [nevR]
abbrev nilM : MV := .lit (.slice none 0 0)
abbrev M4c (R C : List (Int × Int)) : MHeap := [⟨0, false, 2, [encS R C]⟩, ⟨0, false, 2, [.agg [nilM, nilM]]⟩, ⟨0, false, 2, [encS R C]⟩, ⟨0, false, 2, [.agg [nilM, nilM]]⟩]
abbrev M7c (R C : List (Int × Int)) (i : Nat) (G : MHeap) : MHeap := ⟨0, false, 2, [encS R C]⟩ :: ⟨0, false, 2, [.agg [nilM, nilM]]⟩ :: ⟨0, false, 2, [encS R C]⟩ :: ⟨0, false, 2, [.agg [.arr 5 0 i (i - 1), .arr 6 0 i (i - 1)]]⟩ :: ⟨0, false, 1, [I64 0]⟩ :: ⟨i - 1, false, 1, natL (alwR R C i)⟩ :: ⟨i - 1, false, 1, natL (nevR R C i)⟩ :: G
def MC7 (R C : List (Int × Int)) (i : Nat) (G : MHeap) : MHeap := if i = 0 then M4c R C else M7c R C i G
theorem finR2f {n : Nat} {x : MX2} {A : Sl} {h : MHeap} {r1 r2 : MRes} {cs : List MV} {v' w m : MV} (hx : outX x = true) (h1 : ResV A h r1 (.agg cs)) (h2 : ResV A h r2 w) (hf : frz 0 [] h 8 (.agg cs) = some v') (l2 : w.lt 0 = true) (hm : MV.tup [v', w] = m) : FinF [r1, r2] m [] x A h := by
 subst hm
 have hi : impIds 0 [.agg cs, w] = [] := by
  cases w <;> first | (simp [MV.lt] at l2; done) | rfl
 refine ⟨hx, [.agg cs, w], [v', w], ⟨.agg cs, [w], rfl, h1, w, [], rfl, h2, rfl⟩, by rw [hi]; simp, ?_, rfl⟩
 rw [hi]
 have hw : frz 0 [] h 8 w = some w := frz_lt l2
 cases w <;> first | (simp [MV.lt] at l2; done) | simp [expL, hf, hw]
theorem mf_Cert : MT.mf 91 = some ⟨63, [(.cell 2 (some 2)), (.tmp 3)], (.seq (.reg [gO 1 (.box 2 (.s 0)), gO 2 (.new (.agg [(.lit (.slice none 0 0)), (.lit (.slice none 0 0))])), gO 3 (.mv (cI 0))]) (.seq (.reg [gO 13 (.ld (some 2) (.s 1)), gO 14 (.call 146 [.s 13]), gO 12 (.mv (.s 14)), gO 15 (.ext (.s 12) 0), gO 16 (.ext (.s 12) 1), gO 4 (.new (.agg [(.lit (.slice none 0 0)), (.lit (.slice none 0 0))])), ⟨none, none, .st 2 (.s 4) (.s 15)⟩, gO 5 (.mv (.s 16))]) (.seq (.seq (.reg [gO 17 (.mv (.s 5)), gO 18 (.bin .neq (.s 17) (cI 0))]) (.cond (.s 18) (.seq (.reg [gO 19 (.build [(.lit (.slice none 0 0)), (.lit (.slice none 0 0))] []), gO 20 (.mv (.s 5)), ⟨none, none, .st 2 (.s 2) (.s 19)⟩, gO 3 (.mv (.s 20))]) .ret) .skip)) (.seq (.reg [gO 6 (.new (.agg [(.lit (.slice none 0 0)), (.lit (.slice none 0 0))]))]) (.seq (.seq (.reg [gO 21 (.fa 0 (.s 1)), gO 22 (.ld none (.s 21)), gO 23 (.len (.s 22)), gO 24 (.mv (cI 0))]) (.block 0 (.loop [24, 23, 1, 4, 6, 2] (.seq (.reg [gO 25 (.bin .lss (.s 24) (.s 23))]) (.seq (.cond (.s 25) .skip (.exit 0)) (.seq (.block 1 (.seq (.reg [gO 26 (.mv (.s 24)), gO 7 (.new (.lit (.int .i64 0))), ⟨none, none, .st 1 (.s 7) (.s 26)⟩]) (.seq (.reg [gO 8 (.mv (cI 0)), gO 9 (.mv (cI 0))]) (.seq (.seq (.reg [gO 27 (.fa 1 (.s 1)), gO 28 (.ld none (.s 27)), gO 29 (.len (.s 28)), gO 30 (.mv (cI 0))]) (.block 2 (.loop [30, 29, 4, 7, 8, 9, 6, 24, 23, 1, 2] (.seq (.reg [gO 31 (.bin .lss (.s 30) (.s 29))]) (.seq (.cond (.s 31) .skip (.exit 2)) (.seq (.block 3 (.seq (.reg [gO 32 (.mv (.s 30)), gO 10 (.new (.lit (.int .i64 0))), ⟨none, none, .st 1 (.s 10) (.s 32)⟩]) (.seq (.reg [gO 33 (.mf 175 0 [.s 4, .s 7, .s 10]), gO 11 (.mv (.s 33))]) (.seq (.seq (.reg [gO 34 (.mv (.s 11)), gO 35 (.callv (.s 34) [(cI 0)]), gO 36 (.un .not (.s 35))]) (.cond (.s 36) (.reg [gO 37 (.mv (.s 8)), gO 38 (.ld none (.s 10)), gO 39 (.shf .shl (cI 1) (.s 38)), gO 40 (.bin .or (.s 37) (.s 39)), gO 8 (.mv (.s 40))]) .skip)) (.seq (.reg [gO 41 (.mv (.s 11)), gO 42 (.callv (.s 41) [(cI 1)]), gO 43 (.un .not (.s 42))]) (.cond (.s 43) (.reg [gO 44 (.mv (.s 9)), gO 45 (.ld none (.s 10)), gO 46 (.shf .shl (cI 1) (.s 45)), gO 47 (.bin .or (.s 44) (.s 46)), gO 9 (.mv (.s 47))]) .skip)))))) (.reg [gO 48 (.bin .add (.s 30) (cI 1)), gO 30 (.mv (.s 48))]))))))) (.reg [gO 49 (.fa 0 (.s 6)), gO 50 (.ld none (.s 49)), gO 51 (.mv (.s 8)), gO 52 (.vsl (.lit (.int .i64 0)) 1 1 [(0, (.s 51))]), gO 53 (.app 1 (.s 50) (.s 52)), gO 54 (.fa 1 (.s 6)), gO 55 (.ld none (.s 54)), gO 56 (.mv (.s 9)), gO 57 (.vsl (.lit (.int .i64 0)) 1 1 [(0, (.s 56))]), gO 58 (.app 1 (.s 55) (.s 57)), gO 59 (.fa 0 (.s 6)), ⟨none, none, .st 1 (.s 59) (.s 53)⟩, gO 60 (.fa 1 (.s 6)), ⟨none, none, .st 1 (.s 60) (.s 58)⟩, ⟨none, none, .ne (.s 54) (.s 50)⟩]))))) (.reg [gO 61 (.bin .add (.s 24) (cI 1)), gO 24 (.mv (.s 61))]))))))) (.seq (.reg [gO 62 (.ld (some 2) (.s 6)), ⟨none, none, .st 2 (.s 2) (.s 62)⟩, gO 3 (.mv (cI 0))]) .ret))))))⟩ := by kernel_rfl
theorem Cert_row (k : Nat) (R C : List (Int × Int)) (hR : R.length ≤ 5) (hC : C.length ≤ 5) (M : MHeap) (i : Nat) (h2 : M[2]? = some ⟨0, false, 2, [encS R C]⟩) (hcl : hltL M.length M = true) (h4 : 4 ≤ M.length) (c : Nat) (d : Bool) (hc : c < 5) : orA (k + 7) 175 [I64 (if d then 1 else 0), .ptr 2 0 0 0, .ptr M.length 0 0 0, .ptr (M.length + 1) 0 0 0] (M ++ [⟨0, false, 1, [I64 i]⟩] ++ [⟨0, false, 1, [I64 c]⟩]) = some (Bo (possB R C (cellP i c d)), M ++ [⟨0, false, 1, [I64 i]⟩] ++ [⟨0, false, 1, [I64 c]⟩]) := by
 refine callL (args' := [I64 (if d then 1 else 0), .rp (encS R C) 0, .rp (I64 i) 0, .rp (I64 c) 0]) ?_ rfl (Cert1_z k R C i c d hR hC hc)
 have e2 : (M ++ [(⟨0, false, 1, [I64 i]⟩ : MObj)] ++ [⟨0, false, 1, [I64 c]⟩])[2]? = some ⟨0, false, 2, [encS R C]⟩ := by
  rw [List.append_assoc, List.getElem?_append_left (by omega), h2]
 have e3 : (M ++ [(⟨0, false, 1, [I64 i]⟩ : MObj)] ++ [⟨0, false, 1, [I64 c]⟩])[M.length]? = some ⟨0, false, 1, [I64 i]⟩ := by
  rw [List.append_assoc, List.getElem?_append_right (Nat.le_refl _)]; simp
 have e4 : (M ++ [(⟨0, false, 1, [I64 i]⟩ : MObj)] ++ [⟨0, false, 1, [I64 c]⟩])[M.length + 1]? = some ⟨0, false, 1, [I64 c]⟩ := by
  rw [List.append_assoc, List.getElem?_append_right (by omega)]; simp
 have hle := encS_lt 0 R C
 generalize (M ++ [(⟨0, false, 1, [I64 i]⟩ : MObj)] ++ [⟨0, false, 1, [I64 c]⟩]) = H at *
 have p : ∀ id e, H[id]? = some ⟨0, false, e.cells.length, [e]⟩ → e.lt 0 = true → frz 0 [] H 8 (.ptr id 0 0 0) = some (.rp e 0) := fun id e h1 h2 => by
  simp only [frz, MV.lt, Nat.not_lt_zero, decide_false, Bool.false_eq_true, if_false, h1]
  simp [h2]
 simp only [List.mapM_cons, List.mapM_nil, p 2 (encS R C) e2 hle, p M.length (I64 i) e3 rfl, p (M.length + 1) (I64 c) e4 rfl, frz_lt (m := I64 (if d then 1 else 0)) rfl]
 rfl
set_option maxHeartbeats 2000000 in
theorem Cert_z (k : Nat) (R C : List (Int × Int)) (hR : R.length ≤ 100) (hC : C.length ≤ 100) : runZ MT (orA (k + 7)) (itA (k + 7)) 4000000 91 [encS R C] [] = some (.tup [if opnE R C = 0 then .agg [.sl (natL (alwR R C R.length)), .sl (natL (nevR R C R.length))] else .agg [nilM, nilM], I64 (opnE R C)], []) := by
 refine runZ_of mf_Cert (by simp) ?_
 simp only [argsL]
 have hop := openS_c k R C hR hC
 have hs1 : (MV.sl (R.map encP)).slen = some R.length := by simp [MV.slen]
 have hs2 : (MV.sl (C.map encP)).slen = some C.length := by simp [MV.slen]
 by_cases h0 : opnE R C = 0
 ·obtain ⟨hb, hv⟩ := opn_zero h0
  rw [if_pos h0]
  generalize opnE R C = e at *
  subst h0
  have hR5 := hv.r5
  have hC5 := hv.c5
  have hR1 := hv.r1
  repeat (first | apply ef_seq | (apply ef_mv; exact rfl; exact rfl) | (apply ef_bin; (iterate 3 exact rfl); (exact cmp_f rfl (by simp only [cmpP]; omega))) | (apply ef_len; exact rfl; exact rfl; (assumption)) | (apply ef_ldp; exact rfl; exact rfl; (exact rfl); exact rfl; (exact rfl); (first | exact rd_2 rfl rfl | exact rfl)) | (apply ef_fap; exact rfl; exact rfl) | (apply ef_ext; (iterate 3 exact rfl)) | (apply ef_box; (iterate 4 exact rfl)) | (apply ef_newst; (iterate 3 exact rfl); (exact rfl); exact rfl) | (apply ef_new; exact rfl) | apply ef_nil | apply seqQ.normal | apply ef_block | apply ef_skip | (apply ef_condf; exact rfl; (exact (rfl : false = false))) | (apply ef_call; exact rfl; ((repeat (apply XVs.cons; exact rfl)); exact XVs.nil); (with_reducible exact hop _)))
  refine ef_loopg (α := Nat × MHeap) (fun a => a.1 ≤ R.length ∧ hltL (MC7 R C a.1 a.2).length (MC7 R C a.1 a.2) = true) (fun a => [(24, I64 (a.1 : Int))]) [(23, I64 (R.length : Int)), (1, .ptr 0 0 0 0), (4, .ptr 2 0 0 0), (6, .ptr 3 0 0 0), (2, .ptr 1 0 0 0)] (fun a => MC7 R C a.1 a.2) (fun a => R.length - a.1) (0, []) [24] (fun _ => rfl) (by ((repeat (refine Hold.cons (by exact rfl) ?_)); exact Hold.nil)) (by ((repeat (refine Hold.cons (by exact rfl) ?_)); exact Hold.nil)) rfl rfl rfl ⟨by omega, ?_⟩ (by simp; omega) ?_
  ·show hltL 4 (M4c R C) = true
   simp only [hltL, List.all_cons, List.all_nil, ltL, encS_lt, Bool.and_true, Bool.true_and]
   rfl
  rintro ⟨i, G⟩ ⟨hi, hcl⟩
  simp only at hi hcl
  obtain ⟨M, hM⟩ : ∃ M, M = MC7 R C i G := ⟨_, rfl⟩
  have hMl : 4 ≤ M.length := by rw [hM]; unfold MC7; split <;> simp
  have m0 : M[0]? = some ⟨0, false, 2, [encS R C]⟩ := by rw [hM]; unfold MC7; split <;> rfl
  have m1 : M[1]? = some ⟨0, false, 2, [.agg [nilM, nilM]]⟩ := by rw [hM]; unfold MC7; split <;> rfl
  have m2 : M[2]? = some ⟨0, false, 2, [encS R C]⟩ := by rw [hM]; unfold MC7; split <;> rfl
  have HM := Lib.hid hM
  simp only [← hM] at hcl ⊢
  clear hM
  by_cases hlt : i < R.length
  ·have t0 : ∀ c, (M ++ [(⟨0, false, 1, [c]⟩ : MObj)])[0]? = some ⟨0, false, 2, [encS R C]⟩ := fun c => by rw [List.getElem?_append_left (by omega), m0]
   have t0' := t0 (I64 i)
   have hrow := Cert_row k R C hR5 hC5 M i m2 hcl hMl
   repeat (first | apply ef_seq | (apply ef_mv; exact rfl; exact rfl) | (apply ef_bin; (iterate 3 exact rfl); (exact cmp_t rfl (by first | exact rfl | (simp only [cmpP]; omega)))) | (apply ef_len; exact rfl; exact rfl; (assumption)) | (apply ef_ldp; exact rfl; exact rfl; (assumption); exact rfl; (exact rfl); (exact rfl)) | (apply ef_fap; exact rfl; exact rfl) | (apply ef_newst; (iterate 3 exact rfl); (exact rfl); exact rfl) | apply ef_nil | apply seqQ.normal | apply ef_block | apply ef_skip | (apply ef_condt; exact rfl; (exact (rfl : true = true))))
   have hHc : hltL (M.length + 1) (M ++ [(⟨0, false, 1, [I64 (i : Int)]⟩ : MObj)]) = true := by
    have h1 := hltL_le (show M.length ≤ M.length + 1 by omega) hcl
    unfold hltL at *
    rw [List.all_append, h1]; rfl
   have hHl : (M ++ [(⟨0, false, 1, [I64 (i : Int)]⟩ : MObj)]).length = M.length + 1 := by simp
   have hHl2 : (M ++ [(⟨0, false, (MV.lit (Value.int IntKind.i64 0)).cells.length, [I64 (i : Int)]⟩ : MObj)]).length = M.length + 1 := by simp
   refine ef_loopg (α := Nat × Nat × Nat) (fun a => a.1 ≤ C.length ∧ a.2.1 = sumBits (fun k => !possB R C (cellP i k false)) a.1 ∧ a.2.2 = sumBits (fun k => !possB R C (cellP i k true)) a.1) (fun a => [(30, I64 (a.1 : Int)), (8, I64 (a.2.1 : Int)), (9, I64 (a.2.2 : Int))]) [(29, I64 (C.length : Int)), (4, .ptr 2 0 0 0), (7, .ptr M.length 0 0 0), (6, .ptr 3 0 0 0), (24, I64 (i : Int)), (23, I64 (R.length : Int)), (1, .ptr 0 0 0 0), (2, .ptr 1 0 0 0)] (fun _ => M ++ [(⟨0, false, 1, [I64 (i : Int)]⟩ : MObj)]) (fun a => C.length - a.1) (0, 0, 0) [30, 8, 9] (fun _ => rfl) (by ((repeat (refine Hold.cons (by exact rfl) ?_)); exact Hold.nil)) (by ((repeat (refine Hold.cons (by exact rfl) ?_)); exact Hold.nil)) rfl rfl rfl ⟨by omega, rfl, rfl⟩ (by simp; omega) ?_
   rintro ⟨c, al, ne⟩ ⟨hc, hal, hne⟩
   simp only at hc hal hne
   by_cases hc2 : c < C.length
   ·have hl1 := sumBits_le (fun k => !possB R C (cellP i k false)) (c := c) (by omega)
    have hl2 := sumBits_le (fun k => !possB R C (cellP i k true)) (c := c) (by omega)
    rw [← hal] at hl1
    rw [← hne] at hl2
    have hpw := pow_le5 c (by omega)
    have o1 := or_i64 al (2 ^ c) (by omega) (by omega)
    have o2 := or_i64 ne (2 ^ c) (by omega) (by omega)
    have o3 := shl_n c (by omega)
    have p1 := hrow c false (by omega)
    have p2 := hrow c true (by omega)
    have n1 := or_next (fun k => !possB R C (cellP i k false)) c
    have n2 := or_next (fun k => !possB R C (cellP i k true)) c
    have s1 := or_skip (fun k => !possB R C (cellP i k false)) c
    have s2 := or_skip (fun k => !possB R C (cellP i k true)) c
    rw [← hal] at n1 s1
    rw [← hne] at n2 s2
    have N1 := Lib.hid n1
    have N2 := Lib.hid n2
    have S1 := Lib.hid s1
    have S2 := Lib.hid s2
    clear n1 n2 s1 s2 hal hne HM
    have tc : (M ++ [(⟨0, false, 1, [I64 (i : Int)]⟩ : MObj)] ++ [(⟨0, false, 1, [I64 (c : Int)]⟩ : MObj)])[M.length + 1]? = some ⟨0, false, 1, [I64 (c : Int)]⟩ := by
     rw [List.append_assoc, List.getElem?_append_right (by omega)]; simp
    have head : ∀ A, (∀ t ∈ [30, 29, 4, 7, 8, 9, 6, 24, 23, 1, 2], ∃ v, look A t = some v ∧ v.lt (M.length + 1) = true) → HeadIs [30, 29, 4, 7, 8, 9, 6, 24, 23, 1, 2] (M.length + 1) A (M ++ [(⟨0, false, 1, [I64 (i : Int)]⟩ : MObj)] ++ [(⟨0, false, 1, [I64 (c : Int)]⟩ : MObj)]) (M ++ [(⟨0, false, 1, [I64 (i : Int)]⟩ : MObj)]) := fun A hA => by
     have e1 : (M ++ [(⟨0, false, 1, [I64 (i : Int)]⟩ : MObj)] ++ [(⟨0, false, 1, [I64 (c : Int)]⟩ : MObj)]).take (M.length + 1) = M ++ [(⟨0, false, 1, [I64 (i : Int)]⟩ : MObj)] := by
      rw [← hHl, List.take_left]
     conv => arg 5; rw [← e1]
     exact .cut hA (by rw [e1]; exact hHc)
    repeat (first | apply ef_seq | (apply ef_mv; exact rfl; exact rfl) | (apply ef_bin; (iterate 3 exact rfl); (exact cmp_t rfl (by first | exact rfl | (simp only [cmpP]; omega)))) | (apply ef_newst; (iterate 3 exact rfl); (exact rfl); exact rfl) | (apply ef_mf; exact rfl; (repeat (apply XVs.cons; exact rfl)); exact XVs.nil) | apply ef_nil | apply seqQ.normal | apply ef_block | apply ef_skip | (apply ef_condt; exact rfl; (exact (rfl : true = true))))
    rw [hHl]
    cases q1 : possB R C (cellP i c false) <;> cases q2 : possB R C (cellP i c true) <;> rw [q1] at p1 <;> rw [q2] at p2
    all_goals repeat (fail)
    all_goals (apply ef_callv; (· exact rfl); (· exact rfl); (· ((repeat (apply XVs.cons; exact rfl)); exact XVs.nil)); (· exact rfl); (· exact p1))
    all_goals repeat (first | apply ef_seq | (apply ef_mv; exact rfl; exact rfl) | (apply ef_bin; (iterate 3 exact rfl); (assumption)) | (apply ef_ldp; exact rfl; exact rfl; (assumption); exact rfl; (exact rfl); (exact rfl)) | (apply ef_notT; exact rfl; exact rfl) | (apply ef_notF; exact rfl; exact rfl) | (apply ef_shf; (iterate 3 exact rfl); (assumption)) | apply ef_nil | apply seqQ.normal | apply ef_skip | (apply ef_condt; exact rfl; (exact (rfl : true = true))) | (apply ef_condf; exact rfl; (exact (rfl : false = false))))
    all_goals (apply ef_callv; (· exact rfl); (· exact rfl); (· ((repeat (apply XVs.cons; exact rfl)); exact XVs.nil)); (· exact rfl); (· exact p2))
    all_goals repeat (first | (apply ef_mv; exact rfl; exact rfl) | (apply ef_bin; (iterate 3 exact rfl); (first | assumption | ((with_reducible refine bin_add (wrap_of ?_ ?_)) <;> omega))) | (apply ef_ldp; exact rfl; exact rfl; (assumption); exact rfl; (exact rfl); (exact rfl)) | (apply ef_notT; exact rfl; exact rfl) | (apply ef_notF; exact rfl; exact rfl) | (apply ef_shf; (iterate 3 exact rfl); (assumption)) | apply ef_nil | apply seqQ.normal | apply blockQ.normal | apply ef_skip | (apply ef_condt; exact rfl; (exact (rfl : true = true))) | (apply ef_condf; exact rfl; (exact (rfl : false = false))))
    ·refine loopQ.normal _ _ ⟨(c + 1, al ||| 2 ^ c, ne ||| 2 ^ c), ⟨hc2, N1.out (by rw [q1]; rfl), N2.out (by rw [q2]; rfl)⟩, by simp only; omega, ⟨by ((repeat (refine Hold.cons (by exact rfl) ?_)); exact Hold.nil), by ((repeat (refine Hold.cons (by exact rfl) ?_)); exact Hold.nil)⟩, ?_⟩
     rw [hHl2]
     refine head _ fun t ht => ?_
     simp only [List.mem_cons, List.not_mem_nil, or_false] at ht
     rcases ht with rfl | rfl | rfl | rfl | rfl | rfl | rfl | rfl | rfl | rfl | rfl <;> exact ⟨_, rfl, by first | rfl | (simp only [MV.lt, decide_eq_true_eq]; omega)⟩
    ·refine loopQ.normal _ _ ⟨(c + 1, al ||| 2 ^ c, ne), ⟨hc2, N1.out (by rw [q1]; rfl), S2.out (by rw [q2]; rfl)⟩, by simp only; omega, ⟨by ((repeat (refine Hold.cons (by exact rfl) ?_)); exact Hold.nil), by ((repeat (refine Hold.cons (by exact rfl) ?_)); exact Hold.nil)⟩, ?_⟩
     rw [hHl2]
     refine head _ fun t ht => ?_
     simp only [List.mem_cons, List.not_mem_nil, or_false] at ht
     rcases ht with rfl | rfl | rfl | rfl | rfl | rfl | rfl | rfl | rfl | rfl | rfl <;> exact ⟨_, rfl, by first | rfl | (simp only [MV.lt, decide_eq_true_eq]; omega)⟩
    ·refine loopQ.normal _ _ ⟨(c + 1, al, ne ||| 2 ^ c), ⟨hc2, S1.out (by rw [q1]; rfl), N2.out (by rw [q2]; rfl)⟩, by simp only; omega, ⟨by ((repeat (refine Hold.cons (by exact rfl) ?_)); exact Hold.nil), by ((repeat (refine Hold.cons (by exact rfl) ?_)); exact Hold.nil)⟩, ?_⟩
     rw [hHl2]
     refine head _ fun t ht => ?_
     simp only [List.mem_cons, List.not_mem_nil, or_false] at ht
     rcases ht with rfl | rfl | rfl | rfl | rfl | rfl | rfl | rfl | rfl | rfl | rfl <;> exact ⟨_, rfl, by first | rfl | (simp only [MV.lt, decide_eq_true_eq]; omega)⟩
    ·refine loopQ.normal _ _ ⟨(c + 1, al, ne), ⟨hc2, S1.out (by rw [q1]; rfl), S2.out (by rw [q2]; rfl)⟩, by simp only; omega, ⟨by ((repeat (refine Hold.cons (by exact rfl) ?_)); exact Hold.nil), by ((repeat (refine Hold.cons (by exact rfl) ?_)); exact Hold.nil)⟩, ?_⟩
     rw [hHl2]
     refine head _ fun t ht => ?_
     simp only [List.mem_cons, List.not_mem_nil, or_false] at ht
     rcases ht with rfl | rfl | rfl | rfl | rfl | rfl | rfl | rfl | rfl | rfl | rfl <;> exact ⟨_, rfl, by first | rfl | (simp only [MV.lt, decide_eq_true_eq]; omega)⟩
   ·obtain rfl : c = C.length := by omega
    have hal2 : al = alwB R C i := hal
    have hne2 : ne = nevB R C i := hne
    clear hal hne
    have A1 := Lib.hid (alwR_succ R C i)
    have A2 := Lib.hid (nevR_succ R C i)
    have L1 := Lib.hid (alwR_len R C i)
    have L2 := Lib.hid (nevR_len R C i)
    subst hal2 hne2
    have c4 : ∀ (i : Nat) (G : MHeap), hltL (M7c R C (i + 1) G).length (M7c R C (i + 1) G) = (hltL (G.length + 7) G) := fun i G => by
     simp only [hltL, List.all_cons, ltL, MV.lt, encP_lt, natL_lt, Bool.and_true, Bool.true_and, List.length_cons]
     simp
    cases i with
    | zero =>
     have hM := HM.out
     have hM : M = M4c R C := hM
     subst hM
     repeat (first | apply ef_seq | (apply ef_mv; exact rfl; exact rfl) | (apply ef_bin; (iterate 3 exact rfl); (exact cmp_f rfl (by simp only [cmpP]; omega))) | (apply ef_ldp; exact rfl; exact rfl; (exact rfl); exact rfl; (exact rfl); (exact rfl)) | (apply ef_fap; exact rfl; exact rfl) | (apply ef_vsl; exact rfl; (repeat (apply XVs.cons; exact rfl)); exact XVs.nil; exact rfl; exact rfl) | apply ef_nil | apply seqQ.normal | apply loopQ.exit | apply ef_exit | apply seqQ.exit | apply blockQ.here | (apply ef_condf; exact rfl; (exact (rfl : false = false))))
     (apply ef_appn; (· exact rfl); (· exact rfl); (· exact rfl); (· exact rfl); (· simp); (· exact rfl))
     repeat (first | (apply ef_mv; exact rfl; exact rfl) | (apply ef_ldp; exact rfl; exact rfl; (exact rfl); exact rfl; (exact rfl); (exact rfl)) | (apply ef_fap; exact rfl; exact rfl) | (apply ef_vsl; exact rfl; (repeat (apply XVs.cons; exact rfl)); exact XVs.nil; exact rfl; exact rfl))
     (apply ef_appn; (· exact rfl); (· exact rfl); (· exact rfl); (· exact rfl); (· simp); (· exact rfl))
     repeat (first | (apply ef_mv; exact rfl; exact rfl) | (apply ef_bin; (iterate 3 exact rfl); (((with_reducible refine bin_add (wrap_of ?_ ?_)) <;> omega))) | (apply ef_fap; exact rfl; exact rfl) | (apply ef_ne; exact rfl; exact rfl; (exact rfl)) | (apply ef_st; (iterate 6 exact rfl); (exact rfl); (exact rfl)) | apply ef_nil | apply seqQ.normal | apply blockQ.normal)
     refine loopQ.normal _ _ ⟨(1, []), ⟨hR1, by show hltL (M7c R C 1 []).length (M7c R C 1 []) = true; rw [c4]; rfl⟩, by simp only; omega, ⟨by ((repeat (refine Hold.cons (by exact rfl) ?_)); exact Hold.nil), by ((repeat (refine Hold.cons (by exact rfl) ?_)); exact Hold.nil)⟩, ?_⟩
     have e1 : MC7 R C 1 [] = M7c R C 1 [] := rfl
     have e2 : alwR R C 1 = [alwB R C 0] := rfl
     have e3 : nevR R C 1 = [nevB R C 0] := rfl
     rw [e1]
     simp only [M7c, e2, e3]
     refine .cell ?_
     simp [hltL, ltL, MV.lt, encP_lt]
     rfl
    | succ i =>
     have hM := HM.out
     have hM : M = M7c R C (i + 1) G := hM
     subst hM
     rw [c4] at hcl
     have g1 : (natL (alwR R C (i + 1))).length = i + 1 := by rw [List.length_map]; exact L1.out
     have g2 : (natL (nevR R C (i + 1))).length = i + 1 := by rw [List.length_map]; exact L2.out
     repeat (first | apply ef_seq | (apply ef_mv; exact rfl; exact rfl) | (apply ef_bin; (iterate 3 exact rfl); (exact cmp_f rfl (by simp only [cmpP]; omega))) | (apply ef_ldp; exact rfl; exact rfl; (exact rfl); exact rfl; (exact rfl); (exact rfl)) | (apply ef_fap; exact rfl; exact rfl) | (apply ef_vsl; exact rfl; (repeat (apply XVs.cons; exact rfl)); exact XVs.nil; exact rfl; exact rfl) | apply ef_nil | apply seqQ.normal | apply loopQ.exit | apply ef_exit | apply seqQ.exit | apply blockQ.here | (apply ef_condf; exact rfl; (exact (rfl : false = false))))
     (apply ef_app; (· exact rfl); (· exact rfl); (· exact rfl); (· exact rfl); (· exact rfl); (· exact rfl); (· (simp [g1])); (· exact rfl); (· (simp [g1]; omega)); (· (rfl)); (· exact rfl))
     repeat (first | (apply ef_mv; exact rfl; exact rfl) | (apply ef_ldp; exact rfl; exact rfl; (exact rfl); exact rfl; (exact rfl); (exact rfl)) | (apply ef_fap; exact rfl; exact rfl) | (apply ef_vsl; exact rfl; (repeat (apply XVs.cons; exact rfl)); exact XVs.nil; exact rfl; exact rfl))
     (apply ef_app; (· exact rfl); (· exact rfl); (· exact rfl); (· exact rfl); (· exact rfl); (· exact rfl); (· (simp [g2])); (· exact rfl); (· (simp [g2]; omega)); (· (rfl)); (· exact rfl))
     repeat (first | (apply ef_mv; exact rfl; exact rfl) | (apply ef_bin; (iterate 3 exact rfl); (((with_reducible refine bin_add (wrap_of ?_ ?_)) <;> omega))) | (apply ef_fap; exact rfl; exact rfl) | (apply ef_ne; exact rfl; exact rfl; (exact rfl)) | (apply ef_st; (iterate 6 exact rfl); (exact rfl); (exact rfl)) | apply ef_nil | apply seqQ.normal | apply blockQ.normal)
     refine loopQ.normal _ _ ⟨(i + 2, G ++ [⟨0, false, 1, [I64 ((i + 1 : Nat) : Int)]⟩]), ⟨hlt, ?_⟩, by simp only; omega, ⟨by ((repeat (refine Hold.cons (by exact rfl) ?_)); exact Hold.nil), by ((repeat (refine Hold.cons (by exact rfl) ?_)); exact Hold.nil)⟩, ?_⟩
     ·show hltL (M7c R C (i + 1 + 1) _).length (M7c R C (i + 1 + 1) _) = true
      rw [c4]
      have h1 := hltL_le (show G.length + 7 ≤ (G ++ [(⟨0, false, 1, [I64 ((i + 1 : Nat) : Int)]⟩ : MObj)]).length + 7 by simp) hcl
      unfold hltL at *
      rw [List.all_append, h1]; rfl
     ·have e1 : ∀ G, MC7 R C (i + 2) G = M7c R C (i + 2) G := fun _ => rfl
      rw [e1]
      simp only [M7c, A1.out, A2.out, List.map_append, List.map_cons, List.map_nil]
      refine .cell ?_
      simp [hltL, ltL, MV.lt, encP_lt]
      rfl
  ·obtain rfl : i = R.length := by omega
   obtain ⟨n, hn⟩ : ∃ n, R.length = n + 1 := ⟨R.length - 1, by omega⟩
   have hM := HM.out
   unfold MC7 at hM
   rw [if_neg (by omega)] at hM
   have L1 := alwR_len R C R.length
   have L2 := nevR_len R C R.length
   have z1 := natL_lt 0 (alwR R C R.length)
   have z2 := natL_lt 0 (nevR R C R.length)
   subst hM
   repeat (first | apply ef_seq | (apply ef_mv; exact rfl; exact rfl) | (apply ef_bin; (iterate 3 exact rfl); (exact cmp_f rfl (by simp only [cmpP]; omega))) | (apply ef_ldp; exact rfl; exact rfl; (exact rfl); exact rfl; (exact rfl); (exact rd_2 rfl rfl)) | (apply ef_st; (iterate 6 exact rfl); (exact rfl); (exact rfl)) | apply ef_nil | apply seqQ.normal | apply loopQ.exit | apply ef_ret | apply ef_exit | apply seqQ.exit | apply blockQ.here | (apply ef_condf; exact rfl; (exact (rfl : false = false))))
   refine finR2f (n := 0) (cs := [.arr 5 0 R.length (R.length - 1), .arr 6 0 R.length (R.length - 1)]) (w := I64 0) (v' := .agg [.sl (natL (alwR R C R.length)), .sl (natL (nevR R C R.length))]) rfl ?_ (by exact rfl) ?_ rfl rfl
   ·apply resC <;> exact rfl
   ·have k1 : (natL (alwR R C R.length)).take R.length = natL (alwR R C R.length) := by rw [List.take_of_length_le (by rw [List.length_map, L1]; exact Nat.le_refl _)]
    have k2 : (natL (nevR R C R.length)).take R.length = natL (nevR R C R.length) := by rw [List.take_of_length_le (by rw [List.length_map, L2]; exact Nat.le_refl _)]
    simp [frz, MV.lt, ltL, z1, z2, k1, k2, L1, L2]
 ·rw [if_neg h0]
  generalize opnE R C = e at *
  repeat (first | apply ef_seq | (apply ef_mv; exact rfl; exact rfl) | (apply ef_bin; (iterate 3 exact rfl); (exact cmp_t rfl (by first | exact rfl | (simp only [cmpP]; omega)))) | (apply ef_ldp; exact rfl; exact rfl; (exact rfl); exact rfl; (exact rfl); (exact rd_2 rfl rfl)) | (apply ef_ext; (iterate 3 exact rfl)) | (apply ef_box; (iterate 4 exact rfl)) | (apply ef_newst; (iterate 3 exact rfl); (exact rfl); exact rfl) | (apply ef_new; exact rfl) | (apply ef_build; exact rfl; (repeat (apply XVs.cons; exact rfl)); exact XVs.nil; exact rfl; exact rfl) | (apply ef_st; (iterate 6 exact rfl); (exact rfl); (exact rfl)) | apply ef_nil | apply seqQ.normal | apply ef_ret | apply seqQ.ret | (apply ef_condt; exact rfl; (exact (rfl : true = true))) | (apply ef_call; exact rfl; ((repeat (apply XVs.cons; exact rfl)); exact XVs.nil); (with_reducible exact hop _)))
  refine finR2 (v := .agg [nilM, nilM]) (w := I64 e) rfl ?_ (by exact rfl) rfl rfl rfl
  apply resC <;> exact rfl
theorem Cert_c (k : Nat) (R C : List (Int × Int)) (hR : R.length ≤ 100) (hC : C.length ≤ 100) (h : MHeap) : orA (k + 8) 91 [encS R C] h = some (.tup [if opnE R C = 0 then .agg [.sl (natL (alwR R C R.length)), .sl (natL (nevR R C R.length))] else .agg [nilM, nilM], I64 (opnE R C)], h) := by
 have hz := Cert_z k R C hR hC
 by_cases h0 : opnE R C = 0
 ·rw [if_pos h0] at hz ⊢
  have hl : (MV.agg [.sl (natL (alwR R C R.length)), .sl (natL (nevR R C R.length))]).lt 0 = true := by simp only [MV.lt, ltL, natL_lt, Bool.and_self]
  have := callA (k := k + 7) (h := h) (args := [encS R C]) (args' := [encS R C]) (frzL_lt (ltS0 R C)) rfl hz (by rw [ltS0]; show ((MV.lt 0 _ && true) && true) = true; rw [hl]; rfl) rfl
  rw [List.append_nil] at this
  exact this
 ·rw [if_neg h0] at hz ⊢
  have := callA (k := k + 7) (h := h) (args := [encS R C]) (args' := [encS R C]) (frzL_lt (ltS0 R C)) rfl hz (by rw [ltS0]; rfl) rfl
  rw [List.append_nil] at this
  exact this
end Go.Proofs.YtnmgpbihknjdjaaGreatDoor

/- Chapter 9: the first body, which bodies are accepted. -/
namespace Go.Proofs.YtnmgpbihknjdjaaGreatDoor
open Go.RowKit
set_option linter.unusedVariables false
theorem Body_bad (k : Nat) (R C : List (Int × Int)) (hR : R.length ≤ 100) (hC : C.length ≤ 100) (h0 : opnE R C ≠ 0) : runZ MT (orA (k + 7)) (itA (k + 7)) 4000000 62 [encS R C] [] = some (.tup [.arr 0 0 0 0, I64 (opnE R C)], [⟨0, true, 1, []⟩]) := by
 refine runZ_of mf_body (by simp) ?_
 simp only [argsL]
 have hop := openS_c k R C hR hC
 generalize opnE R C = e at *
 repeat (first | apply ef_seq | (apply ef_mv; exact rfl; exact rfl) | (apply ef_bin; (iterate 3 exact rfl); (exact cmp_t rfl (by first | exact rfl | (simp only [cmpP]; omega)))) | (apply ef_ldp; exact rfl; exact rfl; (exact rfl); exact rfl; (exact rfl); (exact rd_2 rfl rfl)) | (apply ef_ext; (iterate 3 exact rfl)) | (apply ef_box; (iterate 4 exact rfl)) | (apply ef_newst; (iterate 3 exact rfl); (exact rfl); exact rfl) | (apply ef_nil0; exact rfl) | apply ef_nil | apply seqQ.normal | apply ef_ret | apply seqQ.ret | (apply ef_condt; exact rfl; (exact (rfl : true = true))) | (apply ef_call; exact rfl; ((repeat (apply XVs.cons; exact rfl)); exact XVs.nil); (with_reducible exact hop _)))
 exact fin_al (o := ⟨0, true, 1, []⟩) rfl (by exact rfl) (by exact rfl) rfl rfl rfl rfl rfl rfl rfl
theorem Body_ok (k : Nat) (R C : List (Int × Int)) (h0 : opnE R C = 0) : runZ MT (orA (k + 7)) (itA (k + 7)) 4000000 62 [encS R C] [] = some (.tup [.arr 0 0 R.length 0, I64 0], [⟨0, false, 1, natL (bodyB R C R.length)⟩]) := by
 obtain ⟨hb, hv⟩ := opn_zero h0
 have h5 := hv.r5
 have h6 := hv.c5
 refine body_z k R C hv.r5 hv.c5 (fun h => ?_) (body_picks (poss_any.1 hb)) hv.r1
 have := openS_c k R C (by omega) (by omega) h
 rw [h0] at this
 exact this
def bodyV (R C : List (Int × Int)) : List Nat := if opnE R C = 0 then bodyB R C R.length else []
theorem Body_c (k : Nat) (R C : List (Int × Int)) (hR : R.length ≤ 100) (hC : C.length ≤ 100) (h : MHeap) {v : MV} (hv : frz 0 [] h 8 v = some (encS R C)) : orA (k + 8) 62 [v] h = some (.tup [.arr h.length 0 (bodyV R C).length 0, I64 (opnE R C)], h ++ [⟨0, decide (opnE R C ≠ 0), 1, natL (bodyV R C)⟩]) := by
 have hp : pureL (natL (bodyV R C)) = true := natL_pure _
 by_cases h0 : opnE R C = 0
 ·have e1 : bodyV R C = bodyB R C R.length := if_pos h0
  have := callA (k := k + 7) (h := h) (args := [v]) (args' := [encS R C]) (by simp [List.mapM_cons, hv]) rfl (Body_ok k R C h0) (by simp [okV, ok1, MV.lt, MV.pure]) (by
   simp only [okH, List.all_cons, List.all_nil, Bool.and_true, natL_lt, Bool.true_and]; rw [Bool.or_eq_true]; exact .inr (natL_pure _))
  rw [e1, bodyB_len, h0]
  simpa [shV, sh1] using this
 ·have e1 : bodyV R C = [] := if_neg h0
  have := callA (k := k + 7) (h := h) (args := [v]) (args' := [encS R C]) (by simp [List.mapM_cons, hv]) rfl (Body_bad k R C hR hC h0) (by simp [okV, ok1, MV.lt, MV.pure]) (by
   simp only [okH, List.all_cons, List.all_nil, Bool.and_true, ltL, Bool.true_and]; rw [Bool.or_eq_true]; exact .inr rfl)
  rw [e1]
  simpa [shV, sh1, h0] using this
theorem sumV_snoc (w : List Nat) (s : Nat) : sumV (w ++ [s]) = plusV s 0 (sumV w) := by
 refine List.ext_getElem? fun k => ?_
 by_cases h : k < 5
 ·rw [sumV_get _ k h, plusV_get, sumV_get _ k h, colS_app, Nat.zero_add]
  simp [colS]
 ·rw [List.getElem?_eq_none (by rw [sumV_len]; omega), List.getElem?_eq_none (by rw [plusV_len, sumV_len]; omega)]
theorem sumV_le {w : List Nat} (hl : w.length ≤ 100) : ∀ x ∈ sumV w, 0 ≤ x ∧ x ≤ (100 : Nat) := fun x hx => by
 rw [sumV_eq] at hx
 simp only [List.mem_cons, List.not_mem_nil, or_false] at hx
 have h0 := colS_le w 0
 have h1 := colS_le w 1
 have h2 := colS_le w 2
 have h3 := colS_le w 3
 have h4 := colS_le w 4
 rcases hx with rfl | rfl | rfl | rfl | rfl <;> omega
def rowE (n : Nat) (r : Int × Int) (x : Int) : Int := if inB x 0 ((2 ^ n : Nat) - 1 : Int) then (if inB (pc x.toNat) r.1 r.2 then 0 else 22) else 2
def colE (w : List Nat) (k : Nat) (c : Int × Int) : Int := if inB (colS w k) c.1 c.2 then 0 else 22
def chkB (R C : List (Int × Int)) (b : List Int) : Int × Int :=
 if b.length ≠ R.length then (0, 10)
 else if (firG (fun i => rowE C.length (R.getD i (0, 0))) 0 b).2 ≠ 0 then firG (fun i => rowE C.length (R.getD i (0, 0))) 0 b
 else if (firG (colE (b.map Int.toNat)) 0 C).2 ≠ 0 then firG (colE (b.map Int.toNat)) 0 C
 else (volS (b.map Int.toNat), 0)
def chkBE (R C : List (Int × Int)) (b : List Int) : Int × Int := if (chkS R C).2 ≠ 0 then (0, (chkS R C).2) else chkB R C b
theorem mf_ChkB : MT.mf 60 = some ⟨92, [(.tmp 4), (.tmp 5)], (.seq (.reg [gO 2 (.box 2 (.s 0)), gO 4 (.mv (cI 0)), gO 5 (.mv (cI 0))]) (.seq (.reg [gO 15 (.ld (some 2) (.s 2)), gO 16 (.call 58 [.s 15]), gO 14 (.mv (.s 16)), gO 17 (.ext (.s 14) 0), gO 18 (.ext (.s 14) 1), gO 6 (.mv (.s 17)), gO 7 (.mv (.s 18))]) (.seq (.seq (.reg [gO 19 (.mv (.s 7)), gO 20 (.mv (.s 1)), gO 21 (.len (.s 20)), gO 22 (.fa 0 (.s 2)), gO 23 (.ld none (.s 22)), gO 24 (.len (.s 23)), gO 25 (.bin .eql (.s 21) (.s 24)), gO 26 (.call 105 [.s 25, (cI 10)]), gO 27 (.bsl (.lit (.int .i64 0)) 1 2 [(0, (.s 19)), (1, (.s 26))]), gO 28 (.call 104 [.s 27]), gO 7 (.mv (.s 28))]) (.seq (.reg [gO 29 (.mv (.s 7)), gO 30 (.bin .neq (.s 29) (cI 0))]) (.cond (.s 30) (.seq (.reg [gO 31 (.mv (.s 7)), gO 4 (.mv (cI 0)), gO 5 (.mv (.s 31))]) .ret) .skip))) (.seq (.reg [gO 8 (.new (.agg [(.lit (.int .i64 0)), (.lit (.int .i64 0)), (.lit (.int .i64 0)), (.lit (.int .i64 0)), (.lit (.int .i64 0))]))]) (.seq (.seq (.reg [gO 32 (.mv (.s 1)), gO 33 (.len (.s 32)), gO 34 (.mv (cI 0))]) (.block 0 (.loop [34, 33, 32, 2, 8] (.seq (.reg [gO 35 (.bin .lss (.s 34) (.s 33))]) (.seq (.cond (.s 35) .skip (.exit 0)) (.seq (.block 1 (.seq (.reg [gO 36 (.mv (.s 34)), gO 37 (.ia 1 (.s 32) (.s 34)), gO 38 (.ld none (.s 37)), gO 9 (.mv (.s 36)), gO 10 (.mv (.s 38))]) (.seq (.seq (.reg [gO 39 (.mv (.s 10)), gO 40 (.fa 1 (.s 2)), gO 41 (.ld none (.s 40)), gO 42 (.len (.s 41)), gO 43 (.shf .shl (cI 1) (.s 42)), gO 44 (.bin .sub (.s 43) (cI 1)), gO 45 (.call 103 [.s 39, (cI 0), .s 44]), gO 46 (.un .not (.s 45))]) (.cond (.s 46) (.seq (.reg [gO 47 (.mv (.s 9)), gO 4 (.mv (.s 47)), gO 5 (.mv (cI 2))]) .ret) .skip)) (.seq (.seq (.reg [gO 48 (.mv (.s 10)), gO 49 (.cv .u64 (.s 48)), gO 50 (.call 143 [.s 49]), gO 11 (.mv (.s 50))]) (.seq (.reg [gO 51 (.mv (.s 11)), gO 52 (.fa 0 (.s 2)), gO 53 (.ld none (.s 52)), gO 54 (.mv (.s 9)), gO 55 (.ia 2 (.s 53) (.s 54)), gO 56 (.fa 0 (.s 55)), gO 57 (.ld none (.s 56)), gO 58 (.fa 0 (.s 2)), gO 59 (.ld none (.s 58)), gO 60 (.mv (.s 9)), gO 61 (.ia 2 (.s 59) (.s 60)), gO 62 (.fa 1 (.s 61)), gO 63 (.ld none (.s 62)), gO 64 (.call 103 [.s 51, .s 57, .s 63]), gO 65 (.un .not (.s 64))]) (.cond (.s 65) (.seq (.reg [gO 66 (.mv (.s 9)), gO 4 (.mv (.s 66)), gO 5 (.mv (cI 22))]) .ret) .skip))) (.reg [gO 67 (.ld (some 5) (.s 8)), gO 68 (.mv (.s 10)), gO 69 (.call 144 [.s 67, .s 68]), ⟨none, none, .st 5 (.s 8) (.s 69)⟩]))))) (.reg [gO 70 (.bin .add (.s 34) (cI 1)), gO 34 (.mv (.s 70))]))))))) (.seq (.seq (.reg [gO 71 (.fa 1 (.s 2)), gO 72 (.ld none (.s 71)), gO 73 (.len (.s 72)), gO 74 (.mv (cI 0))]) (.block 2 (.loop [74, 73, 72, 8] (.seq (.reg [gO 75 (.bin .lss (.s 74) (.s 73))]) (.seq (.cond (.s 75) .skip (.exit 2)) (.seq (.block 3 (.seq (.reg [gO 76 (.mv (.s 74)), gO 77 (.ia 2 (.s 72) (.s 74)), gO 78 (.ld (some 2) (.s 77)), gO 13 (.new (.agg [(.lit (.int .i64 0)), (.lit (.int .i64 0))])), gO 12 (.mv (.s 76)), ⟨none, none, .st 2 (.s 13) (.s 78)⟩]) (.seq (.reg [gO 79 (.mv (.s 12)), gO 80 (.iaa 1 5 (.s 8) (.s 79)), gO 81 (.ld none (.s 80)), gO 82 (.fa 0 (.s 13)), gO 83 (.ld none (.s 82)), gO 84 (.fa 1 (.s 13)), gO 85 (.ld none (.s 84)), gO 86 (.call 103 [.s 81, .s 83, .s 85]), gO 87 (.un .not (.s 86))]) (.cond (.s 87) (.seq (.reg [gO 88 (.mv (.s 12)), gO 4 (.mv (.s 88)), gO 5 (.mv (cI 22))]) .ret) .skip)))) (.reg [gO 89 (.bin .add (.s 74) (cI 1)), gO 74 (.mv (.s 89))]))))))) (.seq (.reg [gO 90 (.ld (some 5) (.s 8)), gO 91 (.call 145 [.s 90]), gO 4 (.mv (.s 91)), gO 5 (.mv (cI 0))]) .ret)))))))⟩ := by kernel_rfl
set_option maxHeartbeats 2000000 in
theorem ChkB_z (k : Nat) (R C : List (Int × Int)) (b : List Int) (hR : R.length ≤ 100) (hC : C.length ≤ 100) (hb : b.length ≤ 1000) : runZ MT (orA (k + 6)) (itA (k + 6)) 4000000 60 [encS R C, .sl (b.map I64)] [] = some (outI (chkBE R C b), []) := by
 refine runZ_of mf_ChkB (by simp) ?_
 simp only [argsL]
 have hs1 : (MV.sl (R.map encP)).slen = some R.length := by simp [MV.slen]
 have hs2 : (MV.sl (C.map encP)).slen = some C.length := by simp [MV.slen]
 have hs3 : (MV.sl (b.map I64)).slen = some b.length := by simp [MV.slen]
 have hck := ChkS_c k R C hR hC
 have hu := fun b n h => unless_c (k + 5) b n h rfl
 by_cases h0 : (chkS R C).2 = 0
 ·have hv := chkS_val h0
  have HE := Lib.hid (show chkBE R C b = chkB R C b from if_neg (by simp [h0]))
  have h5 := hv.r5
  have h6 := hv.c5
  generalize chkS R C = ck at *
  have hf0 : firstE [ck.2, 0] = 0 := by simp [firstE, h0]
  have hf1 : firstE [ck.2, 10] = 10 := by simp [firstE, h0]
  have hu1 := fun h => unless_c (k + 5) true 10 h (e := 0) rfl
  have hu2 := fun h => unless_c (k + 5) false 10 h (e := 10) rfl
  clear hu
  by_cases h1 : b.length = R.length
  ·have HB := Lib.hid (HE.out.trans (show chkB R C b = _ from if_neg (by simp [h1])))
   have hpw := pow_le5 C.length h6
   have hsh := shl_n C.length h6
   clear HE
   repeat (first | apply ef_seq | (apply ef_mv; exact rfl; exact rfl) | (apply ef_bin; (iterate 3 exact rfl); (first | exact cmp_t rfl (by first | exact rfl | (simp only [cmpP]; omega)) | exact cmp_f rfl (by simp only [cmpP]; omega))) | (apply ef_len; exact rfl; exact rfl; (assumption)) | (apply ef_ldp; exact rfl; exact rfl; (exact rfl); exact rfl; (exact rfl); (first | exact rd_2 rfl rfl | exact rfl)) | (apply ef_fap; exact rfl; exact rfl) | (apply ef_ext; (iterate 3 exact rfl)) | (apply ef_box; (iterate 4 exact rfl)) | (apply ef_new; exact rfl) | (apply ef_bsl; exact rfl; (repeat (apply XVs.cons; exact rfl)); exact XVs.nil; exact rfl) | apply ef_nil | apply seqQ.normal | apply ef_block | apply ef_skip | (apply ef_condf; exact rfl; (exact (rfl : false = false))) | (apply ef_call; exact rfl; ((repeat (apply XVs.cons; exact rfl)); exact XVs.nil); (with_reducible first | exact hck _ | exact hu1 _)) | (apply ef_call; exact rfl; ((repeat (apply XVs.cons; exact rfl)); exact XVs.nil); (with_reducible apply first2_c); (iterate 3 exact rfl); (assumption)))
   obtain ⟨w, hw⟩ : ∃ w, w = b.map Int.toNat := ⟨_, rfl⟩
   have hwl : w.length = b.length := by rw [hw, List.length_map]
   have HB2 := Lib.hid HB.out
   clear HB hck hu1 hu2 hf0 hf1
   refine ef_loopg (α := Nat × List Int) (fun a => a.1 ≤ b.length ∧ firG (fun i => rowE C.length (R.getD i (0, 0))) 0 b = firG (fun i => rowE C.length (R.getD i (0, 0))) a.1 (b.drop a.1) ∧ a.2 = sumV (w.take a.1)) (fun a => [(34, I64 (a.1 : Int))]) [(33, I64 (b.length : Int)), (32, .sl (b.map I64)), (2, .ptr 0 0 0 0), (8, .ptr 2 0 0 0)] (fun a => [⟨0, false, 2, [encS R C]⟩, ⟨0, false, 1, [I64 ck.2, I64 0]⟩, ⟨0, false, 5, [keyA a.2]⟩]) (fun a => b.length - a.1) (0, [0, 0, 0, 0, 0]) [34] (fun _ => rfl) (by ((repeat (refine Hold.cons (by exact rfl) ?_)); exact Hold.nil)) (by ((repeat (refine Hold.cons (by exact rfl) ?_)); exact Hold.nil)) rfl rfl rfl ⟨by omega, rfl, rfl⟩ (by simp; omega) ?_
   rintro ⟨i, acc⟩ ⟨hi, hz, hacc⟩
   simp only at hi hz hacc
   have ha5 : acc.length = 5 := by rw [hacc]; exact sumV_len _
   have hab : ∀ x ∈ acc, 0 ≤ x ∧ x ≤ (100 : Nat) := by rw [hacc]; exact sumV_le (by rw [List.length_take]; omega)
   by_cases hlt : i < b.length
   ·obtain ⟨x, hx⟩ : ∃ x, b[i]? = some x := ⟨b[i], by simp [hlt]⟩
    obtain ⟨r, hr⟩ : ∃ r, R[i]? = some r := ⟨R[i]'(by omega), by simp⟩
    have e1 : (b.map I64)[((i : Nat) : Int).toNat]? = some (I64 x) := by rw [Int.toNat_natCast, List.getElem?_map, hx]; rfl
    have e2 : (R.map encP)[((i : Nat) : Int).toNat]? = some (encP r) := by rw [Int.toNat_natCast, List.getElem?_map, hr]; rfl
    have HD : b.drop i = x :: b.drop (i + 1) := by
     obtain ⟨q1, q2⟩ := List.getElem?_eq_some_iff.1 hx
     rw [← q2]; exact List.drop_eq_getElem_cons q1
    have HG : firG (fun i => rowE C.length (R.getD i (0, 0))) 0 b = if rowE C.length r x = 0 then firG (fun i => rowE C.length (R.getD i (0, 0))) (i + 1) (b.drop (i + 1)) else (i, rowE C.length r x) := by
     rw [hz, HD, firG, getD_some hr]
    have HE : rowE C.length r x = if inB x 0 ((2 ^ C.length : Nat) - 1 : Int) then (if inB (pc x.toNat) r.1 r.2 then 0 else 22) else 2 := rfl
    have hnx : w[i]? = some x.toNat := by rw [hw, List.getElem?_map, hx]; rfl
    have htk : w.take (i + 1) = w.take i ++ [x.toNat] := by rw [List.take_add_one, hnx]; rfl
    have hsn := sumV_snoc (w.take i) x.toNat
    rw [← htk, ← hacc] at hsn
    obtain ⟨pw, hpwe⟩ : ∃ pw, pw = 2 ^ C.length := ⟨_, rfl⟩
    rw [← hpwe] at HE hsh hpw
    replace HE := Lib.hid HE
    replace HG := Lib.hid HG
    replace hz := Lib.hid hz
    clear hacc hnx htk HD hx hr
    obtain ⟨a0, a1, a2, a3, a4, rfl⟩ := five_of ha5
    cases q1 : inB x 0 ((pw : Nat) - 1 : Int)
    ·repeat (first | apply ef_seq | (apply ef_mv; exact rfl; exact rfl) | (apply ef_bin; (iterate 3 exact rfl); (first | exact cmp_t rfl (by first | exact rfl | (simp only [cmpP]; omega)) | ((with_reducible refine bin_sub (wrap_of ?_ ?_)) <;> omega))) | (apply ef_len; exact rfl; exact rfl; (assumption)) | (apply ef_ldr; exact rfl; exact rfl; (exact rfl)) | (apply ef_ldp; exact rfl; exact rfl; (exact rfl); exact rfl; (exact rfl); (exact rfl)) | (apply ef_ias; (iterate 3 exact rfl); (omega); assumption; exact rfl) | (apply ef_fap; exact rfl; exact rfl) | (apply ef_notF; exact rfl; exact rfl) | (apply ef_shf; (iterate 3 exact rfl); (assumption)) | apply ef_nil | apply seqQ.normal | apply loopQ.ret | apply ef_ret | apply seqQ.ret | apply blockQ.ret | apply ef_block | apply ef_skip | (apply ef_condt; exact rfl; (exact (rfl : true = true))) | (apply ef_call; exact rfl; ((repeat (apply XVs.cons; exact rfl)); exact XVs.nil); (with_reducible exact within_c (k + 5) _ _ _ _ q1)))
     (refine fin2 rfl (by exact rfl) (by exact rfl) ?_)
     have hE : rowE C.length r x = 2 := by rw [HE.out, q1]; rfl
     rw [HB2.out, HG.out, hE]; rfl
    ·have hxr := inB_iff.1 q1
     obtain ⟨s, rfl⟩ : ∃ s : Nat, x = (s : Int) := ⟨x.toNat, by omega⟩
     have hs32 : s < 32 := by omega
     have hw64 : IntKind.u64.wrap (s : Int) = (s : Int) := by rw [IntKind.wrap_u64]; omega
     rw [Int.toNat_natCast] at hsn
     have hpl := fun h => plus_k (k + 5) [a0, a1, a2, a3, a4] s ha5 hab hs32 h
     have hpv : ∃ p, p = plusV s 0 [a0, a1, a2, a3, a4] := ⟨_, rfl⟩
     obtain ⟨p, hp⟩ := hpv
     have hp5 : p.length = 5 := by rw [hp, plusV_len]; rfl
     rw [← hp] at hpl hsn
     clear hp
     obtain ⟨b0, b1, b2, b3, b4, rfl⟩ := five_of hp5
     cases q2 : inB (pc s) r.1 r.2
     ·repeat (first | apply ef_seq | (apply ef_mv; exact rfl; exact rfl) | (apply ef_bin; (iterate 3 exact rfl); (first | exact cmp_t rfl (by first | exact rfl | (simp only [cmpP]; omega)) | ((with_reducible refine bin_sub (wrap_of ?_ ?_)) <;> omega))) | (apply ef_len; exact rfl; exact rfl; (assumption)) | (apply ef_ldr; exact rfl; exact rfl; (exact rfl)) | (apply ef_ldp; exact rfl; exact rfl; (exact rfl); exact rfl; (exact rfl); (exact rfl)) | (apply ef_ias; (iterate 3 exact rfl); (omega); assumption; exact rfl) | (apply ef_fap; exact rfl; exact rfl) | (apply ef_far; exact rfl; exact rfl) | (apply ef_notT; exact rfl; exact rfl) | (apply ef_notF; exact rfl; exact rfl) | (apply ef_cv; exact rfl; exact rfl; (assumption)) | (apply ef_shf; (iterate 3 exact rfl); (assumption)) | apply ef_nil | apply seqQ.normal | apply loopQ.ret | apply ef_ret | apply seqQ.ret | apply blockQ.ret | apply ef_block | apply ef_skip | (apply ef_condt; exact rfl; (exact (rfl : true = true))) | (apply ef_condf; exact rfl; (exact (rfl : false = false))) | (apply ef_call; exact rfl; ((repeat (apply XVs.cons; exact rfl)); exact XVs.nil); (with_reducible first | exact within_c (k + 5) _ _ _ _ q1 | exact ones_c (k + 4) s hs32 _ | exact within_c (k + 5) _ _ _ _ q2)))
      (refine fin2 rfl (by exact rfl) (by exact rfl) ?_)
      have hE : rowE C.length r (s : Int) = 22 := by rw [HE.out, q1, Int.toNat_natCast, q2]; rfl
      rw [HB2.out, HG.out, hE]; rfl
     ·repeat (first | apply ef_seq | (apply ef_mv; exact rfl; exact rfl) | (apply ef_bin; (iterate 3 exact rfl); (first | exact cmp_t rfl (by first | exact rfl | (simp only [cmpP]; omega)) | ((with_reducible refine bin_sub (wrap_of ?_ ?_)) <;> omega))) | (apply ef_len; exact rfl; exact rfl; (assumption)) | (apply ef_ldr; exact rfl; exact rfl; (exact rfl)) | (apply ef_ldp; exact rfl; exact rfl; (exact rfl); exact rfl; (exact rfl); (first | exact rd_5 rfl rfl rfl rfl rfl | exact rfl)) | (apply ef_ias; (iterate 3 exact rfl); (omega); assumption; exact rfl) | (apply ef_fap; exact rfl; exact rfl) | (apply ef_far; exact rfl; exact rfl) | (apply ef_notT; exact rfl; exact rfl) | (apply ef_cv; exact rfl; exact rfl; (assumption)) | (apply ef_shf; (iterate 3 exact rfl); (assumption)) | apply ef_nil | apply seqQ.normal | apply ef_block | apply ef_skip | (apply ef_condt; exact rfl; (exact (rfl : true = true))) | (apply ef_condf; exact rfl; (exact (rfl : false = false))) | (apply ef_call; exact rfl; ((repeat (apply XVs.cons; exact rfl)); exact XVs.nil); (with_reducible first | exact within_c (k + 5) _ _ _ _ q1 | exact ones_c (k + 4) s hs32 _ | exact within_c (k + 5) _ _ _ _ q2)))
      have hE : rowE C.length r (s : Int) = 0 := by rw [HE.out, q1, Int.toNat_natCast, q2]; rfl
      (apply ef_call; (· exact rfl); (· ((repeat (apply XVs.cons; exact rfl)); exact XVs.nil)); · exact hpl _)
      repeat (first | (apply ef_mv; exact rfl; exact rfl) | (apply ef_bin; (iterate 3 exact rfl); (((with_reducible refine bin_add (wrap_of ?_ ?_)) <;> omega))) | (apply ef_st; (iterate 6 exact rfl); (exact rfl); (exact rfl)) | apply ef_nil | apply seqQ.normal | apply blockQ.normal)
      (refine loopQ.normal _ _ ⟨(i + 1, [b0, b1, b2, b3, b4]), ⟨hlt, by rw [HG.out, if_pos hE], hsn.symm⟩, (by first | (simp only; omega) | omega), ⟨by ((repeat (refine Hold.cons (by exact rfl) ?_)); exact Hold.nil), by ((repeat (refine Hold.cons (by exact rfl) ?_)); exact Hold.nil)⟩, .all (by first | exact Nat.le_refl _ | (simp; done) | (simp; omega))⟩)
   ·obtain rfl : i = b.length := by omega
    rw [List.drop_eq_nil_of_le (Nat.le_refl _)] at hz
    have HB3 := Lib.hid (HB2.out.trans (if_neg (by rw [hz]; simp [firG])))
    have hw2 : w.take b.length = w := by rw [← hwl, List.take_length]
    rw [hw2] at hacc
    rw [← hw] at HB3
    clear hz HB2
    have hat : ∀ j : Nat, j < 5 → rdCells (keyA acc).cells (0 + (j : Int).toNat * 1) none = some (I64 (colS w j)) := fun j hj => by
     have h7 := sumV_eq w
     rw [← hacc] at h7
     rw [h7]
     match j, hj with
     | 0, _ => rfl
     | 1, _ => rfl
     | 2, _ => rfl
     | 3, _ => rfl
     | 4, _ => rfl
    have htot := total_c (k + 5) acc ha5 (fun x hx => by have := hab x hx; omega)
    have hvol : acc.sum = volS w := by rw [hacc]; rfl
    clear hacc hab
    repeat (first | apply ef_seq | (apply ef_mv; exact rfl; exact rfl) | (apply ef_bin; (iterate 3 exact rfl); (exact cmp_f rfl (by simp only [cmpP]; omega))) | (apply ef_len; exact rfl; exact rfl; (assumption)) | (apply ef_ldp; exact rfl; exact rfl; (exact rfl); exact rfl; (exact rfl); (exact rfl)) | (apply ef_fap; exact rfl; exact rfl) | apply ef_nil | apply seqQ.normal | apply loopQ.exit | apply ef_exit | apply seqQ.exit | apply blockQ.here | apply ef_block | (apply ef_condf; exact rfl; (exact (rfl : false = false))))
    refine ef_loopg (α := Nat) (fun j => j ≤ C.length ∧ firG (colE w) 0 C = firG (colE w) j (C.drop j)) (fun j => [(74, I64 (j : Int))]) [(73, I64 (C.length : Int)), (72, .sl (C.map encP)), (8, .ptr 2 0 0 0)] (fun _ => [⟨0, false, 2, [encS R C]⟩, ⟨0, false, 1, [I64 ck.2, I64 0]⟩, ⟨0, false, 5, [keyA acc]⟩]) (fun j => C.length - j) 0 [74] (fun _ => rfl) (by ((repeat (refine Hold.cons (by exact rfl) ?_)); exact Hold.nil)) (by ((repeat (refine Hold.cons (by exact rfl) ?_)); exact Hold.nil)) rfl rfl rfl ⟨by omega, rfl⟩ (by simp; omega) ?_
    rintro j ⟨hj, hz⟩
    by_cases hlt2 : j < C.length
    ·obtain ⟨c, hc⟩ : ∃ c, C[j]? = some c := ⟨C[j], by simp [hlt2]⟩
     have e1 : (C.map encP)[((j : Nat) : Int).toNat]? = some (encP c) := by rw [Int.toNat_natCast, List.getElem?_map, hc]; rfl
     have HD : C.drop j = c :: C.drop (j + 1) := by
      obtain ⟨q1, q2⟩ := List.getElem?_eq_some_iff.1 hc
      rw [← q2]; exact List.drop_eq_getElem_cons q1
     have HE : colE w j c = if inB (colS w j) c.1 c.2 then 0 else 22 := rfl
     have HZ := Lib.hid (show firG (colE w) 0 C = if colE w j c = 0 then firG (colE w) (j + 1) (C.drop (j + 1)) else (j, colE w j c) by rw [hz, HD, firG])
     have hat' := hat j (by omega)
     generalize colS w j = x at *
     generalize colE w j c = ce at *
     clear hz HD
     cases q1 : inB x c.1 c.2
     ·rw [q1] at HE
      obtain rfl : ce = 22 := HE
      repeat (first | apply ef_seq | (apply ef_mv; exact rfl; exact rfl) | (apply ef_bin; (iterate 3 exact rfl); (exact cmp_t rfl (by first | exact rfl | (simp only [cmpP]; omega)))) | (apply ef_ldr; exact rfl; exact rfl; (exact rd_2 rfl rfl)) | (apply ef_ldp; exact rfl; exact rfl; (exact rfl); exact rfl; (exact rfl); (first | assumption | exact rfl)) | (apply ef_ias; (iterate 3 exact rfl); (omega); assumption; exact rfl) | (apply ef_iaap; (iterate 3 exact rfl); (omega); (omega)) | (apply ef_fap; exact rfl; exact rfl) | (apply ef_notF; exact rfl; exact rfl) | (apply ef_new; exact rfl) | (apply ef_st; (iterate 6 exact rfl); (exact rfl); (exact rfl)) | apply ef_nil | apply seqQ.normal | apply loopQ.ret | apply ef_ret | apply seqQ.ret | apply blockQ.ret | apply ef_block | apply ef_skip | (apply ef_condt; exact rfl; (exact (rfl : true = true))) | (apply ef_call; exact rfl; ((repeat (apply XVs.cons; exact rfl)); exact XVs.nil); (with_reducible exact within_c (k + 5) _ _ _ _ q1)))
      (refine fin2 rfl (by exact rfl) (by exact rfl) ?_)
      rw [HB3.out, HZ.out]; rfl
     ·rw [q1] at HE
      obtain rfl : ce = 0 := HE
      repeat (first | apply ef_seq | (apply ef_mv; exact rfl; exact rfl) | (apply ef_bin; (iterate 3 exact rfl); (first | exact cmp_t rfl (by first | exact rfl | (simp only [cmpP]; omega)) | ((with_reducible refine bin_add (wrap_of ?_ ?_)) <;> omega))) | (apply ef_ldr; exact rfl; exact rfl; (exact rd_2 rfl rfl)) | (apply ef_ldp; exact rfl; exact rfl; (exact rfl); exact rfl; (exact rfl); (first | assumption | exact rfl)) | (apply ef_ias; (iterate 3 exact rfl); (omega); assumption; exact rfl) | (apply ef_iaap; (iterate 3 exact rfl); (omega); (omega)) | (apply ef_fap; exact rfl; exact rfl) | (apply ef_notT; exact rfl; exact rfl) | (apply ef_new; exact rfl) | (apply ef_st; (iterate 6 exact rfl); (exact rfl); (exact rfl)) | apply ef_nil | apply seqQ.normal | apply blockQ.normal | apply ef_block | apply ef_skip | (apply ef_condt; exact rfl; (exact (rfl : true = true))) | (apply ef_condf; exact rfl; (exact (rfl : false = false))) | (apply ef_call; exact rfl; ((repeat (apply XVs.cons; exact rfl)); exact XVs.nil); (with_reducible exact within_c (k + 5) _ _ _ _ q1)))
      refine loopQ.normal _ _ ⟨j + 1, ⟨hlt2, by rw [HZ.out]; rfl⟩, by omega, ⟨by ((repeat (refine Hold.cons (by exact rfl) ?_)); exact Hold.nil), by ((repeat (refine Hold.cons (by exact rfl) ?_)); exact Hold.nil)⟩, .cut (fun t ht => ?_) ?_⟩
      ·simp only [List.mem_cons, List.not_mem_nil, or_false] at ht
       rcases ht with rfl | rfl | rfl | rfl
       ·exact ⟨_, rfl, rfl⟩
       ·exact ⟨_, rfl, rfl⟩
       ·exact ⟨_, rfl, by simp only [MV.lt, encP_lt]⟩
       ·exact ⟨_, rfl, rfl⟩
      ·have h9 := keyA_lt 3 acc
       show (hltL 3 [⟨0, false, 2, [encS R C]⟩, ⟨0, false, 1, [I64 ck.2, I64 0]⟩, ⟨0, false, 5, [keyA acc]⟩]) = true
       simp only [hltL, List.all_cons, List.all_nil, ltL, encS_lt, h9, Bool.and_true, Bool.true_and]
       rfl
    ·obtain rfl : j = C.length := by omega
     rw [List.drop_eq_nil_of_le (Nat.le_refl _)] at hz
     have HB4 := Lib.hid (HB3.out.trans (if_neg (by rw [hz]; simp [firG])))
     have hrd : rdCells (keyA acc).cells 0 (some 5) = some (keyA acc) := by
      obtain ⟨a, b, c, d, e, rfl⟩ := five_of ha5
      rfl
     repeat (first | apply ef_seq | (apply ef_bin; (iterate 3 exact rfl); (exact cmp_f rfl (by simp only [cmpP]; omega))) | (apply ef_ldp; exact rfl; exact rfl; (exact rfl); exact rfl; (exact rfl); (assumption)) | apply ef_nil | apply seqQ.normal | apply loopQ.exit | apply ef_exit | apply seqQ.exit | apply blockQ.here | (apply ef_condf; exact rfl; (exact (rfl : false = false))))
     (apply ef_call; (· exact rfl); (· ((repeat (apply XVs.cons; exact rfl)); exact XVs.nil)); · exact htot _)
     repeat (first | (apply ef_mv; exact rfl; exact rfl) | apply ef_nil | apply seqQ.normal | apply ef_ret)
     (refine fin2 rfl (by exact rfl) (by exact rfl) ?_)
     rw [HB4.out, hvol]
  ·have HB := Lib.hid (HE.out.trans (show chkB R C b = (0, 10) from if_pos h1))
   repeat (first | apply ef_seq | (apply ef_mv; exact rfl; exact rfl) | (apply ef_bin; (iterate 3 exact rfl); (first | exact cmp_t rfl (by first | exact rfl | (simp only [cmpP]; omega)) | exact cmp_f rfl (by simp only [cmpP]; omega))) | (apply ef_len; exact rfl; exact rfl; (assumption)) | (apply ef_ldp; exact rfl; exact rfl; (exact rfl); exact rfl; (exact rfl); (first | exact rd_2 rfl rfl | exact rfl)) | (apply ef_fap; exact rfl; exact rfl) | (apply ef_ext; (iterate 3 exact rfl)) | (apply ef_box; (iterate 4 exact rfl)) | (apply ef_bsl; exact rfl; (repeat (apply XVs.cons; exact rfl)); exact XVs.nil; exact rfl) | apply ef_nil | apply seqQ.normal | apply ef_ret | apply seqQ.ret | (apply ef_condt; exact rfl; (exact (rfl : true = true))) | (apply ef_call; exact rfl; ((repeat (apply XVs.cons; exact rfl)); exact XVs.nil); (with_reducible first | exact hck _ | exact hu2 _)) | (apply ef_call; exact rfl; ((repeat (apply XVs.cons; exact rfl)); exact XVs.nil); (with_reducible apply first2_c); (iterate 3 exact rfl); (assumption)))
   (refine fin2 rfl (by exact rfl) (by exact rfl) ?_)
   rw [HB.out]
 ·have HE := Lib.hid (show chkBE R C b = (0, (chkS R C).2) from if_pos h0)
  generalize chkS R C = ck at *
  have hf : ∀ e, firstE [ck.2, e] = ck.2 := fun e => by simp [firstE, h0]
  have hf0 := hf (unl true 10)
  have hf1 := hf (unl false 10)
  by_cases h1 : b.length = R.length
  ·repeat (first | apply ef_seq | (apply ef_mv; exact rfl; exact rfl) | (apply ef_bin; (iterate 3 exact rfl); (exact cmp_t rfl (by first | exact rfl | (simp only [cmpP]; omega)))) | (apply ef_len; exact rfl; exact rfl; (assumption)) | (apply ef_ldp; exact rfl; exact rfl; (exact rfl); exact rfl; (exact rfl); (first | exact rd_2 rfl rfl | exact rfl)) | (apply ef_fap; exact rfl; exact rfl) | (apply ef_ext; (iterate 3 exact rfl)) | (apply ef_box; (iterate 4 exact rfl)) | (apply ef_bsl; exact rfl; (repeat (apply XVs.cons; exact rfl)); exact XVs.nil; exact rfl) | apply ef_nil | apply seqQ.normal | apply ef_ret | apply seqQ.ret | (apply ef_condt; exact rfl; (exact (rfl : true = true))) | (apply ef_call; exact rfl; ((repeat (apply XVs.cons; exact rfl)); exact XVs.nil); (with_reducible first | exact hck _ | exact hu _ _ _)) | (apply ef_call; exact rfl; ((repeat (apply XVs.cons; exact rfl)); exact XVs.nil); (with_reducible apply first2_c); (iterate 3 exact rfl); (assumption)))
   (refine fin2 rfl (by exact rfl) (by exact rfl) ?_)
   rw [HE.out]
  ·repeat (first | apply ef_seq | (apply ef_mv; exact rfl; exact rfl) | (apply ef_bin; (iterate 3 exact rfl); (first | exact cmp_t rfl (by first | exact rfl | (simp only [cmpP]; omega)) | exact cmp_f rfl (by simp only [cmpP]; omega))) | (apply ef_len; exact rfl; exact rfl; (assumption)) | (apply ef_ldp; exact rfl; exact rfl; (exact rfl); exact rfl; (exact rfl); (first | exact rd_2 rfl rfl | exact rfl)) | (apply ef_fap; exact rfl; exact rfl) | (apply ef_ext; (iterate 3 exact rfl)) | (apply ef_box; (iterate 4 exact rfl)) | (apply ef_bsl; exact rfl; (repeat (apply XVs.cons; exact rfl)); exact XVs.nil; exact rfl) | apply ef_nil | apply seqQ.normal | apply ef_ret | apply seqQ.ret | (apply ef_condt; exact rfl; (exact (rfl : true = true))) | (apply ef_call; exact rfl; ((repeat (apply XVs.cons; exact rfl)); exact XVs.nil); (with_reducible first | exact hck _ | exact hu _ _ _)) | (apply ef_call; exact rfl; ((repeat (apply XVs.cons; exact rfl)); exact XVs.nil); (with_reducible apply first2_c); (iterate 3 exact rfl); (assumption)))
   (refine fin2 rfl (by exact rfl) (by exact rfl) ?_)
   rw [HE.out]
theorem ChkB_c (k : Nat) (R C : List (Int × Int)) (b : List Int) (hR : R.length ≤ 100) (hC : C.length ≤ 100) (hb : b.length ≤ 1000) (h : MHeap) {v w : MV} (hv : frz 0 [] h 8 v = some (encS R C)) (hw : frz 0 [] h 8 w = some (.sl (b.map I64))) : orA (k + 7) 60 [v, w] h = some (outI (chkBE R C b), h) := callTT (args' := [encS R C, .sl (b.map I64)]) (by simp [List.mapM_cons, hv, hw]) rfl (ChkB_z k R C b hR hC hb)
theorem firG_okG {α : Type} {G : Nat → α → Int} {l : List α} (h : (firG G 0 l).2 = 0) {i : Nat} {x : α} (hx : l[i]? = some x) : G i x = 0 := by
 obtain ⟨q1, q2⟩ := List.getElem?_eq_some_iff.1 hx
 have := firG_ok h i q1
 rw [Nat.zero_add, q2] at this
 exact this
theorem firG_zeroG {α : Type} {G : Nat → α → Int} : ∀ {l : List α} {i : Nat}, (∀ (j : Nat) x, l[j]? = some x → G (i + j) x = 0) → firG G i l = (0, 0)
 | [], _, _ => rfl
 | c :: l, i, h => by
  rw [firG, if_pos (by have := h 0 c rfl; simpa using this)]
  exact firG_zeroG fun j x hx => by have := h (j + 1) x (by simpa using hx); rwa [show i + (j + 1) = i + 1 + j by omega] at this
theorem chkB_ok {R C : List (Int × Int)} (hv : ValS R C) {b : List Int} (h : (chkB R C b).2 = 0) : ∃ w : List Nat, b = w.map (fun s : Nat => (s : Int)) ∧ IsBody R C w ∧ chkB R C b = (volS w, 0) := by
 have hb := h
 unfold chkB at h
 split at h
 ·cases h
 rename_i h1
 split at h
 ·rename_i h2; exact absurd h h2
 rename_i h2
 split at h
 ·rename_i h3; exact absurd h h3
 rename_i h3
 have h2 : (firG (fun i => rowE C.length (R.getD i (0, 0))) 0 b).2 = 0 := by omega
 have h3 : (firG (colE (b.map Int.toNat)) 0 C).2 = 0 := by omega
 have h1 : b.length = R.length := by omega
 have hr : ∀ (i : Nat) x, b[i]? = some x → inB x 0 ((2 ^ C.length : Nat) - 1 : Int) = true ∧ inB (pc x.toNat) (R.getD i (0, 0)).1 (R.getD i (0, 0)).2 = true := fun i x hx => by
  have := firG_okG h2 hx
  unfold rowE at this
  split at this
  ·rename_i q1
   split at this
   ·rename_i q2; exact ⟨q1, q2⟩
   ·omega
  ·omega
 have hbw : b = (b.map Int.toNat).map (fun s : Nat => (s : Int)) := by
  rw [List.map_map]
  conv => lhs; rw [← List.map_id b]
  refine List.map_congr_left fun x hx => ?_
  obtain ⟨i, hi⟩ := List.getElem?_of_mem hx
  have := inB_iff.1 (hr i x hi).1
  simp only [id, Function.comp]
  omega
 refine ⟨b.map Int.toNat, hbw, (isBody_iff hv.c5).2 ⟨by rw [List.length_map, h1], fun i s r hs hrr => ?_, fun k c hc => ?_⟩, ?_⟩
 ·rw [List.getElem?_map, Option.map_eq_some_iff] at hs
  obtain ⟨x, hx, rfl⟩ := hs
  obtain ⟨q1, q2⟩ := hr i x hx
  rw [getD_some hrr] at q2
  have := inB_iff.1 q1
  have := inB_iff.1 q2
  omega
 ·have := firG_okG h3 hc
  unfold colE at this
  split at this
  ·rename_i q; exact inB_iff.1 q
  ·omega
 ·unfold chkB
  rw [if_neg (by simp [h1]), if_neg (fun h => h h2), if_neg (fun h => h h3)]
theorem body_chk {R C : List (Int × Int)} (hv : ValS R C) {w : List Nat} (h : IsBody R C w) : chkB R C (w.map fun s : Nat => (s : Int)) = (volS w, 0) := by
 obtain ⟨h1, h2, h3⟩ := (isBody_iff hv.c5).1 h
 have hw : (w.map fun s : Nat => (s : Int)).map Int.toNat = w := by
  rw [List.map_map]
  conv => rhs; rw [← List.map_id w]
  exact List.map_congr_left fun x _ => by simp
 have e2 : firG (fun i => rowE C.length (R.getD i (0, 0))) 0 (w.map fun s : Nat => (s : Int)) = (0, 0) := firG_zeroG fun i x hx => by
  rw [List.getElem?_map, Option.map_eq_some_iff] at hx
  obtain ⟨s, hs, rfl⟩ := hx
  have hi : i < R.length := by rw [← h1]; exact (List.getElem?_eq_some_iff.1 hs).1
  have hr : R[i]? = some R[i] := by simp [hi]
  obtain ⟨q1, q2, q3⟩ := h2 i s R[i] hs hr
  rw [Nat.zero_add, getD_some hr]
  unfold rowE
  rw [if_pos (inB_iff.2 (by omega)), Int.toNat_natCast, if_pos (inB_iff.2 (by omega))]
 have e3 : firG (colE w) 0 C = (0, 0) := firG_zeroG fun i c hc => by
  rw [Nat.zero_add]
  exact if_pos (inB_iff.2 (h3 i c hc))
 unfold chkB
 rw [hw, e2, e3, if_neg (by simp [h1]), if_neg (by simp), if_neg (by simp)]
end Go.Proofs.YtnmgpbihknjdjaaGreatDoor

/- Chapter 9: copies of shadows, remainders. -/
namespace Go.Proofs.YtnmgpbihknjdjaaGreatDoor
open Go.RowKit
set_option linter.unusedVariables false
theorem encP_sOk (xs : List (Int × Int)) : (xs.map encP).all (MV.sOk 2) = true := by
 rw [List.all_eq_true]
 intro m hm
 obtain ⟨⟨a, b⟩, _, rfl⟩ := List.mem_map.1 hm
 rfl
theorem mf_bCopyRanges : MT.mf 142 = some ⟨6, [(.tmp 2)], (.seq (.reg [gO 2 (.nil0 2)]) (.seq (.reg [gO 3 (.bsl (.agg [(.lit (.int .i64 0)), (.lit (.int .i64 0))]) 2 0 []), gO 4 (.mv (.s 0)), gO 5 (.app 2 (.s 3) (.s 4)), gO 2 (.mv (.s 5))]) .ret))⟩ := by kernel_rfl
theorem bCopyRanges_z (k : Nat) (xs : List (Int × Int)) (hx : xs.length ≤ 1000000) : runZ MT (orA k) (itA k) 4000000 142 [.sl (xs.map encP)] [] = some (.arr 0 0 xs.length 0, [⟨0, false, 2, xs.map encP⟩]) := by
 refine runZ_of mf_bCopyRanges (by simp) ?_
 simp only [argsL]
 cases xs with
 | nil =>
  repeat (first | apply ef_seq | (apply ef_mv; exact rfl; exact rfl) | (apply ef_nil0; exact rfl) | (apply ef_bsl; exact rfl; (repeat (apply XVs.cons; exact rfl)); exact XVs.nil; exact rfl) | apply ef_nil | apply seqQ.normal)
  (apply ef_app0; (· exact rfl); (· exact rfl); (· exact rfl); (· exact rfl); (· exact rfl); (· exact rfl); (· exact rfl); (· exact rfl))
  repeat (first | (apply ef_mv; exact rfl; exact rfl) | apply ef_nil | apply seqQ.normal | apply ef_ret)
  (apply fin_arr; (· exact rfl); (· exact rfl); (· exact rfl); (· exact rfl); (· simp); (· exact rfl); (· exact rfl); (· exact rfl); (· exact rfl); (· exact rfl))
 | cons x xs =>
  have hs := encP_sOk (x :: xs)
  repeat (first | apply ef_seq | (apply ef_mv; exact rfl; exact rfl) | (apply ef_nil0; exact rfl) | (apply ef_bsl; exact rfl; (repeat (apply XVs.cons; exact rfl)); exact XVs.nil; exact rfl) | apply ef_nil | apply seqQ.normal)
  (apply ef_app; (· exact rfl); (· exact rfl); (· exact rfl); (· exact rfl); (· exact rfl); (· exact rfl); (· exact rfl); (· exact rfl); (· (simp at hx ⊢; omega)); (· exact hs); (· exact rfl))
  repeat (first | (apply ef_mv; exact rfl; exact rfl) | apply ef_nil | apply seqQ.normal | apply ef_ret)
  (apply fin_arr; (· exact rfl); (· exact rfl); (· exact rfl); (· exact rfl); (· simp); (· (exact encP_lt 0 (x :: xs))); (· (simp; rw [List.take_of_length_le (by simp)])); (· exact rfl); (· exact rfl); (· (simp)))
theorem encP_pure (xs : List (Int × Int)) : pureL (xs.map encP) = true := by
 induction xs with
 | nil => rfl
 | cons x xs ih => show (true && pureL (xs.map encP)) = true; rw [ih]; rfl
theorem bCopyRanges_c (k : Nat) (xs : List (Int × Int)) (h : MHeap) {v : MV} (hx : xs.length ≤ 1000000) (hv : frz 0 [] h 8 v = some (.sl (xs.map encP))) : orA (k + 1) 142 [v] h = some (.arr h.length 0 xs.length 0, h ++ [⟨0, false, 2, xs.map encP⟩]) := by
 have := callA (k := k) (args := [v]) (args' := [.sl (xs.map encP)]) (h := h) (by simp [List.mapM_cons, hv]) rfl (bCopyRanges_z k xs hx) rfl (by simp [okH, encP_lt, encP_pure])
 simpa [shV, sh1] using this
theorem mf_bMod : MT.mf 93 = some ⟨14, [(.tmp 4)], (.seq (.reg [gO 4 (.mv (cI 0))]) (.seq (.reg [gO 5 (.mv (.s 0)), gO 6 (.mv (.s 1)), gO 7 (.bin .rem (.s 5) (.s 6)), gO 0 (.mv (.s 7))]) (.seq (.seq (.reg [gO 8 (.mv (.s 0)), gO 9 (.bin .lss (.s 8) (cI 0))]) (.cond (.s 9) (.reg [gO 10 (.mv (.s 0)), gO 11 (.mv (.s 1)), gO 12 (.bin .add (.s 10) (.s 11)), gO 0 (.mv (.s 12))]) .skip)) (.seq (.reg [gO 13 (.mv (.s 0)), gO 4 (.mv (.s 13))]) .ret))))⟩ := by kernel_rfl
theorem bMod_c (k : Nat) (a b : Int) (h : MHeap) (h0 : 0 < b) (h1 : b ≤ 1000) : orA (k + 1) 93 [I64 a, I64 b] h = some (I64 (a % b), h) := by
 refine callL (frz_lits [.int .i64 a, .int .i64 b]) rfl (runZ_of mf_bMod (by simp) ?_)
 simp only [argsL, List.map_cons, List.map_nil]
 have e1 := Int.emod_nonneg a (show b ≠ 0 by omega)
 have e2 := Int.emod_lt_of_pos a h0
 have hr : binI .rem .i64 a b = some (.int .i64 (a.tmod b)) := by
  simp only [binI]
  rw [if_neg (by omega)]
 have e3 : a.tmod b = a % b ∨ a.tmod b = a % b - b := by
  have := Int.tmod_eq_emod (a := a) (b := b)
  split at this
  ·left; omega
  ·right; omega
 generalize a.tmod b = v at hr e3
 by_cases hneg : v < 0
 ·repeat (first | apply ef_seq | (apply ef_mv; exact rfl; exact rfl) | (apply ef_bin; (iterate 3 exact rfl); (first | assumption | exact cmp_t rfl (by first | exact rfl | (simp only [cmpP]; omega)) | ((with_reducible refine bin_add (wrap_of ?_ ?_)) <;> omega))) | apply ef_nil | apply seqQ.normal | apply ef_ret | (apply ef_condt; exact rfl; (exact (rfl : true = true))))
  (refine fin1 rfl (by exact rfl) rfl ?_)
  rw [show v + b = a % b by omega]
 ·repeat (first | apply ef_seq | (apply ef_mv; exact rfl; exact rfl) | (apply ef_bin; (iterate 3 exact rfl); (first | assumption | exact cmp_f rfl (by simp only [cmpP]; omega))) | apply ef_nil | apply seqQ.normal | apply ef_ret | apply ef_skip | (apply ef_condf; exact rfl; (exact (rfl : false = false))))
  (refine fin1 rfl (by exact rfl) rfl ?_)
  rw [show v = a % b by omega]
theorem finR1f {x : MX2} {A : Sl} {h : MHeap} {r1 : MRes} {cs : List MV} {v' : MV} (hx : outX x = true) (h1 : ResV A h r1 (.agg cs)) (hf : frz 0 [] h 8 (.agg cs) = some v') : FinF [r1] v' [] x A h := by
 have hi : impIds 0 [.agg cs] = [] := rfl
 refine ⟨hx, [.agg cs], [v'], ⟨.agg cs, [], rfl, h1, rfl⟩, by rw [hi]; simp, ?_, rfl⟩
 rw [hi]
 simp [expL, hf]
theorem mf_CopyS : MT.mf 59 = some ⟨10, [(.cell 2 (some 2))], (.seq (.reg [gO 1 (.box 2 (.s 0)), gO 2 (.new (.agg [(.lit (.slice none 0 0)), (.lit (.slice none 0 0))]))]) (.seq (.reg [gO 3 (.fa 0 (.s 1)), gO 4 (.ld none (.s 3)), gO 5 (.call 142 [.s 4]), gO 6 (.fa 1 (.s 1)), gO 7 (.ld none (.s 6)), gO 8 (.call 142 [.s 7]), gO 9 (.build [(.lit (.slice none 0 0)), (.lit (.slice none 0 0))] [(0, (1, (.s 5))), (1, (1, (.s 8)))]), ⟨none, none, .st 2 (.s 2) (.s 9)⟩]) .ret))⟩ := by kernel_rfl
theorem CopyS_z (k : Nat) (R C : List (Int × Int)) (hR : R.length ≤ 1000000) (hC : C.length ≤ 1000000) : runZ MT (orA (k + 1)) (itA (k + 1)) 4000000 59 [encS R C] [] = some (encS R C, []) := by
 refine runZ_of mf_CopyS (by simp) ?_
 simp only [argsL]
 have h1 := fun h => bCopyRanges_c k R h (v := .sl (R.map encP)) hR (frz_sl (encP_lt 0 R))
 have h2 := fun h => bCopyRanges_c k C h (v := .sl (C.map encP)) hC (frz_sl (encP_lt 0 C))
 have z1 := encP_lt 0 R
 have z2 := encP_lt 0 C
 have k1 : (R.map encP).take R.length = R.map encP := by rw [List.take_of_length_le (by simp)]
 have k2 : (C.map encP).take C.length = C.map encP := by rw [List.take_of_length_le (by simp)]
 repeat (first | apply ef_seq | (apply ef_ldp; exact rfl; exact rfl; (exact rfl); exact rfl; (exact rfl); (exact rfl)) | (apply ef_fap; exact rfl; exact rfl) | (apply ef_box; (iterate 4 exact rfl)) | (apply ef_new; exact rfl) | apply ef_nil | apply seqQ.normal)
 (apply ef_call; (· exact rfl); (· ((repeat (apply XVs.cons; exact rfl)); exact XVs.nil)); · exact h1 _)
 repeat (first | (apply ef_ldp; exact rfl; exact rfl; (exact rfl); exact rfl; (exact rfl); (exact rfl)) | (apply ef_fap; exact rfl; exact rfl))
 (apply ef_call; (· exact rfl); (· ((repeat (apply XVs.cons; exact rfl)); exact XVs.nil)); · exact h2 _)
 repeat (first | (apply ef_build; exact rfl; (repeat (apply XVs.cons; exact rfl)); exact XVs.nil; exact rfl; exact rfl) | (apply ef_st; (iterate 6 exact rfl); (exact rfl); exact rfl) | apply ef_nil | apply seqQ.normal | apply ef_ret)
 refine finR1f (cs := [.arr 2 0 R.length 0, .arr 3 0 C.length 0]) rfl ?_ ?_
 ·apply resC <;> exact rfl
 ·simp [frz, MV.lt, ltL, z1, z2, k1, k2]
theorem CopyS_c (k : Nat) (R C : List (Int × Int)) (hR : R.length ≤ 1000000) (hC : C.length ≤ 1000000) (h : MHeap) : orA (k + 2) 59 [encS R C] h = some (encS R C, h) := by
 have := callA (k := k + 1) (h := h) (args := [encS R C]) (args' := [encS R C]) (frzL_lt (ltS0 R C)) rfl (CopyS_z k R C hR hC) (by rw [ltS0]; show (MV.lt 0 (encS R C) && true) = true; rw [encS_lt]; rfl) rfl
 rw [List.append_nil] at this
 exact this
theorem I64_sOk (w : List Int) : (w.map I64).all (MV.sOk 1) = true := by
 rw [List.all_eq_true]
 intro m hm
 obtain ⟨e, _, rfl⟩ := List.mem_map.1 hm
 rfl
theorem I64_pure : ∀ w : List Int, pureL (w.map I64) = true
 | [] => rfl
 | s :: w => by
  show (true && pureL (w.map I64)) = true
  rw [I64_pure w]; rfl
theorem mf_bCopyInts : MT.mf 61 = some ⟨6, [(.tmp 2)], (.seq (.reg [gO 2 (.nil0 1)]) (.seq (.reg [gO 3 (.bsl (.lit (.int .i64 0)) 1 0 []), gO 4 (.mv (.s 0)), gO 5 (.app 1 (.s 3) (.s 4)), gO 2 (.mv (.s 5))]) .ret))⟩ := by kernel_rfl
theorem bCopyInts_z (k : Nat) (xs : List Int) (hx : xs.length ≤ 1000000) : runZ MT (orA k) (itA k) 4000000 61 [.sl (xs.map I64)] [] = some (.arr 0 0 xs.length 0, [⟨0, false, 1, xs.map I64⟩]) := by
 refine runZ_of mf_bCopyInts (by simp) ?_
 simp only [argsL]
 cases xs with
 | nil =>
  repeat (first | apply ef_seq | (apply ef_mv; exact rfl; exact rfl) | (apply ef_nil0; exact rfl) | (apply ef_bsl; exact rfl; (repeat (apply XVs.cons; exact rfl)); exact XVs.nil; exact rfl) | apply ef_nil | apply seqQ.normal)
  (apply ef_app0; (· exact rfl); (· exact rfl); (· exact rfl); (· exact rfl); (· exact rfl); (· exact rfl); (· exact rfl); (· exact rfl))
  repeat (first | (apply ef_mv; exact rfl; exact rfl) | apply ef_nil | apply seqQ.normal | apply ef_ret)
  (apply fin_arr; (· exact rfl); (· exact rfl); (· exact rfl); (· exact rfl); (· simp); (· exact rfl); (· exact rfl); (· exact rfl); (· exact rfl); (· exact rfl))
 | cons x xs =>
  have hs := I64_sOk (x :: xs)
  repeat (first | apply ef_seq | (apply ef_mv; exact rfl; exact rfl) | (apply ef_nil0; exact rfl) | (apply ef_bsl; exact rfl; (repeat (apply XVs.cons; exact rfl)); exact XVs.nil; exact rfl) | apply ef_nil | apply seqQ.normal)
  (apply ef_app; (· exact rfl); (· exact rfl); (· exact rfl); (· exact rfl); (· exact rfl); (· exact rfl); (· exact rfl); (· exact rfl); (· (simp at hx ⊢; omega)); (· exact hs); (· exact rfl))
  repeat (first | (apply ef_mv; exact rfl; exact rfl) | apply ef_nil | apply seqQ.normal | apply ef_ret)
  (apply fin_arr; (· exact rfl); (· exact rfl); (· exact rfl); (· exact rfl); (· simp); (· (exact I64_lt 0 (x :: xs))); (· (simp; rw [List.take_of_length_le (by simp)])); (· exact rfl); (· exact rfl); (· (simp)))
theorem bCopyInts_c (k : Nat) (xs : List Int) (h : MHeap) {v : MV} (hx : xs.length ≤ 1000000) (hv : frz 0 [] h 8 v = some (.sl (xs.map I64))) : orA (k + 1) 61 [v] h = some (.arr h.length 0 xs.length 0, h ++ [⟨0, false, 1, xs.map I64⟩]) := by
 have := callA (k := k) (args := [v]) (args' := [.sl (xs.map I64)]) (h := h) (by simp [List.mapM_cons, hv]) rfl (bCopyInts_z k xs hx) rfl (by simp [okH, I64_lt, I64_pure])
 simpa [shV, sh1] using this
theorem look_in {t : Nat} {v : MV} : ∀ {A : Sl}, look A t = some v → (t, v) ∈ A
 | [], h => by cases h
 | (u, x) :: A, h => by
  rw [look_cons] at h
  split at h
  ·rename_i e
   cases h
   subst e
   exact List.mem_cons_self
  ·exact List.mem_cons_of_mem _ (look_in h)
theorem ef_weak {O : Oracle} {I : Iter} {N n : Nat} {lk : Nat → Bool} {b : MC} {A A' : Sl} {h : MHeap} {Q : MX2 → Sl → MHeap → Prop} (hA : Hold A A') (hE : Ef O I N n lk b A' h Q) : Ef O I N n lk b A h Q :=
 .mk fun s hs => hE.run s ⟨hs.len, fun t v ht => hs.get t v (hA (t, v) (look_in ht))⟩
def MC.rest : Nat → MC → MC
 | 0, c => c
 | n + 1, .seq _ b => MC.rest n b
 | _ + 1, c => c
def MC.cut : Nat → MC → MC → MC
 | 0, _, r => r
 | n + 1, .seq a b, r => .seq a (MC.cut n b r)
 | _ + 1, _, r => r
theorem cut_rest : ∀ (n : Nat) (c : MC), MC.cut n c (MC.rest n c) = c
 | 0, c => rfl
 | n + 1, c => by
  cases c <;> first | rfl | exact congrArg _ (cut_rest n _)
end Go.Proofs.YtnmgpbihknjdjaaGreatDoor

/- The examples: closed calls. -/
namespace Go.Proofs.YtnmgpbihknjdjaaGreatDoor
open Go.RowKit
theorem items_z (k : Nat) : runZ MT (orA k) (itA k) 4000000 94 [] [] = some (.arr 0 0 3 0, [⟨0, false, 3, itemE⟩]) := by kernel_rfl
theorem hole_z (k : Nat) : runZ MT (orA k) (itA k) 4000000 95 [] [] = some (holeX, []) := by kernel_rfl
theorem cal_z (k : Nat) : runZ MT (orA k) (itA k) 4000000 98 [] [] = some (.arr 0 0 3 0, [⟨0, false, 3, calE⟩]) := by kernel_rfl
theorem best_f : runFf (orL tA mfW 4000000 12) noI 4000000 mfW_l20 [itemX, I64 8] [] = some (.tup [.arr 0 0 2 0, I64 16, I64 0], [⟨0, false, 1, [I64 0, I64 2]⟩]) := by kernel_rfl
theorem cuts_f : runFf (orL tA mfW 4000000 12) noI 4000000 mfW_l26 [holeX, layX] [] = some (.tup [.agg [I64 80, I64 1, I64 400, I64 3], I64 0], []) := by kernel_rfl
theorem price_f : runFf (orL tA mfW 4000000 12) noI 4000000 mfW_l35 [itemX, I64 8] [] = some (.tup [.agg [I64 7, I64 4], I64 0], []) := by kernel_rfl
theorem early_f : runFf (orL tA mfW 4000000 12) noI 4000000 mfW_l49 [calX, I64 355, I64 10] [] = some (.tup [I64 376, I64 0], []) := by kernel_rfl
end Go.Proofs.YtnmgpbihknjdjaaGreatDoor

/- The examples that every law begins with. -/
namespace Go.Proofs.YtnmgpbihknjdjaaGreatDoor
open Go.RowKit
set_option linter.unusedVariables false
theorem items_c (k : Nat) (h : MHeap) : orA (k + 1) 94 [] h = some (.arr h.length 0 3 0, h ++ [⟨0, false, 3, itemE⟩]) := by
 have := callA (k := k) (h := h) (args := []) (args' := []) rfl rfl (items_z k) rfl rfl
 simpa [shV, sh1] using this
theorem cal_c (k : Nat) (h : MHeap) : orA (k + 1) 98 [] h = some (.arr h.length 0 3 0, h ++ [⟨0, false, 3, calE⟩]) := by
 have := callA (k := k) (h := h) (args := []) (args' := []) rfl rfl (cal_z k) rfl rfl
 simpa [shV, sh1] using this
theorem hole_c (k : Nat) (h : MHeap) : orA (k + 1) 95 [] h = some (holeX, h) := by
 have := callA (k := k) (h := h) (args := []) (args' := []) rfl rfl (hole_z k) rfl rfl
 simpa [shV, sh1] using this
theorem layer_c (k : Nat) (h : MHeap) : orA (k + 6) 96 [] h = some (layX, h) := by
 have := callA (k := k + 5) (h := h) (args := []) (args' := []) rfl rfl (layer_x k) rfl rfl
 simpa [shV, sh1] using this
theorem shadow_c (k : Nat) (h : MHeap) : orA (k + 1) 97 [] h = some (encS shR shC, h) := by
 have := callA (k := k) (h := h) (args := []) (args' := []) rfl rfl (shadow_x k) rfl rfl
 rw [List.append_nil] at this
 exact this
theorem whole_z (k : Nat) : runZ MT (orA (k + 3)) (itA (k + 3)) 4000000 44 [I64 80] [] = some (.agg [I64 80, I64 1], []) := by kernel_rfl
theorem low_z (k : Nat) : runZ MT (orA (k + 3)) (itA (k + 3)) 4000000 87 [I64 400, I64 3] [] = some (.agg [I64 400, I64 3], []) := by kernel_rfl
theorem whole_c (k : Nat) (h : MHeap) : orA (k + 4) 44 [I64 80] h = some (.agg [I64 80, I64 1], h) := by
 have := callA (k := k + 3) (h := h) (args := [I64 80]) (args' := [I64 80]) rfl rfl (whole_z k) rfl rfl
 simpa [shV, sh1] using this
theorem low_c (k : Nat) (h : MHeap) : orA (k + 4) 87 [I64 400, I64 3] h = some (.agg [I64 400, I64 3], h) := by
 have := callA (k := k + 3) (h := h) (args := [I64 400, I64 3]) (args' := [I64 400, I64 3]) rfl rfl (low_z k) rfl rfl
 simpa [shV, sh1] using this
theorem bestX_c (h : MHeap) {v : MV} (hv : frz 0 [] h 8 v = some itemX) : orA 13 20 [v, I64 8] h = some (.tup [.arr h.length 0 2 0, I64 16, I64 0], h ++ [⟨0, false, 1, [I64 0, I64 2]⟩]) := by
 have hf : [v, I64 8].mapM (frz 0 [] h 8) = some [itemX, I64 8] := by simp [List.mapM_cons, hv, frz_lt (m := I64 8) rfl]
 have := callA (k := 12) (h := h) hf rfl (runL_ok mfW_ok (f := 20) (m := mfW_l20) (by kernel_rfl) best_f _) (by simp [okV, ok1, MV.lt, MV.pure]) (by simp [okH, ltL, MV.lt, pureL, MV.pure])
 simpa [shV, sh1] using this
theorem priceX_c (h : MHeap) {v : MV} (hv : frz 0 [] h 8 v = some itemX) : orA 13 35 [v, I64 8] h = some (.tup [.agg [I64 7, I64 4], I64 0], h) := by
 have hf : [v, I64 8].mapM (frz 0 [] h 8) = some [itemX, I64 8] := by simp [List.mapM_cons, hv, frz_lt (m := I64 8) rfl]
 have := callA (k := 12) (h := h) hf rfl (runL_ok mfW_ok (f := 35) (m := mfW_l35) (by kernel_rfl) price_f _) (by simp [okV, ok1, MV.lt, ltL, MV.pure, pureL]) rfl
 simpa [shV, sh1] using this
theorem earlyX_c (h : MHeap) {v : MV} (hv : frz 0 [] h 8 v = some calX) : orA 13 49 [v, I64 355, I64 10] h = some (.tup [I64 376, I64 0], h) := by
 have hf : [v, I64 355, I64 10].mapM (frz 0 [] h 8) = some [calX, I64 355, I64 10] := by simp [List.mapM_cons, hv, frz_lt (m := I64 355) rfl, frz_lt (m := I64 10) rfl]
 have := callA (k := 12) (h := h) hf rfl (runL_ok mfW_ok (f := 49) (m := mfW_l49) (by kernel_rfl) early_f _) (by simp [okV, ok1, MV.lt, MV.pure]) rfl
 simpa [shV, sh1] using this
theorem cutsX_c (h : MHeap) : orA 13 26 [holeX, layX] h = some (.tup [.agg [I64 80, I64 1, I64 400, I64 3], I64 0], h) := by
 have := callA (k := 12) (h := h) (args := [holeX, layX]) (args' := [holeX, layX]) rfl rfl (runL_ok mfW_ok (f := 26) (m := mfW_l26) (by kernel_rfl) cuts_f _) rfl rfl
 simpa [shV, sh1] using this
theorem bodyX_c (h : MHeap) : orA 13 62 [encS shR shC] h = some (.tup [.arr h.length 0 2 0, I64 0], h ++ [⟨0, false, 1, [I64 1, I64 3]⟩]) := by
 have hp : ∀ i, i < shR.length → (pickB shR shC (bodyB shR shC i) i).isSome = true
  | 0, _ => by kernel_rfl
  | 1, _ => by kernel_rfl
  | i + 2, h => absurd h (by simp)
 have hb : natL (bodyB shR shC shR.length) = [I64 1, I64 3] := by kernel_rfl
 have hz := body_z 5 shR shC (by decide) (by decide) (open_xc 5) hp (by decide)
 rw [hb] at hz
 have := callA (k := 12) (h := h) (args := [encS shR shC]) (args' := [encS shR shC]) rfl rfl hz rfl rfl
 simpa [shV, sh1] using this
theorem mf_awake : MT.mf 15 = some ⟨87, [(.tmp 0)], (.seq (.reg [gO 0 (.mv cF)]) (.seq (.reg [gO 13 (.call 94 []), gO 14 (.call 20 [.s 13, (cI 8)]), gO 12 (.mv (.s 14)), gO 15 (.ext (.s 12) 0), gO 16 (.ext (.s 12) 1), gO 17 (.ext (.s 12) 2), gO 1 (.mv (.s 15)), gO 2 (.mv (.s 16)), gO 3 (.mv (.s 17))]) (.seq (.reg [gO 19 (.call 95 []), gO 20 (.call 96 []), gO 21 (.call 26 [.s 19, .s 20]), gO 18 (.mv (.s 21)), gO 22 (.ext (.s 18) 0), gO 23 (.ext (.s 18) 1), gO 4 (.new (.agg [(.lit (.int .i64 0)), (.lit (.int .i64 0)), (.lit (.int .i64 0)), (.lit (.int .i64 0))])), ⟨none, none, .st 4 (.s 4) (.s 22)⟩, gO 5 (.mv (.s 23))]) (.seq (.reg [gO 25 (.call 97 []), gO 26 (.call 62 [.s 25]), gO 24 (.mv (.s 26)), gO 27 (.ext (.s 24) 0), gO 28 (.ext (.s 24) 1), gO 6 (.mv (.s 27)), gO 7 (.mv (.s 28))]) (.seq (.reg [gO 30 (.call 94 []), gO 31 (.call 35 [.s 30, (cI 8)]), gO 29 (.mv (.s 31)), gO 32 (.ext (.s 29) 0), gO 33 (.ext (.s 29) 1), gO 8 (.new (.agg [(.lit (.int .i64 0)), (.lit (.int .i64 0))])), ⟨none, none, .st 2 (.s 8) (.s 32)⟩, gO 9 (.mv (.s 33))]) (.seq (.reg [gO 35 (.call 98 []), gO 36 (.call 49 [.s 35, (cI 355), (cI 10)]), gO 34 (.mv (.s 36)), gO 37 (.ext (.s 34) 0), gO 38 (.ext (.s 34) 1), gO 10 (.mv (.s 37)), gO 11 (.mv (.s 38))]) (.seq (.reg [gO 39 (.mv (.s 3)), gO 40 (.bin .eql (.s 39) (cI 0)), gO 41 (.mv (.s 40)), ⟨some (41, true), some 42, .mv (.s 2)⟩, ⟨some (41, true), some 43, .bin .eql (.s 42) (cI 16)⟩, gO 44 (.pick (.s 41) (.s 43) cF), gO 45 (.mv (.s 44)), ⟨some (45, true), some 46, .mv (.s 1)⟩, ⟨some (45, true), some 47, .bsl (.lit (.int .i64 0)) 1 2 [(0, (cI 0)), (1, (cI 2))]⟩, ⟨some (45, true), some 48, .call 24 [.s 46, .s 47]⟩, gO 49 (.pick (.s 45) (.s 48) cF), gO 50 (.mv (.s 49)), ⟨some (50, true), some 51, .mv (.s 5)⟩, ⟨some (50, true), some 52, .bin .eql (.s 51) (cI 0)⟩, gO 53 (.pick (.s 50) (.s 52) cF), gO 54 (.mv (.s 53)), ⟨some (54, true), some 55, .ld (some 4) (.s 4)⟩, ⟨some (54, true), some 56, .call 44 [(cI 80)]⟩, ⟨some (54, true), some 57, .call 87 [(cI 400), (cI 3)]⟩, ⟨some (54, true), some 58, .build [(.lit (.int .i64 0)), (.lit (.int .i64 0)), (.lit (.int .i64 0)), (.lit (.int .i64 0))] [(0, (2, (.s 56))), (2, (2, (.s 57)))]⟩, ⟨some (54, true), some 59, .eqa 4 false (.s 55) (.s 58)⟩, gO 60 (.pick (.s 54) (.s 59) cF), gO 61 (.mv (.s 60)), ⟨some (61, true), some 62, .mv (.s 7)⟩, ⟨some (61, true), some 63, .bin .eql (.s 62) (cI 0)⟩, gO 64 (.pick (.s 61) (.s 63) cF), gO 65 (.mv (.s 64)), ⟨some (65, true), some 66, .mv (.s 6)⟩, ⟨some (65, true), some 67, .bsl (.lit (.int .i64 0)) 1 2 [(0, (cI 1)), (1, (cI 3))]⟩, ⟨some (65, true), some 68, .call 24 [.s 66, .s 67]⟩, gO 69 (.pick (.s 65) (.s 68) cF), gO 70 (.mv (.s 69)), ⟨some (70, true), some 71, .mv (.s 9)⟩, ⟨some (70, true), some 72, .bin .eql (.s 71) (cI 0)⟩, gO 73 (.pick (.s 70) (.s 72) cF), gO 74 (.mv (.s 73)), ⟨some (74, true), some 75, .ld (some 2) (.s 8)⟩, ⟨some (74, true), some 76, .build [(.lit (.int .i64 0)), (.lit (.int .i64 0))] [(0, (1, (cI 7))), (1, (1, (cI 4)))]⟩, ⟨some (74, true), some 77, .eqa 2 false (.s 75) (.s 76)⟩, gO 78 (.pick (.s 74) (.s 77) cF), gO 79 (.mv (.s 78)), ⟨some (79, true), some 80, .mv (.s 11)⟩, ⟨some (79, true), some 81, .bin .eql (.s 80) (cI 0)⟩, gO 82 (.pick (.s 79) (.s 81) cF), gO 83 (.mv (.s 82)), ⟨some (83, true), some 84, .mv (.s 10)⟩, ⟨some (83, true), some 85, .bin .eql (.s 84) (cI 376)⟩, gO 86 (.pick (.s 83) (.s 85) cF), gO 0 (.mv (.s 86))]) .ret)))))))⟩ := by kernel_rfl
set_option maxHeartbeats 1000000 in
theorem awake_z : runZ MT (orA 13) (itA 13) 4000000 15 [] [] = some (Bo true, []) := by
 refine runZ_of mf_awake (by simp) ?_
 simp only [argsL]
 repeat (first | apply ef_seq | (apply ef_mv; exact rfl; exact rfl) | (apply ef_bin; (iterate 3 exact rfl); (exact cmp_t rfl (by first | exact rfl | (simp only [cmpP]; omega)))) | (apply ef_gy; exact rfl; (exact (rfl : true = true))) | (apply ef_pick; (iterate 3 exact rfl)) | (apply ef_ldp; (iterate 4 exact rfl); (exact rfl); (first | exact rd_2 rfl rfl | exact rd_4 rfl rfl rfl rfl)) | (apply ef_ext; (iterate 3 exact rfl)) | (apply ef_new; exact rfl) | (apply ef_build; exact rfl; (repeat (apply XVs.cons; exact rfl)); exact XVs.nil; exact rfl; exact rfl) | (apply ef_bsl; exact rfl; (repeat (apply XVs.cons; exact rfl)); exact XVs.nil; exact rfl) | (apply ef_eqa; (iterate 3 exact rfl); (exact rfl)) | (apply ef_st; (iterate 6 exact rfl); (exact rfl); exact rfl) | apply ef_nil | apply seqQ.normal | apply ef_ret | (apply ef_call; exact rfl; ((repeat (apply XVs.cons; exact rfl)); exact XVs.nil); (with_reducible first | exact items_c _ _ | exact cal_c _ _ | exact hole_c _ _ | exact layer_c _ _ | exact shadow_c _ _ | exact whole_c _ _ | exact low_c _ _ | exact bestX_c _ rfl | exact priceX_c _ rfl | exact earlyX_c _ rfl | exact cutsX_c _ | exact bodyX_c _ | exact bInts_c 12 [0, 2] [0, 2] _ (by simp) rfl rfl rfl | exact bInts_c 12 [1, 3] [1, 3] _ (by simp) rfl rfl rfl)))
 (refine fin1 rfl (by exact rfl) rfl ?_)
 rfl
theorem awake_c (h : MHeap) : orA 14 15 [] h = some (Bo true, h) := callL (args' := []) rfl rfl awake_z
end Go.Proofs.YtnmgpbihknjdjaaGreatDoor
