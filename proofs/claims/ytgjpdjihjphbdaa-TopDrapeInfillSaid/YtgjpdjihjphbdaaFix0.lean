/- Runs of fixes off the track, reasons, spoilt pieces (no program). -/
import Derived.Test.YtgjpdjihjphbdaaFix1
namespace Go.Proofs.Ytgjpdjihjphbdaa

/-- Off the track. -/
def offB (drift : Int) (f : Fx) : Bool := !inB f.o (0 - drift) drift
def offA (drift : Int) (fs : List Fx) (j : Nat) : Bool := (fs[j]?).any (offB drift)
/-- How many fixes up to one are off, one after the other; how many behind it. -/
def upN (o : Nat → Bool) : Nat → Nat
  | 0 => if o 0 then 1 else 0
  | i + 1 => if o (i + 1) then upN o i + 1 else 0
def dnN (o : Nat → Bool) : Nat → Nat → Nat
  | 0, _ => 0
  | f + 1, i => if o (i + 1) then dnN o f (i + 1) + 1 else 0
/-- The length of a fix's run. -/
def runR (o : Nat → Bool) (n i : Nat) : Nat := if o i then upN o i + dnN o (n - 1 - i) i else 0
def reasonOf (r : Ru) (fs : List Fx) (i : Nat) : Int :=
  match fs[i]? with
  | some f => if f.h < r.low then 1 else if r.high < f.h then 2 else if r.noise < f.n then 3 else if r.over < (runR (offA r.drift fs) fs.length i : Int) then 4 else 0
  | none => 0
def reasonsL (r : Ru) (fs : List Fx) : List Int := (List.range fs.length).map (reasonOf r fs)

theorem upN_pos {o : Nat → Bool} {i : Nat} (h : o i = true) : 0 < upN o i := by
  cases i <;> simp [upN, h]
theorem upN_zero {o : Nat → Bool} {i : Nat} (h : o i = false) : upN o i = 0 := by
  cases i <;> simp [upN, h]
theorem upN_le (o : Nat → Bool) : ∀ i, upN o i ≤ i + 1
  | 0 => by simp only [upN]; split <;> omega
  | i + 1 => by
    have := upN_le o i
    simp only [upN]; split <;> omega
theorem dnN_le (o : Nat → Bool) : ∀ f i, dnN o f i ≤ f
  | 0, _ => Nat.le_refl _
  | f + 1, i => by
    have := dnN_le o f (i + 1)
    simp only [dnN]; split <;> omega
theorem runR_le (o : Nat → Bool) (n i : Nat) (h : i < n) : runR o n i ≤ n := by
  unfold runR
  have h1 := upN_le o i
  have h2 := dnN_le o (n - 1 - i) i
  split <;> omega
/-- The second pass. -/
theorem runR_step {o : Nat → Bool} {n i : Nat} (h : i + 1 < n) (ho : o i = true) : (runR o n i : Int) = mx (upN o i : Int) (runR o n (i + 1) : Int) := by
  rw [mx_eq]
  unfold runR
  obtain ⟨f, hf⟩ : ∃ f, n - 1 - i = f + 1 := ⟨n - 2 - i, by omega⟩
  have hf2 : n - 1 - (i + 1) = f := by omega
  rw [hf, hf2]
  simp only [ho, if_true, dnN]
  by_cases h1 : o (i + 1) = true
  · simp only [h1, if_true, upN]; omega
  · simp only [h1]
    simp
theorem runR_last {o : Nat → Bool} {n i : Nat} (h : i + 1 = n) : runR o n i = upN o i := by
  unfold runR
  have : n - 1 - i = 0 := by omega
  rw [this]
  by_cases h1 : o i = true
  · simp [h1, dnN]
  · simp only [h1]
    rw [upN_zero (by simpa using h1)]; rfl
/-- From a fix back to where its run begins. -/
theorem upN_from {o : Nat → Bool} {i s : Nat} (hs : s ≤ i) (hall : ∀ j, s ≤ j → j ≤ i → o j = true) (hb : s = 0 ∨ o (s - 1) = false) : upN o i = i - s + 1 := by
  induction i with
  | zero =>
    have : s = 0 := by omega
    subst this
    simp [upN, hall 0 (by omega) (by omega)]
  | succ i ih =>
    have ho := hall (i + 1) (by omega) (by omega)
    simp only [upN, ho, if_true]
    by_cases h : s ≤ i
    · rw [ih h fun j h1 h2 => hall j h1 (by omega)]; omega
    · have hsi : s = i + 1 := by omega
      subst hsi
      have : o i = false := by simpa using hb
      rw [upN_zero this]; omega
theorem dnN_to {o : Nat → Bool} {n : Nat} : ∀ {f i e : Nat}, f = n - 1 - i → i ≤ e → e < n → (∀ j, i < j → j ≤ e → o j = true) → (e + 1 = n ∨ o (e + 1) = false) → dnN o f i = e - i
  | 0, i, e, hf, h1, h2, _, _ => by simp only [dnN]; omega
  | f + 1, i, e, hf, h1, h2, hall, hb => by
    simp only [dnN]
    by_cases h : i = e
    · subst h
      have : o (i + 1) = false := hb.resolve_left (by omega)
      simp [this]
    · rw [if_pos (hall (i + 1) (by omega) (by omega)), dnN_to (n := n) (i := i + 1) (e := e) (by omega) (by omega) h2 (fun j h3 h4 => hall j (by omega) h4) hb]
      omega

/-- Spoilt pieces, one fix after the other. -/
def spStep (acc : List (Int × Int)) (i : Nat) (x : Int) : List (Int × Int) :=
  if x = 0 then acc else match acc.getLast? with
    | some p => if p.2 = (i : Int) - 1 then acc.dropLast ++ [(p.1, (i : Int))] else acc ++ [((i : Int), (i : Int))]
    | none => acc ++ [((i : Int), (i : Int))]
def spoiltF : List (Int × Int) → Nat → List Int → List (Int × Int)
  | acc, _, [] => acc
  | acc, i, x :: xs => spoiltF (spStep acc i x) (i + 1) xs

/-- What holds of spoilt pieces. -/
def SpInv (xs : List Int) (k : Nat) (acc : List (Int × Int)) : Prop :=
  (∀ p ∈ acc, 0 ≤ p.1 ∧ p.1 ≤ p.2 ∧ p.2 < (k : Int)) ∧ ∀ i : Nat, i < k → ((∃ p ∈ acc, p.1 ≤ (i : Int) ∧ (i : Int) ≤ p.2) ↔ xs.getD i 0 ≠ 0)
theorem spStep_inv {xs : List Int} {k : Nat} {acc : List (Int × Int)} (h : SpInv xs k acc) : SpInv xs (k + 1) (spStep acc k (xs.getD k 0)) := by
  obtain ⟨h1, h2⟩ := h
  unfold spStep
  have app : xs.getD k 0 ≠ 0 → SpInv xs (k + 1) (acc ++ [((k : Int), (k : Int))]) := fun h0 => by
    refine ⟨fun p hp => ?_, fun i hi => ?_⟩
    · rcases List.mem_append.1 hp with hp | hp
      · have := h1 p hp; push_cast; omega
      · simp at hp; subst hp; push_cast; omega
    · by_cases hik : i = k
      · subst hik
        exact ⟨fun _ => h0, fun _ => ⟨((i : Int), (i : Int)), by simp, by omega, by omega⟩⟩
      · rw [← h2 i (by omega)]
        constructor
        · rintro ⟨p, hp, a, b⟩
          rcases List.mem_append.1 hp with hp | hp
          · exact ⟨p, hp, a, b⟩
          · simp at hp; subst hp; simp only at a; omega
        · rintro ⟨p, hp, a, b⟩
          exact ⟨p, List.mem_append_left _ hp, a, b⟩
  split
  · rename_i h0
    refine ⟨fun p hp => by have := h1 p hp; push_cast; omega, fun i hi => ?_⟩
    by_cases hik : i = k
    · subst hik
      constructor
      · rintro ⟨p, hp, a, b⟩
        have := h1 p hp; omega
      · intro h; exact absurd h0 h
    · exact h2 i (by omega)
  · rename_i h0
    split
    · rename_i p hp
      split
      · rename_i hpk
        have hne : acc ≠ [] := by intro e; rw [e] at hp; cases hp
        have hl : acc = acc.dropLast ++ [p] := by
          have hd := List.dropLast_concat_getLast hne
          rw [List.getLast?_eq_some_getLast hne] at hp
          cases hp
          exact hd.symm
        have hpm : p ∈ acc := by rw [hl]; simp
        have hp1 := h1 p hpm
        refine ⟨fun q hq => ?_, fun i hi => ?_⟩
        · rcases List.mem_append.1 hq with hq | hq
          · have := h1 q (List.dropLast_subset _ hq); push_cast; omega
          · simp at hq; subst hq; push_cast; omega
        · by_cases hik : i = k
          · subst hik
            exact ⟨fun _ => h0, fun _ => ⟨(p.1, (i : Int)), by simp, by simp only; omega, by simp only; omega⟩⟩
          · rw [← h2 i (by omega)]
            constructor
            · rintro ⟨q, hq, a, b⟩
              rcases List.mem_append.1 hq with hq | hq
              · exact ⟨q, List.dropLast_subset _ hq, a, b⟩
              · simp at hq; subst hq
                exact ⟨p, hpm, a, by omega⟩
            · rintro ⟨q, hq, a, b⟩
              rw [hl] at hq
              rcases List.mem_append.1 hq with hq | hq
              · exact ⟨q, List.mem_append_left _ hq, a, b⟩
              · simp at hq; subst hq
                exact ⟨(q.1, (k : Int)), by simp, a, by simp only; omega⟩
      · exact app h0
    · exact app h0
theorem spoiltF_inv {xs : List Int} : ∀ (ys : List Int) (k : Nat) (acc : List (Int × Int)), (_ : SpInv xs k acc) → xs.drop k = ys → SpInv xs (k + ys.length) (spoiltF acc k ys)
  | [], k, acc, h, _ => h
  | y :: ys, k, acc, h, hd => by
    have hk : xs.getD k 0 = y := by
      have : xs[k]? = some y := by
        have := congrArg List.head? hd
        rwa [List.head?_drop] at this
      simp [List.getD_eq_getElem?_getD, this]
    have := spStep_inv h
    rw [hk] at this
    have h2 := spoiltF_inv ys (k + 1) _ this (by rw [← List.drop_drop, hd]; rfl)
    rw [List.length_cons, show k + (ys.length + 1) = k + 1 + ys.length by omega]
    exact h2
/-- A fix is in a piece exactly if it has a reason. -/
theorem spoilt_iff (xs : List Int) : SpInv xs xs.length (spoiltF [] 0 xs) := by
  have := spoiltF_inv (xs := xs) xs 0 [] (And.intro (fun p hp => by cases hp) (fun i hi => by omega)) rfl
  rwa [Nat.zero_add] at this

end Go.Proofs.Ytgjpdjihjphbdaa
