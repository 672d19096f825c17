/- The law of groups: no way to join neighbours costs less; without fixed costs nothing is joined (no program). -/
import Derived.Test.YtgjpdjihjphbdaaRefG3
namespace Go.Proofs.Ytgjpdjihjphbdaa

theorem gin_congr {K : Int} {lo hi C C' : Nat → Int} {i : Nat} (h : ∀ j, i < j → C j = C' j) : ∀ m, gin K lo hi C i m = gin K lo hi C' i m
  | 0 => rfl
  | m + 1 => by
    unfold gin
    rw [gin_congr h m, h (i + m + 1) (by omega)]

theorem tabC_later {K : Int} {lo hi : Nat → Int} {n d : Nat} : ∀ k j, d + k ≤ n → n - d ≤ j → tabC K lo hi n (d + k) j = tabC K lo hi n d j
  | 0, j, _, _ => rfl
  | k + 1, j, h1, h2 => by
    rw [show d + (k + 1) = (d + k) + 1 by omega, tabC_succ, if_neg (by omega)]
    exact tabC_later k j (by omega) h2
theorem tabS_later {K : Int} {lo hi : Nat → Int} {n d : Nat} : ∀ k j, d + k ≤ n → n - d ≤ j → tabS K lo hi n (d + k) j = tabS K lo hi n d j
  | 0, j, _, _ => rfl
  | k + 1, j, h1, h2 => by
    rw [show d + (k + 1) = (d + k) + 1 by omega, tabS_succ, if_neg (by omega)]
    exact tabS_later k j (by omega) h2

/-- The least costs, and the least first groups, of each piece on. -/
theorem tabC_eq {K : Int} {lo hi : Nat → Int} {n i : Nat} (h : i < n) : tabC K lo hi n n i = (gin K lo hi (tabC K lo hi n n) i (n - i)).1 := by
  have e1 := tabC_later (K := K) (lo := lo) (hi := hi) (n := n) (d := n - i) i i (by omega) (by omega)
  rw [show n - i + i = n by omega] at e1
  rw [e1]
  obtain ⟨d, hd⟩ : ∃ d, n - i = d + 1 := ⟨n - i - 1, by omega⟩
  rw [hd, tabC_succ, if_pos (by omega), show n - 1 - d = i by omega]
  congr 1
  refine gin_congr (fun j hj => ?_) _
  have e2 := tabC_later (K := K) (lo := lo) (hi := hi) (n := n) (d := d) (n - d) j (by omega) (by omega)
  rw [show d + (n - d) = n by omega] at e2
  exact e2.symm
theorem tabS_eq {K : Int} {lo hi : Nat → Int} {n i : Nat} (h : i < n) : tabS K lo hi n n i = (gin K lo hi (tabC K lo hi n n) i (n - i)).2 := by
  have e1 := tabS_later (K := K) (lo := lo) (hi := hi) (n := n) (d := n - i) i i (by omega) (by omega)
  rw [show n - i + i = n by omega] at e1
  rw [e1]
  obtain ⟨d, hd⟩ : ∃ d, n - i = d + 1 := ⟨n - i - 1, by omega⟩
  rw [hd, tabS_succ, if_pos (by omega), show n - 1 - d = i by omega]
  congr 1
  refine gin_congr (fun j hj => ?_) _
  have e2 := tabC_later (K := K) (lo := lo) (hi := hi) (n := n) (d := d) (n - d) j (by omega) (by omega)
  rw [show d + (n - d) = n by omega] at e2
  exact e2.symm
theorem tabC_end {K : Int} {lo hi : Nat → Int} {n : Nat} : ∀ d, d ≤ n → ∀ j, n ≤ j → tabC K lo hi n d j = 0
  | 0, _, _, _ => rfl
  | d + 1, h, j, hj => by
    rw [tabC_succ, if_neg (by omega)]
    exact tabC_end d (by omega) j hj

theorem gin_le {K : Int} {lo hi C : Nat → Int} {i : Nat} : ∀ m k, k < m → (gin K lo hi C i m).1 ≤ K + hi (i + k) - lo i + C (i + k + 1)
  | 0, k, h => by omega
  | m + 1, k, h => by
    unfold gin
    split
    · rename_i hc
      by_cases e : k = m
      · subst e; exact Int.le_refl _
      · have := gin_le (K := K) (lo := lo) (hi := hi) (C := C) (i := i) m k (by omega)
        rcases hc with h0 | h0
        · omega
        · exact Int.le_of_lt (Int.lt_of_lt_of_le h0 this)
    · rename_i hc
      by_cases e : k = m
      · subst e
        have : ¬ K + hi (i + k) - lo i + C (i + k + 1) < (gin K lo hi C i k).1 := fun h => hc (.inr h)
        omega
      · exact gin_le m k (by omega)

/-- A group in front of the best rest costs no less than the best. -/
theorem best_le (fixed lead : Int) (xs : List (Int × Int)) (i m : Nat) (h : i + (m + 1) ≤ xs.length) :
    tabC (fixed + 2 * lead) (pLo xs) (pHi xs) xs.length xs.length i ≤ grpCost fixed lead ((xs.drop i).take (m + 1)) + tabC (fixed + 2 * lead) (pLo xs) (pHi xs) xs.length xs.length (i + (m + 1)) := by
  rw [tabC_eq (by omega), grpCost_sub fixed lead xs i m h]
  have := gin_le (K := fixed + 2 * lead) (lo := pLo xs) (hi := pHi xs) (C := tabC (fixed + 2 * lead) (pLo xs) (pHi xs) xs.length xs.length) (i := i) (xs.length - i) m (by omega)
  rw [show i + (m + 1) = i + m + 1 by omega]
  omega

theorem gin_one {lo hi C : Nat → Int} {i : Nat} : ∀ m, 0 < m → (∀ k, k < m → C (i + 1) ≤ hi (i + k) - hi i + C (i + k + 1)) → gin 0 lo hi C i m = (hi i - lo i + C (i + 1), 1)
  | 0, h, _ => by omega
  | 1, _, _ => by simp [gin]
  | m + 2, _, h => by
    have e := gin_one (lo := lo) (hi := hi) (C := C) (i := i) (m + 1) (by omega) fun k hk => h k (by omega)
    rw [gin, e, if_neg]
    have := h (m + 1) (by omega)
    dsimp only
    omega

/-- The pieces are apart. -/
def Apart (lo hi : Nat → Int) (n : Nat) : Prop := (∀ i, i + 1 < n → hi i ≤ lo (i + 1))

theorem tab_one {lo hi : Nat → Int} {n : Nat} (ha : Apart lo hi n) : ∀ d i, i + d + 1 = n → tabC 0 lo hi n n i = hi i - lo i + tabC 0 lo hi n n (i + 1) ∧ tabS 0 lo hi n n i = 1 := by
  intro d
  induction d using Nat.strongRecOn with
  | _ d ih =>
    intro i hi'
    have key : ∀ k, k < n - i → tabC 0 lo hi n n (i + 1) ≤ hi (i + k) - hi i + tabC 0 lo hi n n (i + k + 1) := by
      intro k
      induction k with
      | zero => intro _; simp
      | succ k ihk =>
        intro hk
        have h1 := ihk (by omega)
        have h2 := (ih (d - (k + 1)) (by omega) (i + k + 1) (by omega)).1
        have h3 := ha (i + k) (by omega)
        rw [show i + (k + 1) = i + k + 1 by omega]
        omega
    have e := gin_one (lo := lo) (hi := hi) (C := tabC 0 lo hi n n) (i := i) (n - i) (by omega) key
    refine ⟨?_, ?_⟩
    · rw [tabC_eq (by omega), e]
    · rw [tabS_eq (by omega), e]

theorem gOut_ones {S : Nat → Int} {n : Nat} (h : ∀ i, i < n → S i = 1) : ∀ f i, i ≤ n → n ≤ f + i → (gOut S n f i).length = n - i
  | 0, i, _, h2 => by simp [gOut]; omega
  | f + 1, i, h1, h2 => by
    by_cases hlt : i < n
    · rw [gOut_step S n f i hlt, h i hlt]
      have := gOut_ones h f (i + 1) (by omega) (by omega)
      simp only [List.length_cons, Int.toNat_one, this]
      omega
    · rw [gOut_end S n _ i (by omega)]; simp; omega

theorem pieceE_apart {last lo hi : Int} (h : pieceE last lo hi = 0) : last + 1 < lo ∧ lo ≤ hi := by
  unfold pieceE firstE unl at h
  simp only [firstE] at h
  by_cases h1 : (decide (lo ≤ hi) && decide (last + 1 < lo)) = true
  · simp at h1; omega
  · rw [if_neg h1] at h
    split at h <;> simp at h
    all_goals omega
theorem piecesE_apart : ∀ (xs : List (Int × Int)) (last : Int), piecesE last xs = 0 → (∀ p, xs[0]? = some p → last + 1 < p.1) ∧ ∀ i, i + 1 < xs.length → pHi xs i ≤ pLo xs (i + 1)
  | [], last, _ => ⟨fun p h => by simp at h, fun i h => by simp at h⟩
  | p :: l, last, h => by
    have h1 : pieceE last p.1 p.2 = 0 := by
      rw [piecesE] at h
      by_cases h0 : pieceE last p.1 p.2 = 0
      · exact h0
      · rw [if_pos h0] at h; exact absurd h h0
    rw [piecesE_good h1] at h
    obtain ⟨h2, h3⟩ := piecesE_apart l p.2 h
    refine ⟨fun q hq => by simp at hq; subst hq; exact (pieceE_apart h1).1, fun i hi => ?_⟩
    cases i with
    | zero =>
      cases l with
      | nil => simp at hi
      | cons q l =>
        have := h2 q rfl
        simp [pHi, pLo]; omega
    | succ i =>
      have := h3 i (by simpa using hi)
      simpa [pHi, pLo] using this

theorem gSizes_free (xs : List (Int × Int)) (h : groupsErr 0 0 xs = 0) : (gSizes 0 0 xs).length = xs.length := by
  have hp : piecesE (-2) xs = 0 := by
    have e : groupsErr 0 0 xs = piecesAll xs := by
      show firstE [0, piecesAll xs] = _
      simp only [firstE]
      by_cases h0 : piecesAll xs = 0 <;> simp [h0]
    rw [e] at h
    unfold piecesAll at h
    split at h
    · simp at h
    · exact h
  have ha : Apart (pLo xs) (pHi xs) xs.length := (piecesE_apart xs (-2) hp).2
  unfold gSizes
  rw [gOut_ones (fun i hi => ?_) _ _ (by omega) (by omega)]
  · simp
  · exact (tab_one ha (xs.length - i - 1) i (by omega)).2

end Go.Proofs.Ytgjpdjihjphbdaa
