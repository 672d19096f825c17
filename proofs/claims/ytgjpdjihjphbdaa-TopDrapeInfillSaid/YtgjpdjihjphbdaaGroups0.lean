/- Plain words for groups of pieces (no program). -/
import Derived.Test.YtgjpdjihjphbdaaBase
namespace Go.Proofs.Ytgjpdjihjphbdaa

/-- The best first group of the pieces from i on, of at most m pieces: its cost with all that follows, and its size. C: the costs from later pieces on. -/
def gin (K : Int) (lo hi : Nat → Int) (C : Nat → Int) (i : Nat) : Nat → Int × Int
  | 0 => (0, 0)
  | m + 1 => if m = 0 ∨ K + hi (i + m) - lo i + C (i + m + 1) < (gin K lo hi C i m).1 then (K + hi (i + m) - lo i + C (i + m + 1), m + 1) else gin K lo hi C i m

/-- The costs from each piece on, when the last d pieces are done. -/
def tabC (K : Int) (lo hi : Nat → Int) (n : Nat) : Nat → Nat → Int
  | 0 => fun _ => 0
  | d + 1 => fun j => if j = n - 1 - d then (gin K lo hi (tabC K lo hi n d) (n - 1 - d) (d + 1)).1 else tabC K lo hi n d j
def tabS (K : Int) (lo hi : Nat → Int) (n : Nat) : Nat → Nat → Int
  | 0 => fun _ => 0
  | d + 1 => fun j => if j = n - 1 - d then (gin K lo hi (tabC K lo hi n d) (n - 1 - d) (d + 1)).2 else tabS K lo hi n d j

theorem tabC_succ (K : Int) (lo hi : Nat → Int) (n d j : Nat) : tabC K lo hi n (d + 1) j = if j = n - 1 - d then (gin K lo hi (tabC K lo hi n d) (n - 1 - d) (d + 1)).1 else tabC K lo hi n d j := rfl
theorem tabS_succ (K : Int) (lo hi : Nat → Int) (n d j : Nat) : tabS K lo hi n (d + 1) j = if j = n - 1 - d then (gin K lo hi (tabC K lo hi n d) (n - 1 - d) (d + 1)).2 else tabS K lo hi n d j := rfl

/-- The sizes of the groups from piece i on. -/
def gOut (S : Nat → Int) (n : Nat) : Nat → Nat → List Int
  | 0, _ => []
  | f + 1, i => if i < n then S i :: gOut S n f (i + (S i).toNat) else []

theorem gOut_end (S : Nat → Int) (n f i : Nat) (h : n ≤ i) : gOut S n f i = [] := by
  cases f with
  | zero => rfl
  | succ f => unfold gOut; rw [if_neg (by omega)]
theorem gOut_step (S : Nat → Int) (n f i : Nat) (h : i < n) : gOut S n (f + 1) i = S i :: gOut S n f (i + (S i).toNat) := by
  rw [gOut, if_pos h]

theorem gin_size (K : Int) (lo hi C : Nat → Int) (i : Nat) (m : Nat) (hm : 0 < m) : 1 ≤ (gin K lo hi C i m).2 ∧ (gin K lo hi C i m).2 ≤ m := by
  induction m with
  | zero => omega
  | succ m ih =>
    unfold gin
    split
    · constructor <;> simp <;> omega
    · rename_i h
      have := ih (by omega)
      constructor <;> push_cast <;> omega

theorem tabS_size (K : Int) (lo hi : Nat → Int) (n : Nat) (d : Nat) (hd : d ≤ n) (j : Nat) (hj : n - d ≤ j) (hjn : j < n) : 1 ≤ tabS K lo hi n d j ∧ tabS K lo hi n d j ≤ ((n - j : Nat) : Int) := by
  induction d with
  | zero => omega
  | succ d ih =>
    unfold tabS
    by_cases h : j = n - 1 - d
    · simp only [if_pos h]
      have := gin_size K lo hi (tabC K lo hi n d) (n - 1 - d) (d + 1) (by omega)
      have e : n - j = d + 1 := by omega
      rw [e]; exact this
    · simp only [if_neg h]
      exact ih (by omega) (by omega)

/-- All costs have bounds, so that no sum wraps. -/
theorem gin_bound (K : Int) (lo hi C : Nat → Int) (i : Nat) (B : Int) (m : Nat) (hm : 0 < m) (hK : 0 ≤ K ∧ K ≤ 30000) (hlo : ∀ j, 0 ≤ lo j ∧ lo j ≤ 200) (hhi : ∀ j, 0 ≤ hi j ∧ hi j ≤ 200) (hC : ∀ j, -B ≤ C j ∧ C j ≤ B) :
    -(B + 31000) ≤ (gin K lo hi C i m).1 ∧ (gin K lo hi C i m).1 ≤ B + 31000 := by
  induction m with
  | zero => omega
  | succ m ih =>
    unfold gin
    have h1 := hlo i
    have h2 := hhi (i + m)
    have h3 := hC (i + m + 1)
    split
    · constructor <;> simp <;> omega
    · rename_i h
      exact ih (by omega)

theorem tabC_bound (K : Int) (lo hi : Nat → Int) (n : Nat) (d : Nat) (hK : 0 ≤ K ∧ K ≤ 30000) (hlo : ∀ j, 0 ≤ lo j ∧ lo j ≤ 200) (hhi : ∀ j, 0 ≤ hi j ∧ hi j ≤ 200) (j : Nat) :
    -(d * 31000 : Int) ≤ tabC K lo hi n d j ∧ tabC K lo hi n d j ≤ d * 31000 := by
  induction d generalizing j with
  | zero => simp [tabC]
  | succ d ih =>
    unfold tabC
    by_cases h : j = n - 1 - d
    · simp only [if_pos h]
      have := gin_bound K lo hi (tabC K lo hi n d) (n - 1 - d) (d * 31000) (d + 1) (by omega) hK hlo hhi (fun j => ih j)
      constructor <;> push_cast <;> omega
    · simp only [if_neg h]
      have := ih j
      constructor <;> push_cast <;> omega

theorem tabS_zero (K : Int) (lo hi : Nat → Int) (n : Nat) (d : Nat) (hd : d ≤ n) (j : Nat) (hj : j < n - d) : tabS K lo hi n d j = 0 := by
  induction d with
  | zero => rfl
  | succ d ih => rw [tabS_succ, if_neg (by omega)]; exact ih (by omega) (by omega)

end Go.Proofs.Ytgjpdjihjphbdaa
