/- The plain law of strips: sweeps, infills, packings (no program). -/
import Derived.Test.YtgjpdjihjphbdaaSmall
namespace Go.Proofs.Ytgjpdjihjphbdaa

/-- A window has a line. -/
def inW (gap w n : Int) : Bool := inB n (w + 1) (w + gap)
def hasW (gap w : Int) (l : List Int) : Bool := l.any (inW gap w)
theorem inW_iff {gap w n : Int} : inW gap w n = true ↔ w + 1 ≤ n ∧ n ≤ w + gap := inB_iff
theorem hasW_iff {gap w : Int} {l : List Int} : hasW gap w l = true ↔ ∃ n ∈ l, w + 1 ≤ n ∧ n ≤ w + gap := by
  simp [hasW, List.any_eq_true, inW_iff]
theorem hasW_app (gap w : Int) (l m : List Int) : hasW gap w (l ++ m) = (hasW gap w l || hasW gap w m) := by simp [hasW]
theorem hasW_one (gap w n : Int) : hasW gap w [n] = inW gap w n := by simp [hasW]
/-- Numbers from one on. -/
def rngI : Int → Nat → List Int
  | _, 0 => []
  | a, k + 1 => a :: rngI (a + 1) k
theorem rngI_mem : ∀ {k : Nat} {a x : Int}, x ∈ rngI a k ↔ a ≤ x ∧ x < a + k
  | 0, a, x => by simp only [rngI, List.not_mem_nil, false_iff]; omega
  | k + 1, a, x => by simp only [rngI, List.mem_cons, rngI_mem]; omega
structure Stp where
  fr : Int
  up : Int
  gap : Int
  fl : List Int
  lo : List Int
/-- The windows without a flown line. -/
def wins0 (s : Stp) : List Int := (rngI s.fr (s.up - s.gap - s.fr).toNat).filter fun w => !hasW s.gap w s.fl
/-- The windows that have neither a flown line nor one of some lines. -/
def wins (s : Stp) (sm : List Int) : List Int := (rngI s.fr (s.up - s.gap - s.fr).toNat).filter fun w => !hasW s.gap w s.fl && !hasW s.gap w sm
theorem wins_mem {s : Stp} {l : List Int} {w : Int} : w ∈ wins s l ↔ (s.fr ≤ w ∧ w < s.up - s.gap) ∧ hasW s.gap w s.fl = false ∧ hasW s.gap w l = false := by
  simp only [wins, List.mem_filter, rngI_mem, Bool.and_eq_true, Bool.not_eq_true']
  constructor
  · rintro ⟨⟨h1, h2⟩, h3, h4⟩
    exact ⟨⟨h1, by omega⟩, h3, h4⟩
  · rintro ⟨⟨h1, h2⟩, h3, h4⟩
    exact ⟨⟨h1, by omega⟩, h3, h4⟩
/-- Ascending. -/
def Asc (l : List Int) : Prop := l.Pairwise (· < ·)
theorem rngI_asc : ∀ (k : Nat) (a : Int), Asc (rngI a k)
  | 0, a => .nil
  | k + 1, a => by
    refine List.Pairwise.cons (fun x hx => ?_) (rngI_asc k (a + 1))
    have := rngI_mem.1 hx
    omega
theorem wins_asc (s : Stp) (l : List Int) : Asc (wins s l) := (rngI_asc _ _).filter _

/-- The last one for which something holds. -/
def lastIn (P : Int → Bool) : List Int → Int → Int
  | [], d => d
  | n :: ns, d => lastIn P ns (if P n then n else d)
theorem lastIn_app (P : Int → Bool) : ∀ (l m : List Int) (d : Int), lastIn P (l ++ m) d = lastIn P m (lastIn P l d)
  | [], m, d => rfl
  | n :: l, m, d => by simp only [List.cons_append, lastIn]; exact lastIn_app P l m _
theorem lastIn_none {P : Int → Bool} : ∀ {l : List Int} {d : Int}, (∀ n ∈ l, P n = false) → lastIn P l d = d
  | [], d, h => rfl
  | n :: l, d, h => by
    simp only [lastIn, h n List.mem_cons_self]
    exact lastIn_none fun m hm => h m (List.mem_cons_of_mem _ hm)
theorem lastIn_congr {P Q : Int → Bool} : ∀ {l : List Int} {d : Int}, (∀ n ∈ l, P n = Q n) → lastIn P l d = lastIn Q l d
  | [], d, h => rfl
  | n :: l, d, h => by
    simp only [lastIn, h n List.mem_cons_self]
    exact lastIn_congr fun m hm => h m (List.mem_cons_of_mem _ hm)
theorem lastIn_spec {P : Int → Bool} : ∀ {l : List Int} {d : Int}, Asc l → (lastIn P l d = d ∧ ∀ n ∈ l, P n = false) ∨ (lastIn P l d ∈ l ∧ P (lastIn P l d) = true ∧ ∀ n ∈ l, P n = true → n ≤ lastIn P l d)
  | [], d, _ => .inl ⟨rfl, fun n h => by cases h⟩
  | n :: l, d, ha => by
    rw [Asc, List.pairwise_cons] at ha
    obtain ⟨h1, h2⟩ := ha
    simp only [lastIn]
    rcases lastIn_spec (P := P) (l := l) (d := if P n then n else d) h2 with ⟨k1, k2⟩ | ⟨k1, k2, k3⟩
    · rw [k1]
      by_cases hp : P n = true
      · right
        rw [if_pos hp]
        refine ⟨List.mem_cons_self, hp, fun m hm hpm => ?_⟩
        rcases List.mem_cons.1 hm with rfl | hm
        · omega
        · rw [k2 m hm] at hpm; cases hpm
      · left
        rw [if_neg hp]
        refine ⟨rfl, fun m hm => ?_⟩
        rcases List.mem_cons.1 hm with rfl | hm
        · simpa using hp
        · exact k2 m hm
    · right
      refine ⟨List.mem_cons_of_mem _ k1, k2, fun m hm hpm => ?_⟩
      rcases List.mem_cons.1 hm with rfl | hm
      · have := h1 _ k1; omega
      · exact k3 m hm hpm

/-- A candidate for a window. -/
def cand (gap after w n : Int) : Bool := decide (after < n) && inW gap w n
theorem cand_iff {gap after w n : Int} : cand gap after w n = true ↔ after < n ∧ w + 1 ≤ n ∧ n ≤ w + gap := by simp [cand, inW_iff]
/-- The windows that a sweep takes lines for: t is the line taken last. -/
def sweepF (gap after : Int) (lo : List Int) : Int → List Int → Option (List Int)
  | _, [] => some []
  | t, w :: ws => if inW gap w t then sweepF gap after lo t ws else
    if lastIn (cand gap after w) lo (-1) < 0 then none else (sweepF gap after lo (lastIn (cand gap after w) lo (-1)) ws).map (w :: ·)
/-- What is lost is above 0, and ascends. -/
def Good (lo : List Int) : Prop := Asc lo ∧ ∀ n ∈ lo, 0 < n
theorem pick_spec {gap after w : Int} {lo : List Int} (hg : Good lo) : (lastIn (cand gap after w) lo (-1) = -1 ∧ ∀ n ∈ lo, cand gap after w n = false) ∨
    (lastIn (cand gap after w) lo (-1) ∈ lo ∧ 0 < lastIn (cand gap after w) lo (-1) ∧ cand gap after w (lastIn (cand gap after w) lo (-1)) = true ∧ ∀ n ∈ lo, cand gap after w n = true → n ≤ lastIn (cand gap after w) lo (-1)) := by
  rcases lastIn_spec (P := cand gap after w) (d := -1) hg.1 with h | ⟨h1, h2, h3⟩
  · exact .inl h
  · exact .inr ⟨h1, hg.2 _ h1, h2, h3⟩

/-- How many further lines are needed (as the reference counts). -/
def fewF (gap : Int) (fl : List Int) (cs : List Int) : List Int → List Int → Option Nat
  | _, [] => some 0
  | own, w :: ws => if hasW gap w fl || hasW gap w own then fewF gap fl cs own ws else
    if lastIn (inW gap w) cs (-1) < 0 then none else (fewF gap fl cs (own ++ [lastIn (inW gap w) cs (-1)]) ws).map (· + 1)

theorem few_sweep {gap after : Int} {fl pre post : List Int} (hg : Good (pre ++ post)) (h1 : ∀ n ∈ pre, n ≤ after) (h2 : ∀ n ∈ post, after < n) (sm : List Int) :
    ∀ (ws : List Int) (own : List Int) (t : Int), Asc ws → (∀ w ∈ ws, ∀ n ∈ own, n ∉ sm → n ≤ w ∨ n = t) → (t = -1 ∨ t ∈ own) → (∀ n ∈ sm, n ∈ own) → (∀ w ∈ ws, 0 ≤ w) → (∀ w ∈ ws, t ≤ w + gap) →
      fewF gap fl post own ws = (sweepF gap after (pre ++ post) t (ws.filter fun w => !hasW gap w fl && !hasW gap w sm)).map List.length
  | [], own, t, _, _, _, _, _, _ => rfl
  | w :: ws, own, t, ha, ho, ht, hs, hw0, htg => by
    rw [Asc, List.pairwise_cons] at ha
    obtain ⟨ha1, ha2⟩ := ha
    have hwn := hw0 w List.mem_cons_self
    have ih := fun own t => few_sweep (gap := gap) (fl := fl) hg h1 h2 sm ws own t ha2
    have heq : hasW gap w own = (hasW gap w sm || inW gap w t) := by
      rw [Bool.eq_iff_iff, Bool.or_eq_true, hasW_iff, hasW_iff, inW_iff]
      constructor
      · rintro ⟨n, hn, k1, k2⟩
        by_cases hns : n ∈ sm
        · exact .inl ⟨n, hns, k1, k2⟩
        · rcases ho w List.mem_cons_self n hn hns with h | rfl
          · omega
          · exact .inr ⟨k1, k2⟩
      · rintro (⟨n, hn, k⟩ | k)
        · exact ⟨n, hs n hn, k⟩
        · rcases ht with rfl | ht
          · omega
          · exact ⟨t, ht, k⟩
    have hnext : ∀ x ∈ ws, ∀ n ∈ own, n ∉ sm → n ≤ x ∨ n = t := fun x hx => ho x (List.mem_cons_of_mem _ hx)
    have hw0' : ∀ x ∈ ws, 0 ≤ x := fun x hx => hw0 x (List.mem_cons_of_mem _ hx)
    have htg' : ∀ x ∈ ws, t ≤ x + gap := fun x hx => htg x (List.mem_cons_of_mem _ hx)
    simp only [fewF]
    by_cases hf : hasW gap w fl = true
    · rw [List.filter_cons_of_neg (by simp [hf]), if_pos (by simp [hf])]
      exact ih own t hnext ht hs hw0' htg'
    · by_cases hs1 : hasW gap w sm = true
      · rw [List.filter_cons_of_neg (by simp [hs1]), if_pos (by simp [heq, hs1])]
        exact ih own t hnext ht hs hw0' htg'
      · rw [List.filter_cons_of_pos (by simp [hf, hs1])]
        simp only [sweepF]
        by_cases hit : inW gap w t = true
        · rw [if_pos (by simp [heq, hit]), if_pos hit]
          exact ih own t hnext ht hs hw0' htg'
        · have hc : lastIn (cand gap after w) (pre ++ post) (-1) = lastIn (inW gap w) post (-1) := by
            rw [lastIn_app, lastIn_none (l := pre)]
            · exact lastIn_congr fun n hn => by simp [cand, h2 n hn]
            · intro n hn
              have := h1 n hn
              simp only [cand, Bool.and_eq_false_iff, decide_eq_false_iff_not]
              left; omega
          rw [if_neg (by simp [hf, heq, hs1, hit]), if_neg hit, hc]
          obtain ⟨b, hb⟩ : ∃ b, lastIn (inW gap w) post (-1) = b := ⟨_, rfl⟩
          rw [hb]
          by_cases hb0 : b < 0
          · rw [if_pos hb0, if_pos hb0]; rfl
          · rw [if_neg hb0, if_neg hb0]
            have hbw : inW gap w b = true := by
              rcases lastIn_spec (P := inW gap w) (l := post) (d := -1) (List.pairwise_append.1 hg.1).2.1 with ⟨k1, _⟩ | ⟨_, k2, _⟩
              · omega
              · rw [hb] at k2; exact k2
            have hbw' := inW_iff.1 hbw
            have htw : t ≤ w := by
              have := htg w List.mem_cons_self
              have h3 : ¬ (w + 1 ≤ t ∧ t ≤ w + gap) := fun h => hit (inW_iff.2 h)
              omega
            rw [ih (own ++ [b]) b (fun x hx n hn hns => ?_) (.inr (by simp)) (fun n hn => List.mem_append_left _ (hs n hn)) hw0' (fun x hx => by have := ha1 x hx; omega)]
            · rw [Option.map_map, Option.map_map]; rfl
            · rcases List.mem_append.1 hn with hn | hn
              · left
                rcases ho w List.mem_cons_self n hn hns with h | rfl
                · have := ha1 x hx; omega
                · have := ha1 x hx; omega
              · right; simpa using hn

/-- The infill with the fewest lines: m lines are enough. -/
def infF (s : Stp) (m : Nat) : List Int → List Int → List Int
  | [], out => out
  | n :: ns, out => if out.length = m then out else
    match sweepF s.gap n s.lo (-1) (wins s (out ++ [n])) with
    | some r => if out.length + 1 + r.length ≤ m then infF s m ns (out ++ [n]) else infF s m ns out
    | none => infF s m ns out
def packF (s : Stp) : Option (List Int) := sweepF s.gap (-1) s.lo (-1) (wins s [])
def infillF (s : Stp) : Option (List Int) := (packF s).map fun all => infF s all.length s.lo []
end Go.Proofs.Ytgjpdjihjphbdaa
