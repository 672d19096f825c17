/- The plain law of strips: which infills and packings are accepted (no program). -/
import Derived.Test.YtgjpdjihjphbdaaSp2
namespace Go.Proofs.Ytgjpdjihjphbdaa

/-- The index and the error of an infill's lines. -/
def lnE (lo : List Int) (last n : Int) : Int := firstE [unl (lo.contains n) 6, unl (decide (last < n)) 9]
def lnsE (lo : List Int) : Int → Nat → List Int → Int × Int
  | _, _, [] => (0, 0)
  | last, i, n :: ns => if lnE lo last n = 0 then lnsE lo n (i + 1) ns else (i, lnE lo last n)
def infE (s : Stp) (l : List Int) : Int × Int := if (lnsE s.lo (-1) 0 l).2 = 0 then (0, if (wins s l).isEmpty then 0 else 14) else lnsE s.lo (-1) 0 l
theorem lnE_zero {lo : List Int} {last n : Int} : lnE lo last n = 0 ↔ n ∈ lo ∧ last < n := by
  unfold lnE
  rw [firstE_zero, firstE_zero, unl_eq (by decide), unl_eq (by decide)]
  simp [firstE_nil]
theorem lnsE_zero {lo : List Int} : ∀ {ns : List Int} {last : Int} {i : Nat}, (lnsE lo last i ns).2 = 0 ↔ (∀ n ∈ ns, n ∈ lo ∧ last < n) ∧ Asc ns
  | [], _, _ => ⟨fun _ => ⟨(fun n h => by cases h), .nil⟩, fun _ => rfl⟩
  | n :: ns, last, i => by
    simp only [lnsE]
    by_cases h0 : lnE lo last n = 0
    · rw [if_pos h0, lnsE_zero, show Asc (n :: ns) ↔ (∀ m ∈ ns, n < m) ∧ Asc ns from List.pairwise_cons]
      have hl := lnE_zero.1 h0
      constructor
      · rintro ⟨h1, h2⟩
        refine ⟨fun m hm => ?_, fun m hm => (h1 m hm).2, h2⟩
        rcases List.mem_cons.1 hm with rfl | hm
        · exact hl
        · have := h1 m hm
          exact ⟨this.1, by omega⟩
      · rintro ⟨h1, h2, h3⟩
        exact ⟨fun m hm => ⟨(h1 m (List.mem_cons_of_mem _ hm)).1, h2 m hm⟩, h3⟩
    · rw [if_neg h0]
      constructor
      · intro h; exact absurd h h0
      · intro h; exact absurd (lnE_zero.2 (h.1 n List.mem_cons_self)) h0
theorem infE_zero {s : Stp} {l : List Int} (hg : Good s.lo) : (infE s l).2 = 0 ↔ InfOk s l := by
  unfold infE
  by_cases h0 : (lnsE s.lo (-1) 0 l).2 = 0
  · rw [if_pos h0]
    obtain ⟨h1, h2⟩ := lnsE_zero.1 h0
    constructor
    · intro h
      refine ⟨fun n hn => (h1 n hn).1, h2, ?_⟩
      cases hw : wins s l with
      | nil => rfl
      | cons x xs => rw [hw] at h; simp at h
    · rintro ⟨_, _, h3⟩
      rw [h3]; rfl
  · rw [if_neg h0]
    constructor
    · intro h; exact absurd h h0
    · rintro ⟨h1, h2, _⟩
      exact absurd (lnsE_zero.2 ⟨fun n hn => ⟨h1 n hn, by have := hg.2 n (h1 n hn); omega⟩, h2⟩) h0
theorem infE_gap {s : Stp} (hg : Good s.lo) (h : packF s = none) : (infE s s.lo).2 = 14 := by
  unfold infE
  rw [if_pos (lnsE_zero.2 ⟨fun n hn => ⟨hn, by have := hg.2 n hn; omega⟩, hg.1⟩)]
  have := no_infill hg h (l := s.lo) fun n hn => hn
  cases hw : wins s s.lo with
  | nil => exact absurd hw this
  | cons x xs => rfl

/-- The index and the error of a packing's windows. -/
def bothW (gap : Int) (lo : List Int) (w v : Int) : Bool := lo.any fun n => inW gap w n && inW gap v n
def pwE (s : Stp) (i : Nat) (v w : Int) : Int := if inB w s.fr (s.up - s.gap - 1) then firstE [unl (decide (i = 0) || decide (v < w)) 9, unl (!hasW s.gap w s.fl) 3, unl (decide (i = 0) || !bothW s.gap s.lo w v) 13] else 6
def pwsE (s : Stp) : Int → Nat → List Int → Int × Int
  | _, _, [] => (0, 0)
  | v, i, w :: ws => if pwE s i v w = 0 then pwsE s w (i + 1) ws else (i, pwE s i v w)
def pkE (s : Stp) (l : List Int) : Int × Int := if l.length ≤ 40 then pwsE s (l.getD 0 0) 0 l else (0, 8)
theorem bothW_false {gap w v : Int} {lo : List Int} : bothW gap lo w v = false ↔ ∀ n ∈ lo, ¬ (inW gap w n = true ∧ inW gap v n = true) := by
  simp [bothW, List.any_eq_false]
theorem pwE_zero {s : Stp} {i : Nat} {v w : Int} : pwE s i v w = 0 ↔ ((s.fr ≤ w ∧ w < s.up - s.gap) ∧ hasW s.gap w s.fl = false) ∧ (i = 0 ∨ (v < w ∧ bothW s.gap s.lo w v = false)) := by
  unfold pwE
  cases hb : inB w s.fr (s.up - s.gap - 1)
  · rw [if_neg (by simp)]
    have : ¬ (s.fr ≤ w ∧ w ≤ s.up - s.gap - 1) := fun h => by rw [inB_iff.2 h] at hb; cases hb
    constructor
    · intro h; simp at h
    · rintro ⟨⟨h, _⟩, _⟩
      exact absurd ⟨h.1, by omega⟩ this
  · rw [if_pos rfl, firstE_zero, firstE_zero, firstE_zero, unl_eq (by decide), unl_eq (by decide), unl_eq (by decide)]
    have hb := inB_iff.1 hb
    simp only [firstE_nil, Bool.or_eq_true, decide_eq_true_eq, Bool.not_eq_true']
    constructor
    · rintro ⟨h1, h2, h3, -⟩
      refine ⟨⟨⟨hb.1, by omega⟩, h2⟩, ?_⟩
      rcases h1 with h1 | h1
      · exact .inl h1
      · rcases h3 with h3 | h3
        · exact .inl h3
        · exact .inr ⟨h1, h3⟩
    · rintro ⟨⟨_, h2⟩, h3⟩
      refine ⟨h3.imp_right (·.1), h2, h3.imp_right (·.2), trivial⟩
theorem pwsE_zero {s : Stp} : ∀ {ws : List Int} {v : Int} {i : Nat}, 0 < i → ((pwsE s v i ws).2 = 0 ↔ (∀ w ∈ ws, (s.fr ≤ w ∧ w < s.up - s.gap) ∧ hasW s.gap w s.fl = false) ∧ Asc (v :: ws) ∧ ApartW s.gap s.lo (v :: ws))
  | [], v, i, _ => ⟨fun _ => ⟨(fun w h => by cases h), .cons (fun w h => by cases h) .nil, trivial⟩, fun _ => rfl⟩
  | w :: ws, v, i, hi => by
    simp only [pwsE]
    by_cases h0 : pwE s i v w = 0
    · rw [if_pos h0, pwsE_zero (by omega)]
      obtain ⟨h1, h2⟩ := pwE_zero.1 h0
      obtain ⟨h3, h4⟩ := h2.resolve_left (by omega)
      constructor
      · rintro ⟨k1, k2, k3⟩
        refine ⟨fun x hx => ?_, ?_, ?_, k3⟩
        · rcases List.mem_cons.1 hx with rfl | hx
          · exact h1
          · exact k1 x hx
        · refine List.Pairwise.cons (fun x hx => ?_) k2
          rcases List.mem_cons.1 hx with rfl | hx
          · exact h3
          · have := (List.pairwise_cons.1 k2).1 x hx; omega
        · intro n hn hh
          exact bothW_false.1 h4 n hn ⟨hh.2, hh.1⟩
      · rintro ⟨k1, k2, k3⟩
        exact ⟨fun x hx => k1 x (List.mem_cons_of_mem _ hx), (List.pairwise_cons.1 k2).2, k3.2⟩
    · rw [if_neg h0]
      constructor
      · intro h; exact absurd h h0
      · rintro ⟨k1, k2, k3⟩
        refine absurd (pwE_zero.2 ⟨k1 w List.mem_cons_self, .inr ⟨(List.pairwise_cons.1 k2).1 w List.mem_cons_self, ?_⟩⟩) h0
        exact bothW_false.2 fun n hn hh => k3.1 n hn ⟨hh.2, hh.1⟩
theorem pkE_zero {s : Stp} {l : List Int} : (pkE s l).2 = 0 ↔ l.length ≤ 40 ∧ PackOk s l := by
  unfold pkE
  by_cases hl : l.length ≤ 40
  · rw [if_pos hl]
    cases l with
    | nil => exact ⟨fun _ => ⟨hl, (fun w h => by cases h), .nil, trivial⟩, fun _ => rfl⟩
    | cons w ws =>
      simp only [pwsE]
      by_cases h0 : pwE s 0 ((w :: ws).getD 0 0) w = 0
      · rw [if_pos h0, pwsE_zero (by omega)]
        obtain ⟨h1, _⟩ := pwE_zero.1 h0
        constructor
        · rintro ⟨k1, k2, k3⟩
          refine ⟨hl, fun x hx => ?_, k2, k3⟩
          rcases List.mem_cons.1 hx with rfl | hx
          · exact h1
          · exact k1 x hx
        · rintro ⟨_, k1, k2, k3⟩
          exact ⟨fun x hx => k1 x (List.mem_cons_of_mem _ hx), k2, k3⟩
      · rw [if_neg h0]
        constructor
        · intro h; exact absurd h h0
        · rintro ⟨_, k1, _⟩
          exact absurd (pwE_zero.2 ⟨k1 w List.mem_cons_self, .inl rfl⟩) h0
  · rw [if_neg hl]
    constructor
    · intro h; simp at h
    · rintro ⟨h, _⟩; exact absurd h hl

/-- Neighbouring lines are at most the gap apart. -/
theorem gap_ok {s : Stp} {l : List Int} {last n : Int} (h : wins s l = []) (h1 : s.fr ≤ last) (h2 : last < n) (h3 : n ≤ s.up) (hm : ∀ m, m ∈ s.fl ∨ m ∈ l → ¬ (last < m ∧ m < n)) : n - last ≤ s.gap := by
  apply Decidable.byContradiction
  intro hc
  cases hf : hasW s.gap last s.fl
  · obtain ⟨m, k1, k2, k3⟩ := hasW_iff.1 (covered h ⟨⟨h1, by omega⟩, hf⟩)
    exact hm m (.inr k1) ⟨by omega, by omega⟩
  · obtain ⟨m, k1, k2, k3⟩ := hasW_iff.1 hf
    exact hm m (.inl k1) ⟨by omega, by omega⟩

/-- The reference's count is the sweep's. -/
def rngs (s : Stp) : List Int := rngI s.fr (s.up - s.gap - s.fr).toNat
theorem few_all {s : Stp} (hg : Good s.lo) (h0 : 0 ≤ s.fr) (hgap : 0 ≤ s.gap) : fewF s.gap s.fl s.lo [] (rngs s) = (packF s).map List.length := by
  have := few_sweep (gap := s.gap) (after := -1) (fl := s.fl) (pre := []) (post := s.lo) hg (fun n h => by cases h) (fun n hn => by have := hg.2 n hn; omega) [] (rngs s) [] (-1) (rngI_asc _ _) (fun w hw n hn => by cases hn) (.inl rfl) (fun n hn => hn)
    (fun w hw => by have := rngI_mem.1 hw; omega) (fun w hw => by have := rngI_mem.1 hw; omega)
  rw [this]
  rfl
theorem few_from {s : Stp} (hg : Good s.lo) (h0 : 0 ≤ s.fr) (hgap : 0 ≤ s.gap) {i : Nat} (hi : i < s.lo.length) (sm : List Int) : fewF s.gap s.fl (s.lo.drop (i + 1)) sm (rngs s) = (sweepF s.gap s.lo[i] s.lo (-1) (wins s sm)).map List.length := by
  have hsplit : s.lo = s.lo.take (i + 1) ++ s.lo.drop (i + 1) := (List.take_append_drop _ _).symm
  have hasc := hg.1
  have ht : s.lo.take (i + 1) = s.lo.take i ++ [s.lo[i]] := by rw [List.take_add_one, List.getElem?_eq_getElem hi]; rfl
  rw [hsplit, ht, Asc, List.pairwise_append] at hasc
  obtain ⟨p1, p2, p3⟩ := hasc
  rw [List.pairwise_append] at p1
  have hpre : ∀ n ∈ s.lo.take (i + 1), n ≤ s.lo[i] := fun n hn => by
    rw [ht] at hn
    rcases List.mem_append.1 hn with hn | hn
    · exact Int.le_of_lt (p1.2.2 n hn _ (by simp))
    · have : n = s.lo[i] := by simpa using hn
      omega
  have hpost : ∀ n ∈ s.lo.drop (i + 1), s.lo[i] < n := fun n hn => p3 s.lo[i] (List.mem_append_right _ List.mem_cons_self) n hn
  have := few_sweep (gap := s.gap) (after := s.lo[i]) (fl := s.fl) (pre := s.lo.take (i + 1)) (post := s.lo.drop (i + 1)) (by rw [← hsplit]; exact hg) hpre hpost sm (rngs s) sm (-1) (rngI_asc _ _) (fun w hw n hn hns => absurd hn hns) (.inl rfl) (fun n hn => hn)
    (fun w hw => by have := rngI_mem.1 hw; omega) (fun w hw => by have := rngI_mem.1 hw; omega)
  rw [this, ← hsplit]
  rfl
/-- The rounds of the reference's infill. -/
def rinfF (s : Stp) (m : Nat) : Nat → List Int → List Int → List Int
  | _, [], out => out
  | i, n :: ns, out => if out.length < m then
    match fewF s.gap s.fl (s.lo.drop (i + 1)) (out ++ [n]) (rngs s) with
    | some r => if out.length + 1 + r ≤ m then rinfF s m (i + 1) ns (out ++ [n]) else rinfF s m (i + 1) ns out
    | none => rinfF s m (i + 1) ns out
  else out
theorem rinf_inf {s : Stp} (hg : Good s.lo) (h0 : 0 ≤ s.fr) (hgap : 0 ≤ s.gap) {m : Nat} : ∀ (ns : List Int) (i : Nat) (out : List Int), s.lo.drop i = ns → out.length ≤ m → rinfF s m i ns out = infF s m ns out
  | [], i, out, _, _ => rfl
  | n :: ns, i, out, hd, ho => by
    have hi : i < s.lo.length := by
      apply Decidable.byContradiction
      intro hc
      rw [List.drop_eq_nil_of_le (by omega)] at hd
      cases hd
    rw [drop_at s.lo i hi] at hd
    injection hd with hn hd
    have h1 := fun out h => rinf_inf hg h0 hgap (m := m) ns (i + 1) out hd h
    simp only [rinfF, infF]
    by_cases hm : out.length = m
    · rw [if_neg (by omega), if_pos hm]
    · rw [if_pos (by omega), if_neg hm, few_from hg h0 hgap hi, ← hn]
      cases sweepF s.gap s.lo[i] s.lo (-1) (wins s (out ++ [s.lo[i]])) with
      | none => exact h1 out ho
      | some r =>
        simp only [Option.map_some]
        by_cases hle : out.length + 1 + r.length ≤ m
        · rw [if_pos hle, if_pos hle]
          exact h1 _ (by simp; omega)
        · rw [if_neg hle, if_neg hle]
          exact h1 out ho
end Go.Proofs.Ytgjpdjihjphbdaa
