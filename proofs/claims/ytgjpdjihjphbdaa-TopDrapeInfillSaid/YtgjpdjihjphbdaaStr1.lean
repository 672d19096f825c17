/- The plain law of strips: as many windows as lines (no program). -/
import Derived.Test.YtgjpdjihjphbdaaStr0
namespace Go.Proofs.Ytgjpdjihjphbdaa

/-- An infill that is accepted. -/
def InfOk (s : Stp) (l : List Int) : Prop := (∀ n ∈ l, n ∈ s.lo) ∧ Asc l ∧ wins s l = []
/-- Neighbouring windows have no lost line in common. -/
def ApartW (gap : Int) (lo : List Int) : List Int → Prop
  | w :: v :: r => (∀ n ∈ lo, ¬ (inW gap w n = true ∧ inW gap v n = true)) ∧ ApartW gap lo (v :: r)
  | _ => True
def PackOk (s : Stp) (p : List Int) : Prop := (∀ w ∈ p, (s.fr ≤ w ∧ w < s.up - s.gap) ∧ hasW s.gap w s.fl = false) ∧ Asc p ∧ ApartW s.gap s.lo p

theorem filter_one {P Q : Int → Bool} {n : Int} (hn : P n = true ∧ Q n = false) (hPQ : ∀ x, Q x = true → P x = true) : ∀ {l : List Int}, n ∈ l → (l.filter Q).length + 1 ≤ (l.filter P).length
  | [], h => by cases h
  | x :: l, h => by
    have hle : ∀ l : List Int, (l.filter Q).length ≤ (l.filter P).length := fun l => by
      induction l with
      | nil => simp
      | cons y l ih =>
        by_cases hq : Q y = true
        · rw [List.filter_cons_of_pos hq, List.filter_cons_of_pos (hPQ y hq)]; simp; omega
        · rw [List.filter_cons_of_neg hq]
          by_cases hp : P y = true
          · rw [List.filter_cons_of_pos hp]; simp; omega
          · rw [List.filter_cons_of_neg hp]; exact ih
    by_cases hx : n = x
    · subst hx
      rw [List.filter_cons_of_pos hn.1, List.filter_cons_of_neg (by simp [hn.2])]
      have := hle l
      simp; omega
    · have hm : n ∈ l := by
        rcases List.mem_cons.1 h with rfl | h
        · exact absurd rfl hx
        · exact h
      have ih := filter_one hn hPQ hm
      by_cases hq : Q x = true
      · rw [List.filter_cons_of_pos hq, List.filter_cons_of_pos (hPQ x hq)]; simp; omega
      · rw [List.filter_cons_of_neg hq]
        by_cases hp : P x = true
        · rw [List.filter_cons_of_pos hp]; simp; omega
        · rw [List.filter_cons_of_neg hp]; exact ih

theorem covered {s : Stp} {l : List Int} {w : Int} (h : wins s l = []) (hw : (s.fr ≤ w ∧ w < s.up - s.gap) ∧ hasW s.gap w s.fl = false) : hasW s.gap w l = true := by
  cases hh : hasW s.gap w l
  · have : w ∈ wins s l := wins_mem.2 ⟨hw.1, hw.2, hh⟩
    rw [h] at this; cases this
  · rfl
/-- No infill has fewer lines than a packing has windows. -/
theorem dual {s : Stp} {l p : List Int} (hl : InfOk s l) (hp : PackOk s p) : p.length ≤ l.length := by
  obtain ⟨l1, l2, l3⟩ := hl
  have key : ∀ (r : List Int) (w : Int), PackOk s (w :: r) → (w :: r).length ≤ (l.filter fun n => decide (w < n)).length := by
    intro r
    induction r with
    | nil =>
      rintro w ⟨p1, p2, p3⟩
      obtain ⟨n, h1, h2, h3⟩ := hasW_iff.1 (covered l3 (p1 w List.mem_cons_self))
      have : n ∈ l.filter fun n => decide (w < n) := List.mem_filter.2 ⟨h1, by simp; omega⟩
      exact List.length_pos_of_mem this
    | cons v r ih =>
      rintro w ⟨p1, p2, p3⟩
      rw [Asc, List.pairwise_cons] at p2
      have hwv := p2.1 v List.mem_cons_self
      have ih := ih v ⟨fun x hx => p1 x (List.mem_cons_of_mem _ hx), p2.2, p3.2⟩
      obtain ⟨n, h1, h2, h3⟩ := hasW_iff.1 (covered l3 (p1 w List.mem_cons_self))
      have hnv : n ≤ v := by
        have := p3.1 n (l1 n h1)
        rw [inW_iff, inW_iff] at this
        omega
      have := filter_one (P := fun n => decide (w < n)) (Q := fun n => decide (v < n)) (n := n) ⟨by simp; omega, by simp; omega⟩ (fun x hx => by simp at hx ⊢; omega) h1
      simp only [List.length_cons] at ih ⊢
      omega
  cases p with
  | nil => simp
  | cons w r => exact Nat.le_trans (key r w hp) (List.length_filter_le _ _)

theorem sweep_sub {gap after : Int} {lo : List Int} : ∀ {ws : List Int} {t : Int} {r : List Int}, sweepF gap after lo t ws = some r → r.Sublist ws
  | [], t, r, h => by simp only [sweepF, Option.some.injEq] at h; subst h; exact .slnil
  | w :: ws, t, r, h => by
    simp only [sweepF] at h
    split at h
    · exact (sweep_sub h).cons _
    · split at h
      · cases h
      · rw [Option.map_eq_some_iff] at h
        obtain ⟨r', h1, rfl⟩ := h
        exact (sweep_sub h1).cons_cons _
theorem sweep_apart {gap : Int} {lo : List Int} (hg : Good lo) : ∀ {ws : List Int} {t w0 : Int} {r : List Int}, Asc (w0 :: ws) → (∀ n ∈ lo, inW gap w0 n = true → n ≤ t) → t ≤ w0 + gap → sweepF gap (-1) lo t ws = some r → ApartW gap lo (w0 :: r)
  | [], t, w0, r, ha, ht, hu, h => by simp only [sweepF, Option.some.injEq] at h; subst h; exact trivial
  | w :: ws, t, w0, r, ha, ht, hu, h => by
    rw [Asc, List.pairwise_cons] at ha
    obtain ⟨ha1, ha2⟩ := ha
    have ha2' := ha2
    rw [List.pairwise_cons] at ha2
    have hw := ha1 w List.mem_cons_self
    simp only [sweepF] at h
    split at h
    · exact sweep_apart hg (List.Pairwise.cons (fun x hx => ha1 x (List.mem_cons_of_mem _ hx)) ha2.2) ht hu h
    · rename_i hnt
      split at h
      · cases h
      · rename_i hp
        rw [Option.map_eq_some_iff] at h
        obtain ⟨r', h1, rfl⟩ := h
        rcases pick_spec (gap := gap) (after := -1) (w := w) hg with ⟨k1, _⟩ | ⟨k1, k2, k3, k4⟩
        · omega
        · refine ⟨fun n hn hh => ?_, sweep_apart hg ha2' (fun n hn hi => k4 n hn ?_) ?_ h1⟩
          · have hn1 := ht n hn hh.1
            have hnw := inW_iff.1 hh.2
            have : ¬ (w + 1 ≤ t ∧ t ≤ w + gap) := fun h => hnt (inW_iff.2 h)
            omega
          · have := hg.2 n hn
            simp only [cand, Bool.and_eq_true, decide_eq_true_eq]
            exact ⟨by omega, hi⟩
          · exact (cand_iff.1 k3).2.2
theorem pack_ok {s : Stp} {p : List Int} (hg : Good s.lo) (h0 : 0 ≤ s.fr) (h : packF s = some p) : PackOk s p := by
  have hsub := sweep_sub h
  refine ⟨fun w hw => ?_, (wins_asc s []).sublist hsub, ?_⟩
  · obtain ⟨h1, h2, _⟩ := wins_mem.1 (hsub.subset hw)
    exact ⟨h1, h2⟩
  · unfold packF at h
    have ha := wins_asc s []
    have hm : ∀ w ∈ wins s [], 0 ≤ w := fun w hw => by have := (wins_mem.1 hw).1; omega
    generalize wins s [] = ws at h ha hm
    cases ws with
    | nil => simp only [sweepF, Option.some.injEq] at h; subst h; exact trivial
    | cons w ws =>
      have hw := hm w List.mem_cons_self
      simp only [sweepF] at h
      split at h
      · rename_i hi
        have := inW_iff.1 hi
        omega
      · split at h
        · cases h
        · rw [Option.map_eq_some_iff] at h
          obtain ⟨r', h1, rfl⟩ := h
          rcases pick_spec (gap := s.gap) (after := -1) (w := w) hg with ⟨k1, _⟩ | ⟨k1, k2, k3, k4⟩
          · omega
          · refine sweep_apart hg ha (fun n hn hi => k4 n hn ?_) (cand_iff.1 k3).2.2 h1
            have := hg.2 n hn
            simp only [cand, Bool.and_eq_true, decide_eq_true_eq]
            exact ⟨by omega, hi⟩

theorem sweep_later {gap after n : Int} {lo : List Int} (hg : Good lo) (hn : after ≤ n) : ∀ {ws : List Int} {t : Int}, Asc ws → n ≤ t → (∀ w ∈ ws, t ≤ w + gap) → sweepF gap after lo t ws = sweepF gap n lo t ws
  | [], t, _, _, _ => rfl
  | w :: ws, t, ha, ht, hw => by
    rw [Asc, List.pairwise_cons] at ha
    have htw := hw w List.mem_cons_self
    simp only [sweepF]
    by_cases hi : inW gap w t = true
    · rw [if_pos hi, if_pos hi]
      exact sweep_later hg hn ha.2 ht fun x hx => hw x (List.mem_cons_of_mem _ hx)
    · rw [if_neg hi, if_neg hi]
      have h1 : ¬ (w + 1 ≤ t ∧ t ≤ w + gap) := fun h => hi (inW_iff.2 h)
      have hc : lastIn (cand gap after w) lo (-1) = lastIn (cand gap n w) lo (-1) := lastIn_congr fun x _ => by
        rw [Bool.eq_iff_iff, cand_iff, cand_iff]; omega
      rw [hc]
      split
      · rfl
      · rename_i hp
        rcases pick_spec (gap := gap) (after := n) (w := w) hg with ⟨k1, _⟩ | ⟨k1, k2, k3, k4⟩
        · omega
        · have hk := cand_iff.1 k3
          rw [sweep_later hg hn ha.2 (by omega) fun x hx => by have := ha.1 x hx; omega]
theorem filter_all {α : Type} {P : α → Bool} : ∀ {l : List α}, (∀ a ∈ l, P a = true) → l.filter P = l := fun h => List.filter_eq_self.2 h
theorem sweep_took {gap n : Int} {lo : List Int} : ∀ {ws : List Int}, Asc ws → (∀ w ∈ ws, 0 ≤ w) → (∀ w ∈ ws, n ≤ w + gap) → sweepF gap n lo n ws = sweepF gap n lo (-1) (ws.filter fun w => !inW gap w n)
  | [], _, _, _ => rfl
  | w :: ws, ha, h0, hw => by
    rw [Asc, List.pairwise_cons] at ha
    have hw0 := h0 w List.mem_cons_self
    have hwn := hw w List.mem_cons_self
    by_cases hi : inW gap w n = true
    · rw [List.filter_cons_of_neg (by simp [hi])]
      simp only [sweepF, hi, if_true]
      exact sweep_took ha.2 (fun x hx => h0 x (List.mem_cons_of_mem _ hx)) fun x hx => hw x (List.mem_cons_of_mem _ hx)
    · have h1 : ¬ (w + 1 ≤ n ∧ n ≤ w + gap) := fun h => hi (inW_iff.2 h)
      have h2 : ¬ (inW gap w (-1) = true) := fun h => by have := inW_iff.1 h; omega
      rw [List.filter_cons_of_pos (by simp [hi]), filter_all (fun x hx => by
        have := ha.1 x hx
        rw [Bool.not_eq_true', ← Bool.not_eq_true, inW_iff]; omega)]
      simp only [sweepF, hi, h2, if_false, Bool.false_eq_true]
theorem wins_app (s : Stp) (out : List Int) (n : Int) : wins s (out ++ [n]) = (wins s out).filter fun w => !inW s.gap w n := by
  unfold wins
  rw [List.filter_filter]
  apply List.filter_congr
  intro w _
  rw [hasW_app, hasW_one]
  cases hasW s.gap w s.fl <;> cases hasW s.gap w out <;> cases inW s.gap w n <;> rfl
/-- With some lines, and further ones after one, m lines are enough. -/
def Feas (s : Stp) (m : Nat) (out : List Int) (after : Int) : Prop := ∃ r, sweepF s.gap after s.lo (-1) (wins s out) = some r ∧ out.length + r.length ≤ m
theorem feas_step {s : Stp} {m : Nat} {out pre post : List Int} {after n : Int} (hg : Good s.lo) (h0 : 0 ≤ s.fr) (hlo : s.lo = pre ++ n :: post) (h1 : ∀ x ∈ pre, x ≤ after) (h2 : after < n) (hf : Feas s m out after) : Feas s m (out ++ [n]) n ∨ Feas s m out n := by
  obtain ⟨r, hr, hm⟩ := hf
  have hpost : ∀ x ∈ post, n < x := by
    have := hg.1
    rw [hlo, Asc, List.pairwise_append, List.pairwise_cons] at this
    exact this.2.1.1
  have ha := wins_asc s out
  have hw0 : ∀ w ∈ wins s out, 0 ≤ w := fun w hw => by have := (wins_mem.1 hw).1; omega
  have happ := wins_app s out n
  unfold Feas
  rw [happ]
  generalize wins s out = ws at *
  cases ws with
  | nil =>
    simp only [sweepF, Option.some.injEq] at hr
    subst hr
    exact .inr ⟨[], rfl, hm⟩
  | cons w ws =>
    rw [Asc, List.pairwise_cons] at ha
    have hwp := hw0 w List.mem_cons_self
    have hne : ¬ (inW s.gap w (-1) = true) := fun h => by have := inW_iff.1 h; omega
    simp only [sweepF, hne, Bool.false_eq_true, if_false] at hr
    split at hr
    · cases hr
    · rename_i hp
      rw [Option.map_eq_some_iff] at hr
      obtain ⟨r1, hr1, rfl⟩ := hr
      rcases pick_spec (gap := s.gap) (after := after) (w := w) hg with ⟨k1, _⟩ | ⟨k1, k2, k3, k4⟩
      · omega
      · have hk := cand_iff.1 k3
        generalize lastIn (cand s.gap after w) s.lo (-1) = p at *
        by_cases hpn : p = n
        · subst hpn
          left
          refine ⟨r1, ?_, by simp at hm ⊢; omega⟩
          rw [List.filter_cons_of_neg (by simp [inW_iff]; omega), ← sweep_took ha.2 (fun x hx => hw0 x (List.mem_cons_of_mem _ hx)) (fun x hx => by have := ha.1 x hx; omega), ← hr1]
          exact (sweep_later hg (by omega) ha.2 (Int.le_refl _) fun x hx => by have := ha.1 x hx; omega).symm
        · right
          have hpn' : n < p := by
            rw [hlo] at k1
            rcases List.mem_append.1 k1 with h | h
            · have := h1 p h; omega
            · rcases List.mem_cons.1 h with h | h
              · exact absurd h hpn
              · exact hpost p h
          have hlast : lastIn (cand s.gap n w) s.lo (-1) = p := by
            rcases pick_spec (gap := s.gap) (after := n) (w := w) hg with ⟨_, j2⟩ | ⟨j1, j2, j3, j4⟩
            · have := j2 p k1
              rw [← Bool.not_eq_true, cand_iff] at this
              omega
            · have a1 := j4 p k1 (cand_iff.2 ⟨hpn', hk.2⟩)
              have a2 := k4 _ j1 (cand_iff.2 ⟨by have := (cand_iff.1 j3).1; omega, (cand_iff.1 j3).2⟩)
              omega
          refine ⟨w :: r1, ?_, hm⟩
          simp only [sweepF, hne, Bool.false_eq_true, if_false, hlast]
          have hl := sweep_later (gap := s.gap) (after := after) (n := n) (ws := ws) (t := p) hg (by omega) ha.2 (by omega) fun x hx => by have := ha.1 x hx; omega
          rw [if_neg (by omega), ← hl, hr1]
          rfl
theorem sweep_nil {gap after : Int} {lo ws : List Int} (h0 : ∀ w ∈ ws, 0 ≤ w) (h : sweepF gap after lo (-1) ws = some []) : ws = [] := by
  cases ws with
  | nil => rfl
  | cons w ws =>
    have hwp := h0 w List.mem_cons_self
    have hne : ¬ (inW gap w (-1) = true) := fun h => by have := inW_iff.1 h; omega
    simp only [sweepF, hne, Bool.false_eq_true, if_false] at h
    split at h
    · cases h
    · rw [Option.map_eq_some_iff] at h
      obtain ⟨r, _, h⟩ := h
      cases h
theorem infF_ok {s : Stp} {m : Nat} (hg : Good s.lo) (h0 : 0 ≤ s.fr) : ∀ (ns pre out : List Int) (after : Int), s.lo = pre ++ ns → (∀ x ∈ pre, x ≤ after) → (∀ x ∈ ns, after < x) → Feas s m out after →
    (infF s m ns out).length ≤ m ∧ wins s (infF s m ns out) = [] ∧ ∃ l, infF s m ns out = out ++ l ∧ l.Sublist ns := by
  have hw0 : ∀ out, ∀ w ∈ wins s out, 0 ≤ w := fun out w hw => by have := (wins_mem.1 hw).1; omega
  intro ns
  induction ns with
  | nil =>
    intro pre out after hlo h1 h2 ⟨r, hr, hm⟩
    simp only [infF]
    refine ⟨by omega, ?_, [], by simp, .slnil⟩
    cases hws : wins s out with
    | nil => rfl
    | cons w ws =>
      have hwp := hw0 out w (by rw [hws]; exact List.mem_cons_self)
      have hne : ¬ (inW s.gap w (-1) = true) := fun h => by have := inW_iff.1 h; omega
      rw [hws] at hr
      simp only [sweepF, hne, Bool.false_eq_true, if_false] at hr
      rw [lastIn_none (fun n hn => ?_), if_pos (by omega)] at hr
      · cases hr
      · rw [hlo, List.append_nil] at hn
        have := h1 n hn
        rw [← Bool.not_eq_true, cand_iff]; omega
  | cons n ns ih =>
    intro pre out after hlo h1 h2 hf
    have hn := h2 n List.mem_cons_self
    have hns : ∀ x ∈ ns, n < x := by
      have := hg.1
      rw [hlo, Asc, List.pairwise_append, List.pairwise_cons] at this
      exact this.2.1.1
    have hpre : ∀ x ∈ pre ++ [n], x ≤ n := fun x hx => by
      rcases List.mem_append.1 hx with hx | hx
      · have := h1 x hx; omega
      · have : x = n := by simpa using hx
        omega
    have hlo' : s.lo = (pre ++ [n]) ++ ns := by rw [hlo]; simp
    have hstep := feas_step hg h0 hlo h1 hn hf
    simp only [infF]
    by_cases hlen : out.length = m
    · rw [if_pos hlen]
      obtain ⟨r, hr, hm⟩ := hf
      have hr0 : r = [] := List.length_eq_zero_iff.1 (by omega)
      subst hr0
      exact ⟨by omega, sweep_nil (hw0 out) hr, [], by simp, List.nil_sublist _⟩
    · rw [if_neg hlen]
      have goOn : Feas s m (out ++ [n]) n → (infF s m ns (out ++ [n])).length ≤ m ∧ wins s (infF s m ns (out ++ [n])) = [] ∧ ∃ l, infF s m ns (out ++ [n]) = out ++ l ∧ l.Sublist (n :: ns) := fun hf => by
        obtain ⟨a1, a2, l, a3, a4⟩ := ih (pre ++ [n]) (out ++ [n]) n hlo' hpre hns hf
        exact ⟨a1, a2, n :: l, by rw [a3]; simp, a4.cons_cons n⟩
      have leave : Feas s m out n → (infF s m ns out).length ≤ m ∧ wins s (infF s m ns out) = [] ∧ ∃ l, infF s m ns out = out ++ l ∧ l.Sublist (n :: ns) := fun hf => by
        obtain ⟨a1, a2, l, a3, a4⟩ := ih (pre ++ [n]) out n hlo' hpre hns hf
        exact ⟨a1, a2, l, a3, a4.cons n⟩
      cases hr : sweepF s.gap n s.lo (-1) (wins s (out ++ [n])) with
      | none =>
        simp only
        refine leave (hstep.resolve_left fun hf => ?_)
        obtain ⟨r, h3, _⟩ := hf
        rw [hr] at h3; cases h3
      | some r =>
        simp only
        by_cases hle : out.length + 1 + r.length ≤ m
        · rw [if_pos hle]
          exact goOn ⟨r, hr, by simp; omega⟩
        · rw [if_neg hle]
          refine leave (hstep.resolve_left fun hf => ?_)
          obtain ⟨r', h3, h4⟩ := hf
          rw [hr] at h3; cases h3
          simp at h4; omega
theorem sweep_none {gap after : Int} {lo : List Int} (hg : Good lo) : ∀ {ws : List Int} {t : Int}, sweepF gap after lo t ws = none → ∃ w ∈ ws, ∀ n ∈ lo, cand gap after w n = false
  | [], t, h => by simp [sweepF] at h
  | w :: ws, t, h => by
    simp only [sweepF] at h
    split at h
    · obtain ⟨x, hx, h1⟩ := sweep_none hg h
      exact ⟨x, List.mem_cons_of_mem _ hx, h1⟩
    · split at h
      · rename_i hp
        rcases pick_spec (gap := gap) (after := after) (w := w) hg with ⟨_, k2⟩ | ⟨_, k2, _⟩
        · exact ⟨w, List.mem_cons_self, k2⟩
        · omega
      · rw [Option.map_eq_none_iff] at h
        obtain ⟨x, hx, h1⟩ := sweep_none hg h
        exact ⟨x, List.mem_cons_of_mem _ hx, h1⟩
/-- The infill and the packing: both are accepted, and have the same number. -/
theorem infill_ok {s : Stp} {p : List Int} (hg : Good s.lo) (h0 : 0 ≤ s.fr) (h : packF s = some p) : InfOk s (infF s p.length s.lo []) ∧ (infF s p.length s.lo []).length = p.length ∧ PackOk s p ∧ (infF s p.length s.lo []).Sublist s.lo := by
  have hp := pack_ok hg h0 h
  obtain ⟨a1, a2, l, a3, a4⟩ := infF_ok (m := p.length) hg h0 s.lo [] [] (-1) rfl (fun x hx => by cases hx) (fun x hx => by have := hg.2 x hx; omega) ⟨p, h, by simp⟩
  rw [List.nil_append] at a3
  rw [← a3] at a4
  have hok : InfOk s (infF s p.length s.lo []) := ⟨fun n hn => a4.subset hn, hg.1.sublist a4, a2⟩
  exact ⟨hok, Nat.le_antisymm a1 (dual hok hp), hp, a4⟩
/-- Without an infill even all lost lines are none. -/
theorem no_infill {s : Stp} (hg : Good s.lo) (h : packF s = none) {l : List Int} (hl : ∀ n ∈ l, n ∈ s.lo) : wins s l ≠ [] := by
  obtain ⟨w, hw, h1⟩ := sweep_none hg h
  obtain ⟨k1, k2, _⟩ := wins_mem.1 hw
  intro he
  obtain ⟨n, hn, j1, j2⟩ := hasW_iff.1 (covered he ⟨k1, k2⟩)
  have := h1 n (hl n hn)
  rw [← Bool.not_eq_true, cand_iff] at this
  have := hg.2 n (hl n hn)
  omega
end Go.Proofs.Ytgjpdjihjphbdaa
