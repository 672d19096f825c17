/- Wider rules give no further reasons (no program). -/
import Derived.Test.YtgjpdjihjphbdaaFix5
namespace Go.Proofs.Ytgjpdjihjphbdaa

theorem upN_mono {o o' : Nat → Bool} (h : ∀ i, o' i = true → o i = true) : ∀ i, upN o' i ≤ upN o i
  | 0 => by
    simp only [upN]
    by_cases h1 : o' 0 = true
    · rw [if_pos h1, if_pos (h 0 h1)]; exact Nat.le_refl _
    · rw [if_neg h1]; omega
  | i + 1 => by
    simp only [upN]
    by_cases h1 : o' (i + 1) = true
    · rw [if_pos h1, if_pos (h _ h1)]
      have := upN_mono h i
      omega
    · rw [if_neg h1]; omega
theorem dnN_mono {o o' : Nat → Bool} (h : ∀ i, o' i = true → o i = true) : ∀ f i, dnN o' f i ≤ dnN o f i
  | 0, _ => Nat.le_refl _
  | f + 1, i => by
    simp only [dnN]
    by_cases h1 : o' (i + 1) = true
    · rw [if_pos h1, if_pos (h _ h1)]
      have := dnN_mono h f (i + 1)
      omega
    · rw [if_neg h1]; omega
theorem runR_mono {o o' : Nat → Bool} (h : ∀ i, o' i = true → o i = true) (n i : Nat) : runR o' n i ≤ runR o n i := by
  unfold runR
  by_cases h1 : o' i = true
  · rw [if_pos h1, if_pos (h i h1)]
    have := upN_mono h i
    have := dnN_mono h (n - 1 - i) i
    omega
  · rw [if_neg h1]; omega
theorem offB_mono {d : Int} {f : Fx} (h : offB (d + 1) f = true) : offB d f = true := by
  unfold offB inB at *
  simp at h ⊢
  omega
theorem offA_mono {d : Int} {fs : List Fx} (i : Nat) (h : offA (d + 1) fs i = true) : offA d fs i = true := by
  unfold offA at *
  cases hf : fs[i]? with
  | none => rw [hf] at h; cases h
  | some f => rw [hf] at h; exact offB_mono h
/-- Rules one wider on every side. -/
def wideU (r : Ru) : Ru := ⟨r.drift + 1, r.over + 1, mx 0 (r.low - 1), r.high + 1, r.noise + 1⟩
theorem reason_wide {r : Ru} {fs : List Fx} {i : Nat} (hr : rulesE r = 0) (h : reasonOf r fs i = 0) : reasonOf (wideU r) fs i = 0 := by
  obtain ⟨_, _, h3, _⟩ := rulesE_ok hr
  unfold reasonOf at *
  cases hf : fs[i]? with
  | none => rfl
  | some f =>
    rw [hf] at h
    simp only at h ⊢
    have hm := runR_mono (o := offA r.drift fs) (o' := offA (r.drift + 1) fs) (fun j => offA_mono j) fs.length i
    have hmx := mx_eq 0 (r.low - 1)
    have w1 : (wideU r).low = mx 0 (r.low - 1) := rfl
    have w2 : (wideU r).high = r.high + 1 := rfl
    have w3 : (wideU r).noise = r.noise + 1 := rfl
    have w4 : (wideU r).over = r.over + 1 := rfl
    have w5 : (wideU r).drift = r.drift + 1 := rfl
    rw [w5]
    split at h
    · omega
    · split at h
      · omega
      · split at h
        · omega
        · split at h
          · omega
          · rw [if_neg (by omega), if_neg (by omega), if_neg (by omega), if_neg (by omega)]
theorem reasons_at {r : Ru} {fs : List Fx} {i : Nat} (h : i < fs.length) : (reasonsL r fs)[i]? = some (reasonOf r fs i) := rng_get _ h
theorem fixE_wide {r : Ru} {fs : List Fx} (h : fixE r fs = 0) (hw : rulesE (wideU r) = 0) : fixE (wideU r) fs = 0 := by
  obtain ⟨_, h2⟩ := fixE_ok h
  unfold fixE
  rw [hw, h2]; rfl
/-- What covers a fix. -/
def covers (i : Nat) (p : Int × Int) : Bool := inB (i : Int) p.1 p.2
theorem spoilt_any {r : Ru} {fs : List Fx} {i : Nat} (h : i < fs.length) : (spoilt r fs).any (covers i) = !decide (reasonOf r fs i = 0) := by
  have hs := (spoilt_iff (reasonsL r fs)).2 i (by simpa [reasonsL] using h)
  have hg : (reasonsL r fs).getD i 0 = reasonOf r fs i := by
    rw [List.getD_eq_getElem?_getD, reasons_at h]; rfl
  rw [hg] at hs
  by_cases h0 : reasonOf r fs i = 0
  · rw [decide_eq_true h0]
    rw [List.any_eq_false.2]
    · rfl
    · intro p hp hc
      have := inB_out hc
      exact hs.1 ⟨p, hp, this.1, this.2⟩ h0
  · rw [decide_eq_false h0]
    obtain ⟨p, hp, h1, h2⟩ := hs.2 h0
    rw [show (spoilt r fs).any (covers i) = true from List.any_eq_true.2 ⟨p, hp, by simp [covers, inB, h1, h2]⟩]
    rfl
theorem spStep_len (acc : List (Int × Int)) (i : Nat) (x : Int) : (spStep acc i x).length ≤ acc.length + 1 := by
  unfold spStep
  split
  · omega
  · split
    · split
      · simp
      · simp
    · simp
theorem spoiltF_len : ∀ (xs : List Int) (i : Nat) (acc : List (Int × Int)), (spoiltF acc i xs).length ≤ acc.length + xs.length
  | [], i, acc => by simp [spoiltF]
  | x :: xs, i, acc => by
    have h1 := spoiltF_len xs (i + 1) (spStep acc i x)
    have h2 := spStep_len acc i x
    simp only [spoiltF, List.length_cons]
    omega
theorem spoilt_len (r : Ru) (fs : List Fx) : (spoilt r fs).length ≤ fs.length := by
  have := spoiltF_len (reasonsL r fs) 0 []
  simpa [reasonsL, spoilt] using this
end Go.Proofs.Ytgjpdjihjphbdaa
