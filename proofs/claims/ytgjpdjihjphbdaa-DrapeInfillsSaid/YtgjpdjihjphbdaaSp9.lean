/- Contracts of the reference: windows that hold a line, infills, how few further lines. -/
import Derived.Test.YtgjpdjihjphbdaaSp8
namespace Go.Proofs.Ytgjpdjihjphbdaa
open Go.RowKit

theorem mf_holds : MT.mf 140 = some ⟨25, [(.tmp 6)], (.seq (.reg [⟨none, (some 3), (.box 5 (.s 0))⟩, ⟨none, (some 6), (.mv (.c (.lit (.bool false))))⟩]) (.seq (.seq (.reg [⟨none, (some 7), (.mv (.c (.lit (.int .i64 0))))⟩]) (.block 0 (.loop [7, 2, 1, 3] (.seq (.seq (.reg [⟨none, (some 8), (.mv (.s 7))⟩, ⟨none, (some 9), (.mv (.s 2))⟩, ⟨none, (some 10), (.len (.s 9))⟩, ⟨none, (some 11), (.bin .lss (.s 8) (.s 10))⟩]) (.cond (.s 11) .skip (.exit 0))) (.seq (.block 1 (.seq (.reg [⟨none, (some 14), (.mv (.s 2))⟩, ⟨none, (some 15), (.mv (.s 7))⟩, ⟨none, (some 16), (.ia 1 (.s 14) (.s 15))⟩, ⟨none, (some 17), (.ld none (.s 16))⟩, ⟨none, (some 18), (.mv (.s 1))⟩, ⟨none, (some 19), (.bin .add (.s 18) (.c (.lit (.int .i64 1))))⟩, ⟨none, (some 20), (.mv (.s 1))⟩, ⟨none, (some 21), (.fa 2 (.s 3))⟩, ⟨none, (some 22), (.ld none (.s 21))⟩, ⟨none, (some 23), (.bin .add (.s 20) (.s 22))⟩, ⟨none, (some 24), (.call 22 [(.s 17), (.s 19), (.s 23)])⟩]) (.cond (.s 24) (.seq (.reg [⟨none, (some 6), (.mv (.c (.lit (.bool true))))⟩]) .ret) .skip))) (.reg [⟨none, (some 12), (.mv (.s 7))⟩, ⟨none, (some 13), (.bin .add (.s 12) (.c (.lit (.int .i64 1))))⟩, ⟨none, (some 7), (.mv (.s 13))⟩])))))) (.seq (.reg [⟨none, (some 6), (.mv (.c (.lit (.bool false))))⟩]) .ret)))⟩ := by kernel_rfl
theorem rholds_c (k : Nat) (a b c w : Int) (fl lo l : List Int) (h : MHeap) {v : MV} {t : Bool} (hw : -1000000 ≤ w ∧ w ≤ 1000000) (hc : 0 ≤ c ∧ c ≤ 1000000) (hl : l.length ≤ 100000) (hv : frz 0 [] h 8 v = some (.sl (l.map I64))) (ht : hasW c w l = t) : orA (k + 2) 140 [encS a b c fl lo, I64 w, v] h = some (Bo t, h) := by
  refine callL (args' := [encS a b c fl lo, I64 w, .sl (l.map I64)]) (by rw [List.mapM_cons, frz_lt (encS_lt a b c fl lo)]; simp [List.mapM_cons, hv]; simp [frz, MV.lt]) rfl (runZ_of mf_holds (by simp) ?_)
  simp only [argsL]
  have hsl : (MV.sl (l.map I64)).slen = some l.length := by simp [MV.slen]
  subst ht
  repeat (first | apply ef_seq | (apply ef_mv; exact rfl; exact rfl) | (apply ef_box; exact rfl; exact rfl; exact rfl; exact rfl) | apply ef_nil | apply seqQ.normal | apply ef_block)
  refine ef_loopf (α := Nat) (fun i => i ≤ l.length ∧ hasW c w l = hasW c w (l.drop i)) (fun i => [(7, I64 (i : Int))]) [(2, _), (1, _), (3, _)] (fun _ => _) (fun i => l.length - i) 0 [7] (fun _ => rfl) (by ((repeat (refine Hold.cons (by exact rfl) ?_)); exact Hold.nil)) (by ((repeat (refine Hold.cons (by exact rfl) ?_)); exact Hold.nil)) rfl rfl ⟨by omega, rfl⟩ (by simp; omega) ?_
  rintro i ⟨hi, hz⟩
  by_cases hlt : i < l.length
  · have e1 := at_map I64 l i hlt
    have HD := Lib.hid (drop_at l i hlt)
    have HZ := Lib.hid hz
    clear hz
    generalize l[i] = n at e1 HD
    cases h1 : inB n (w + 1) (w + c)
    · have HW := Lib.hid (show hasW c w (n :: l.drop (i + 1)) = hasW c w (l.drop (i + 1)) by simp [hasW, inW, h1])
      repeat (first | apply ef_seq | (apply ef_mv; exact rfl; exact rfl) | (apply ef_bin; exact rfl; exact rfl; exact rfl; (first | exact cmp_t rfl (by first | exact rfl | (simp only [cmpP]; omega)) | ((with_reducible refine bin_add (wrap_of ?_ ?_)) <;> omega))) | (apply ef_len; exact rfl; exact rfl; (assumption)) | (apply ef_ldr; exact rfl; exact rfl; (exact rfl)) | (apply ef_ldp; exact rfl; exact rfl; exact rfl; exact rfl; (exact rfl); (exact rfl)) | (apply ef_ias; exact rfl; exact rfl; exact rfl; (omega); assumption; exact rfl) | (apply ef_fap; exact rfl; exact rfl) | apply ef_nil | apply seqQ.normal | apply blockQ.normal | apply ef_block | apply ef_skip | (apply ef_condt; exact rfl; (exact (rfl : true = true))) | (apply ef_condf; exact rfl; (exact (rfl : false = false))) | (apply ef_call; exact rfl; ((repeat (apply XVs.cons; exact rfl)); exact XVs.nil); (with_reducible exact Within_c _ _ _ _ _ (by assumption))))
      (refine loopQ.normal _ _ ⟨i + 1, ⟨hlt, by rw [HZ.out, HD.out, HW.out]⟩, (by first | (simp only; omega) | omega), ⟨by ((repeat (refine Hold.cons (by exact rfl) ?_)); exact Hold.nil), by ((repeat (refine Hold.cons (by exact rfl) ?_)); exact Hold.nil)⟩, .inl (Nat.le_refl _), (by first | exact List.take_length | exact rfl | exact takeF rfl rfl)⟩)
    · have HW := Lib.hid (show hasW c w (n :: l.drop (i + 1)) = true by simp [hasW, inW, h1])
      repeat (first | apply ef_seq | (apply ef_mv; exact rfl; exact rfl) | (apply ef_bin; exact rfl; exact rfl; exact rfl; (first | exact cmp_t rfl (by first | exact rfl | (simp only [cmpP]; omega)) | ((with_reducible refine bin_add (wrap_of ?_ ?_)) <;> omega))) | (apply ef_len; exact rfl; exact rfl; (assumption)) | (apply ef_ldr; exact rfl; exact rfl; (exact rfl)) | (apply ef_ldp; exact rfl; exact rfl; exact rfl; exact rfl; (exact rfl); (exact rfl)) | (apply ef_ias; exact rfl; exact rfl; exact rfl; (omega); assumption; exact rfl) | (apply ef_fap; exact rfl; exact rfl) | apply ef_nil | apply seqQ.normal | apply loopQ.ret | apply ef_ret | apply seqQ.ret | apply blockQ.ret | apply ef_block | apply ef_skip | (apply ef_condt; exact rfl; (exact (rfl : true = true))) | (apply ef_call; exact rfl; ((repeat (apply XVs.cons; exact rfl)); exact XVs.nil); (with_reducible exact Within_c _ _ _ _ _ (by assumption))))
      (refine fin1 rfl (by exact rfl) rfl ?_)
      rw [HZ.out, HD.out, HW.out]
  · repeat (first | apply ef_seq | (apply ef_mv; exact rfl; exact rfl) | (apply ef_bin; exact rfl; exact rfl; exact rfl; (exact cmp_f rfl (by simp only [cmpP]; omega))) | (apply ef_len; exact rfl; exact rfl; (assumption)) | apply ef_nil | apply seqQ.normal | apply loopQ.exit | apply ef_ret | apply ef_exit | apply seqQ.exit | apply blockQ.here | (apply ef_condf; exact rfl; (exact (rfl : false = false))))
    (refine fin1 rfl (by exact rfl) rfl ?_)
    rw [hz, List.drop_eq_nil_of_le (by omega)]; rfl

theorem filter_empty {α : Type} (p q : α → Bool) (h : ∀ x, q x = !p x) : ∀ l : List α, (l.filter p).isEmpty = l.all q
  | [] => rfl
  | x :: l => by
    have hx := h x
    have ih := filter_empty p q h l
    cases hp : p x
    · rw [List.filter_cons_of_neg (by simp [hp]), List.all_cons, hx, hp, ih]; rfl
    · rw [List.filter_cons_of_pos hp, List.all_cons, hx, hp]; rfl
theorem wins_all (s : Stp) (l : List Int) : (wins s l).isEmpty = (rngs s).all fun w => hasW s.gap w s.fl || hasW s.gap w l :=
  filter_empty _ _ (fun x => by cases hasW s.gap x s.fl <;> cases hasW s.gap x l <;> rfl) _
theorem rngI_drop : ∀ {k i : Nat} {a : Int}, i < k → (rngI a k).drop i = (a + i) :: (rngI a k).drop (i + 1)
  | k + 1, 0, a, _ => by simp [rngI]
  | k + 1, i + 1, a, h => by
    simp only [rngI, List.drop_succ_cons]
    rw [rngI_drop (k := k) (i := i) (by omega)]
    congr 1; omega
theorem mf_IsInfill : MT.mf 139 = some ⟨30, [(.tmp 4)], (.seq (.reg [⟨none, (some 2), (.box 5 (.s 0))⟩, ⟨none, (some 4), (.mv (.c (.lit (.bool false))))⟩]) (.seq (.seq (.reg [⟨none, (some 6), (.fa 0 (.s 2))⟩, ⟨none, (some 7), (.ld none (.s 6))⟩, ⟨none, (some 5), (.mv (.s 7))⟩]) (.block 0 (.loop [5, 2, 1] (.seq (.seq (.reg [⟨none, (some 8), (.mv (.s 5))⟩, ⟨none, (some 9), (.fa 2 (.s 2))⟩, ⟨none, (some 10), (.ld none (.s 9))⟩, ⟨none, (some 11), (.bin .add (.s 8) (.s 10))⟩, ⟨none, (some 12), (.fa 1 (.s 2))⟩, ⟨none, (some 13), (.ld none (.s 12))⟩, ⟨none, (some 14), (.bin .lss (.s 11) (.s 13))⟩]) (.cond (.s 14) .skip (.exit 0))) (.seq (.block 1 (.seq (.reg [⟨none, (some 17), (.ld (some 5) (.s 2))⟩, ⟨none, (some 18), (.mv (.s 5))⟩, ⟨none, (some 19), (.fa 3 (.s 2))⟩, ⟨none, (some 20), (.ld none (.s 19))⟩, ⟨none, (some 21), (.call 140 [(.s 17), (.s 18), (.s 20)])⟩, ⟨none, (some 22), (.un .not (.s 21))⟩, ⟨none, (some 23), (.mv (.s 22))⟩, ⟨(some (23, true)), (some 24), (.ld (some 5) (.s 2))⟩, ⟨(some (23, true)), (some 25), (.mv (.s 5))⟩, ⟨(some (23, true)), (some 26), (.mv (.s 1))⟩, ⟨(some (23, true)), (some 27), (.call 140 [(.s 24), (.s 25), (.s 26)])⟩, ⟨(some (23, true)), (some 28), (.un .not (.s 27))⟩, ⟨none, (some 29), (.pick (.s 23) (.s 28) (.c (.lit (.bool false))))⟩]) (.cond (.s 29) (.seq (.reg [⟨none, (some 4), (.mv (.c (.lit (.bool false))))⟩]) .ret) .skip))) (.reg [⟨none, (some 15), (.mv (.s 5))⟩, ⟨none, (some 16), (.bin .add (.s 15) (.c (.lit (.int .i64 1))))⟩, ⟨none, (some 5), (.mv (.s 16))⟩])))))) (.seq (.reg [⟨none, (some 4), (.mv (.c (.lit (.bool true))))⟩]) .ret)))⟩ := by kernel_rfl
theorem rIsInfill_c (k : Nat) (a b c : Int) (fl lo l : List Int) (h : MHeap) {v : MV} {t : Bool} (ha : 0 ≤ a ∧ a ≤ 1000) (hb : 0 ≤ b ∧ b ≤ 1000) (hc : 0 ≤ c ∧ c ≤ 1000) (hf : fl.length ≤ 100000) (hl : l.length ≤ 100000) (hv : frz 0 [] h 8 v = some (.sl (l.map I64))) (ht : (wins ⟨a, b, c, fl, lo⟩ l).isEmpty = t) : orA (k + 3) 139 [encS a b c fl lo, v] h = some (Bo t, h) := by
  refine callL (args' := [encS a b c fl lo, .sl (l.map I64)]) (by rw [List.mapM_cons, frz_lt (encS_lt a b c fl lo)]; simp [List.mapM_cons, hv]) rfl (runZ_of mf_IsInfill (by simp) ?_)
  simp only [argsL]
  obtain ⟨K, hK⟩ : ∃ K, (b - c - a).toNat = K := ⟨_, rfl⟩
  have HT := Lib.hid (show t = (rngI a K).all fun w => hasW c w fl || hasW c w l by rw [← ht, wins_all, ← hK]; rfl)
  clear ht
  repeat (first | apply ef_seq | (apply ef_mv; exact rfl; exact rfl) | (apply ef_ldp; exact rfl; exact rfl; exact rfl; exact rfl; (exact rfl); (exact rfl)) | (apply ef_fap; exact rfl; exact rfl) | (apply ef_box; exact rfl; exact rfl; exact rfl; exact rfl) | apply ef_nil | apply seqQ.normal | apply ef_block)
  refine ef_loopf (α := Nat × Int) (fun s => s.1 ≤ K ∧ s.2 = a + (s.1 : Int) ∧ t = ((rngI a K).drop s.1).all fun w => hasW c w fl || hasW c w l) (fun s => [(5, I64 s.2)]) [(2, _), (1, _)] (fun _ => _) (fun s => K - s.1) (0, a) [5] (fun _ => rfl) (by ((repeat (refine Hold.cons (by exact rfl) ?_)); exact Hold.nil)) (by ((repeat (refine Hold.cons (by exact rfl) ?_)); exact Hold.nil)) rfl rfl ⟨by simp, by simp, HT.out⟩ (by simp only; omega) ?_
  rintro ⟨i, w⟩ ⟨hi, hwi, hz⟩
  simp only at hi hwi hz ⊢
  by_cases hlt : i < K
  · have HD := Lib.hid (rngI_drop (a := a) hlt)
    have HZ := Lib.hid hz
    clear hz
    have hwb : w + c < b := by omega
    rw [← hwi] at HD
    have hwi2 : w + 1 = a + ((i + 1 : Nat) : Int) := by omega
    have h1 := fun t ht h => rholds_c k a b c w fl lo fl h (v := .sl (fl.map I64)) (t := t) (by omega) (by omega) hf (frz_sl (ltL_I 0 fl)) ht
    have h2 := fun t ht h => rholds_c k a b c w fl lo l h (v := .sl (l.map I64)) (t := t) (by omega) (by omega) hl (frz_sl (ltL_I 0 l)) ht
    cases t1 : hasW c w fl
    · have h1 := h1 _ t1
      cases t2 : hasW c w l
      · have h2 := h2 _ t2
        repeat (first | apply ef_seq | (apply ef_mv; exact rfl; exact rfl) | (apply ef_bin; exact rfl; exact rfl; exact rfl; (first | exact cmp_t rfl (by first | exact rfl | (simp only [cmpP]; omega)) | ((with_reducible refine bin_add (wrap_of ?_ ?_)) <;> omega))) | (apply ef_gy; exact rfl; (exact (rfl : true = true))) | (apply ef_pick; exact rfl; exact rfl; exact rfl) | (apply ef_ldp; exact rfl; exact rfl; exact rfl; exact rfl; (exact rfl); (first | exact rd_5 rfl rfl rfl rfl rfl | exact rfl)) | (apply ef_fap; exact rfl; exact rfl) | (apply ef_notF; exact rfl; exact rfl) | apply ef_nil | apply seqQ.normal | apply loopQ.ret | apply ef_ret | apply seqQ.ret | apply blockQ.ret | apply ef_block | apply ef_skip | (apply ef_condt; exact rfl; (exact (rfl : true = true))) | (apply ef_call; exact rfl; ((repeat (apply XVs.cons; exact rfl)); exact XVs.nil); (with_reducible first | exact h1 _ | exact h2 _)))
        (refine fin1 rfl (by exact rfl) rfl ?_)
        rw [HZ.out, HD.out, List.all_cons, t1, t2]; rfl
      · have h2 := h2 _ t2
        repeat (first | apply ef_seq | (apply ef_mv; exact rfl; exact rfl) | (apply ef_bin; exact rfl; exact rfl; exact rfl; (first | exact cmp_t rfl (by first | exact rfl | (simp only [cmpP]; omega)) | ((with_reducible refine bin_add (wrap_of ?_ ?_)) <;> omega))) | (apply ef_gy; exact rfl; (exact (rfl : true = true))) | (apply ef_pick; exact rfl; exact rfl; exact rfl) | (apply ef_ldp; exact rfl; exact rfl; exact rfl; exact rfl; (exact rfl); (first | exact rd_5 rfl rfl rfl rfl rfl | exact rfl)) | (apply ef_fap; exact rfl; exact rfl) | (apply ef_notT; exact rfl; exact rfl) | (apply ef_notF; exact rfl; exact rfl) | apply ef_nil | apply seqQ.normal | apply blockQ.normal | apply ef_block | apply ef_skip | (apply ef_condt; exact rfl; (exact (rfl : true = true))) | (apply ef_condf; exact rfl; (exact (rfl : false = false))) | (apply ef_call; exact rfl; ((repeat (apply XVs.cons; exact rfl)); exact XVs.nil); (with_reducible first | exact h1 _ | exact h2 _)))
        (refine loopQ.normal _ _ ⟨(i + 1, w + 1), ⟨hlt, hwi2, by rw [HZ.out, HD.out, List.all_cons, t1, t2]; rfl⟩, (by first | (simp only; omega) | omega), ⟨by ((repeat (refine Hold.cons (by exact rfl) ?_)); exact Hold.nil), by ((repeat (refine Hold.cons (by exact rfl) ?_)); exact Hold.nil)⟩, .inl (Nat.le_refl _), (by first | exact List.take_length | exact rfl | exact takeF rfl rfl)⟩)
    · have h1 := h1 _ t1
      repeat (first | apply ef_seq | (apply ef_mv; exact rfl; exact rfl) | (apply ef_bin; exact rfl; exact rfl; exact rfl; (first | exact cmp_t rfl (by first | exact rfl | (simp only [cmpP]; omega)) | ((with_reducible refine bin_add (wrap_of ?_ ?_)) <;> omega))) | (apply ef_gn; exact rfl; (exact (rfl : false = false)); exact rfl) | (apply ef_pick; exact rfl; exact rfl; exact rfl) | (apply ef_ldp; exact rfl; exact rfl; exact rfl; exact rfl; (exact rfl); (first | exact rd_5 rfl rfl rfl rfl rfl | exact rfl)) | (apply ef_fap; exact rfl; exact rfl) | (apply ef_notT; exact rfl; exact rfl) | apply ef_nil | apply seqQ.normal | apply blockQ.normal | apply ef_block | apply ef_skip | (apply ef_condt; exact rfl; (exact (rfl : true = true))) | (apply ef_condf; exact rfl; (exact (rfl : false = false))) | (apply ef_call; exact rfl; ((repeat (apply XVs.cons; exact rfl)); exact XVs.nil); (with_reducible exact h1 _)))
      (refine loopQ.normal _ _ ⟨(i + 1, w + 1), ⟨hlt, hwi2, by rw [HZ.out, HD.out, List.all_cons, t1]; rfl⟩, (by first | (simp only; omega) | omega), ⟨by ((repeat (refine Hold.cons (by exact rfl) ?_)); exact Hold.nil), by ((repeat (refine Hold.cons (by exact rfl) ?_)); exact Hold.nil)⟩, .inl (Nat.le_refl _), (by first | exact List.take_length | exact rfl | exact takeF rfl rfl)⟩)
  · repeat (first | apply ef_seq | (apply ef_mv; exact rfl; exact rfl) | (apply ef_bin; exact rfl; exact rfl; exact rfl; (first | exact cmp_f rfl (by simp only [cmpP]; omega) | ((with_reducible refine bin_add (wrap_of ?_ ?_)) <;> omega))) | (apply ef_ldp; exact rfl; exact rfl; exact rfl; exact rfl; (exact rfl); (exact rfl)) | (apply ef_fap; exact rfl; exact rfl) | apply ef_nil | apply seqQ.normal | apply loopQ.exit | apply ef_ret | apply ef_exit | apply seqQ.exit | apply blockQ.here | (apply ef_condf; exact rfl; (exact (rfl : false = false))))
    (refine fin1 rfl (by exact rfl) rfl ?_)
    rw [hz, List.drop_eq_nil_of_le (by rw [rngI_len]; omega)]; rfl

theorem bCopyInts_s (k : Nat) (xs : List Int) (h : MHeap) {v w : MV} (hx : xs.length ≤ 1000000) (hv : frz 0 [] h 8 v = some w) (hw : SlI w xs) : orA (k + 1) 64 [v] h = some (.arr h.length 0 xs.length 0, h ++ [⟨0, false, 1, xs.map I64⟩]) := by
  cases hw with
  | sl l => exact bCopyInts_c k xs h hx hv
  | nil =>
    have hz : runZ MT (orA k) (itA k) 1000000 64 [.lit (.slice none 0 0)] [] = some (.arr 0 0 0 0, [⟨0, false, 1, []⟩]) := by
      refine runZ_of mf_CopyInts (by simp) ?_
      simp only [argsL]
      repeat (first | apply ef_seq | (apply ef_mv; exact rfl; exact rfl) | (apply ef_nil0; exact rfl) | (apply ef_bsl; exact rfl; (repeat (apply XVs.cons; exact rfl)); exact XVs.nil; exact rfl) | apply ef_nil | apply seqQ.normal)
      (apply ef_app0; (· exact rfl); (· exact rfl); (· exact rfl); (· exact rfl); (· exact rfl); (· exact rfl); (· exact rfl); (· exact rfl))
      repeat (first | (apply ef_mv; exact rfl; exact rfl) | apply ef_nil | apply seqQ.normal | apply ef_ret)
      (apply fin_arr; (· exact rfl); (· exact rfl); (· exact rfl); (· exact rfl); (· simp); (· exact rfl); (· exact rfl); (· exact rfl); (· exact rfl); (· exact rfl))
    have := callA (k := k) (args := [v]) (args' := [.lit (.slice none 0 0)]) (h := h) (by simp [List.mapM_cons, hv]) rfl hz rfl (by simp [okH, ltL, pureL])
    simpa [shV, sh1] using this

/-- What Fewest hands back. -/
def fewM : Option Nat → MV
  | some n => .tup [I64 (n : Int), Bo true]
  | none => .tup [I64 0, Bo false]
theorem mf_Fewest : MT.mf 141 = some ⟨71, [(.tmp 6), (.tmp 7)], (.seq (.reg [⟨none, (some 3), (.box 5 (.s 0))⟩, ⟨none, (some 6), (.mv (.c (.lit (.int .i64 0))))⟩, ⟨none, (some 7), (.mv (.c (.lit (.bool false))))⟩]) (.seq (.reg [⟨none, (some 13), (.mv (.s 1))⟩, ⟨none, (some 14), (.call 64 [(.s 13)])⟩, ⟨none, (some 8), (.mv (.s 14))⟩]) (.seq (.reg [⟨none, (some 9), (.mv (.c (.lit (.int .i64 0))))⟩]) (.seq (.seq (.reg [⟨none, (some 15), (.fa 0 (.s 3))⟩, ⟨none, (some 16), (.ld none (.s 15))⟩, ⟨none, (some 10), (.mv (.s 16))⟩]) (.block 0 (.loop [10, 3, 8, 2, 9] (.seq (.seq (.reg [⟨none, (some 17), (.mv (.s 10))⟩, ⟨none, (some 18), (.fa 2 (.s 3))⟩, ⟨none, (some 19), (.ld none (.s 18))⟩, ⟨none, (some 20), (.bin .add (.s 17) (.s 19))⟩, ⟨none, (some 21), (.fa 1 (.s 3))⟩, ⟨none, (some 22), (.ld none (.s 21))⟩, ⟨none, (some 23), (.bin .lss (.s 20) (.s 22))⟩]) (.cond (.s 23) .skip (.exit 0))) (.seq (.block 1 (.seq (.seq (.reg [⟨none, (some 26), (.ld (some 5) (.s 3))⟩, ⟨none, (some 27), (.mv (.s 10))⟩, ⟨none, (some 28), (.fa 3 (.s 3))⟩, ⟨none, (some 29), (.ld none (.s 28))⟩, ⟨none, (some 30), (.call 140 [(.s 26), (.s 27), (.s 29)])⟩, ⟨none, (some 31), (.mv (.s 30))⟩, ⟨(some (31, false)), (some 32), (.ld (some 5) (.s 3))⟩, ⟨(some (31, false)), (some 33), (.mv (.s 10))⟩, ⟨(some (31, false)), (some 34), (.mv (.s 8))⟩, ⟨(some (31, false)), (some 35), (.call 140 [(.s 32), (.s 33), (.s 34)])⟩, ⟨none, (some 36), (.pick (.s 31) (.c (.lit (.bool true))) (.s 35))⟩]) (.cond (.s 36) (.exit 1) .skip)) (.seq (.reg [⟨none, (some 11), (.mv (.c (.lit (.int .i64 (-1)))))⟩]) (.seq (.seq (.reg [⟨none, (some 37), (.mv (.s 2))⟩, ⟨none, (some 12), (.mv (.s 37))⟩]) (.block 2 (.loop [12, 3, 10, 8, 9, 2, 11] (.seq (.seq (.reg [⟨none, (some 38), (.mv (.s 12))⟩, ⟨none, (some 39), (.fa 4 (.s 3))⟩, ⟨none, (some 40), (.ld none (.s 39))⟩, ⟨none, (some 41), (.len (.s 40))⟩, ⟨none, (some 42), (.bin .lss (.s 38) (.s 41))⟩]) (.cond (.s 42) .skip (.exit 2))) (.seq (.block 3 (.seq (.reg [⟨none, (some 45), (.fa 4 (.s 3))⟩, ⟨none, (some 46), (.ld none (.s 45))⟩, ⟨none, (some 47), (.mv (.s 12))⟩, ⟨none, (some 48), (.ia 1 (.s 46) (.s 47))⟩, ⟨none, (some 49), (.ld none (.s 48))⟩, ⟨none, (some 50), (.mv (.s 10))⟩, ⟨none, (some 51), (.bin .add (.s 50) (.c (.lit (.int .i64 1))))⟩, ⟨none, (some 52), (.mv (.s 10))⟩, ⟨none, (some 53), (.fa 2 (.s 3))⟩, ⟨none, (some 54), (.ld none (.s 53))⟩, ⟨none, (some 55), (.bin .add (.s 52) (.s 54))⟩, ⟨none, (some 56), (.call 22 [(.s 49), (.s 51), (.s 55)])⟩]) (.cond (.s 56) (.reg [⟨none, (some 57), (.fa 4 (.s 3))⟩, ⟨none, (some 58), (.ld none (.s 57))⟩, ⟨none, (some 59), (.mv (.s 12))⟩, ⟨none, (some 60), (.ia 1 (.s 58) (.s 59))⟩, ⟨none, (some 61), (.ld none (.s 60))⟩, ⟨none, (some 11), (.mv (.s 61))⟩]) .skip))) (.reg [⟨none, (some 43), (.mv (.s 12))⟩, ⟨none, (some 44), (.bin .add (.s 43) (.c (.lit (.int .i64 1))))⟩, ⟨none, (some 12), (.mv (.s 44))⟩])))))) (.seq (.seq (.reg [⟨none, (some 62), (.mv (.s 11))⟩, ⟨none, (some 63), (.bin .lss (.s 62) (.c (.lit (.int .i64 0))))⟩]) (.cond (.s 63) (.seq (.reg [⟨none, (some 6), (.mv (.c (.lit (.int .i64 0))))⟩, ⟨none, (some 7), (.mv (.c (.lit (.bool false))))⟩]) .ret) .skip)) (.reg [⟨none, (some 64), (.mv (.s 8))⟩, ⟨none, (some 65), (.mv (.s 11))⟩, ⟨none, (some 66), (.bsl (.lit (.int .i64 0)) 1 1 [(0, (.s 65))])⟩, ⟨none, (some 67), (.app 1 (.s 64) (.s 66))⟩, ⟨none, (some 68), (.mv (.s 9))⟩, ⟨none, (some 69), (.bin .add (.s 68) (.c (.lit (.int .i64 1))))⟩, ⟨none, (some 8), (.mv (.s 67))⟩, ⟨none, (some 9), (.mv (.s 69))⟩])))))) (.reg [⟨none, (some 24), (.mv (.s 10))⟩, ⟨none, (some 25), (.bin .add (.s 24) (.c (.lit (.int .i64 1))))⟩, ⟨none, (some 10), (.mv (.s 25))⟩])))))) (.seq (.reg [⟨none, (some 70), (.mv (.s 9))⟩, ⟨none, (some 6), (.mv (.s 70))⟩, ⟨none, (some 7), (.mv (.c (.lit (.bool true))))⟩]) .ret)))))⟩ := by kernel_rfl
set_option maxHeartbeats 4000000 in
theorem rFewest_z (k : Nat) (a b c : Int) (fl lo wl : List Int) (from_ : Nat) {wv : MV} (ha : 0 ≤ a ∧ a ≤ 1000) (hb : 0 ≤ b ∧ b ≤ 1000) (hc : 0 ≤ c ∧ c ≤ 1000) (hf : fl.length ≤ 100000) (hl : lo.length ≤ 100000) (hwl : wl.length ≤ 10000) (hfr : from_ ≤ lo.length) (hwv : SlI wv wl) :
    runZ MT (orA (k + 2)) (itA (k + 2)) 1000000 141 [encS a b c fl lo, wv, I64 (from_ : Int)] [] = some (fewM (fewF c fl (lo.drop from_) wl (rngs ⟨a, b, c, fl, lo⟩)), []) := by
  have hcp := fun h => bCopyInts_s (k + 1) wl h (by omega) (hwv.frz h) hwv
  have hsl : (MV.sl (lo.map I64)).slen = some lo.length := by simp [MV.slen]
  obtain ⟨K, hK⟩ : ∃ K, (b - c - a).toNat = K := ⟨_, rfl⟩
  rw [show rngs ⟨a, b, c, fl, lo⟩ = rngI a K by rw [← hK]; rfl]
  refine runZ_of mf_Fewest (by simp) ?_
  simp only [argsL]
  repeat (first | apply ef_seq | (apply ef_mv; exact rfl; exact rfl) | (apply ef_ldp; exact rfl; exact rfl; exact rfl; exact rfl; (exact rfl); (exact rfl)) | (apply ef_fap; exact rfl; exact rfl) | (apply ef_box; exact rfl; exact rfl; exact rfl; exact rfl) | apply ef_nil | apply seqQ.normal | apply ef_block | (apply ef_call; exact rfl; ((repeat (apply XVs.cons; exact rfl)); exact XVs.nil); (with_reducible exact hcp _)))
  refine ef_loopf (α := Nat × Int × List Int × Nat × Nat × Nat) (fun s => s.1 ≤ K ∧ s.2.1 = a + (s.1 : Int) ∧ s.2.2.1.length = s.2.2.2.1 ∧ s.2.2.2.1 = wl.length + s.2.2.2.2.2 ∧ s.2.2.2.2.2 ≤ s.1 ∧ fewF c fl (lo.drop from_) wl (rngI a K) = (fewF c fl (lo.drop from_) s.2.2.1 ((rngI a K).drop s.1)).map (· + s.2.2.2.2.2))
    (fun s => [(10, I64 s.2.1), (8, .arr 1 0 s.2.2.2.1 s.2.2.2.2.1), (9, I64 (s.2.2.2.2.2 : Int))]) [(3, _), (2, _)] (fun s => [⟨0, false, 5, [encS a b c fl lo]⟩, ⟨s.2.2.2.2.1, false, 1, s.2.2.1.map I64⟩]) (fun s => K - s.1) (0, a, wl, wl.length, 0, 0) [10, 8, 9] (fun _ => rfl) (by ((repeat (refine Hold.cons (by exact rfl) ?_)); exact Hold.nil)) (by ((repeat (refine Hold.cons (by exact rfl) ?_)); exact Hold.nil)) rfl rfl ⟨by simp, by simp, rfl, by simp, by simp, by simp only [List.drop_zero]; generalize fewF c fl (lo.drop from_) wl (rngI a K) = o; cases o <;> rfl⟩ (by simp only; omega) ?_
  rintro ⟨i, w, own, m, g, n⟩ ⟨hi, hwi, hom, hmn, hni, hz⟩
  simp only at hi hwi hom hmn hni hz ⊢
  have HZ := Lib.hid hz
  clear hz
  by_cases hlt : i < K
  · have HD := Lib.hid (rngI_drop (a := a) hlt)
    rw [← hwi] at HD
    have hwb : w + c < b := by omega
    have hwi2 : w + 1 = a + ((i + 1 : Nat) : Int) := by omega
    have h1 := fun t ht h => rholds_c k a b c w fl lo fl h (v := .sl (fl.map I64)) (t := t) (by omega) (by omega) hf (frz_sl (ltL_I 0 fl)) ht
    have h2 := fun t ht => rholds_c k a b c w fl lo own [⟨0, false, 5, [encS a b c fl lo]⟩, ⟨g, false, 1, own.map I64⟩] (v := .arr 1 0 m g) (t := t) (by omega) (by omega) (by omega) (frz_arr (o := ⟨g, false, 1, own.map I64⟩) rfl rfl (by simp; omega) (ltL_I 0 own) (by rw [List.drop_zero, List.take_of_length_le (by simp; omega)])) ht
    cases t1 : hasW c w fl
    · have h1 := h1 _ t1
      cases t2 : hasW c w own
      · have h2 := h2 _ t2
        repeat (first | apply ef_seq | (apply ef_mv; exact rfl; exact rfl) | (apply ef_bin; exact rfl; exact rfl; exact rfl; (first | exact cmp_t rfl (by first | exact rfl | (simp only [cmpP]; omega)) | ((with_reducible refine bin_add (wrap_of ?_ ?_)) <;> omega))) | (apply ef_gy; exact rfl; (exact (rfl : false = false))) | (apply ef_pick; exact rfl; exact rfl; exact rfl) | (apply ef_ldp; exact rfl; exact rfl; exact rfl; exact rfl; (exact rfl); (first | exact rd_5 rfl rfl rfl rfl rfl | exact rfl)) | (apply ef_fap; exact rfl; exact rfl) | apply ef_nil | apply seqQ.normal | apply ef_block | apply ef_skip | (apply ef_condt; exact rfl; (exact (rfl : true = true))) | (apply ef_condf; exact rfl; (exact (rfl : false = false))) | (apply ef_call; exact rfl; ((repeat (apply XVs.cons; exact rfl)); exact XVs.nil); (with_reducible first | exact h1 _ | exact h2)))
        refine ef_loopf (α := Nat × Int) (fun s => s.1 ≤ lo.length ∧ lastIn (inW c w) (lo.drop from_) (-1) = lastIn (inW c w) (lo.drop s.1) s.2) (fun s => [(12, I64 (s.1 : Int)), (11, I64 s.2)]) [(3, _), (10, _), (8, _), (9, _), (2, _)] (fun _ => _) (fun s => lo.length - s.1) (from_, -1) [12, 11] (fun _ => rfl) (by ((repeat (refine Hold.cons (by exact rfl) ?_)); exact Hold.nil)) (by ((repeat (refine Hold.cons (by exact rfl) ?_)); exact Hold.nil)) rfl rfl ⟨hfr, rfl⟩ (by simp; omega) ?_
        rintro ⟨j, u⟩ ⟨hj, hu⟩
        simp only at hj hu ⊢
        by_cases hjl : j < lo.length
        · have e1 := at_map I64 lo j hjl
          have HU := Lib.hid (show lastIn (inW c w) (lo.drop from_) (-1) = lastIn (inW c w) (lo.drop (j + 1)) (if inW c w lo[j] then lo[j] else u) by rw [hu, drop_at lo j hjl]; rfl)
          clear hu
          generalize lo[j] = x at e1 HU
          cases tn : inB x (w + 1) (w + c)
          · repeat (first | apply ef_seq | (apply ef_mv; exact rfl; exact rfl) | (apply ef_bin; exact rfl; exact rfl; exact rfl; (first | exact cmp_t rfl (by first | exact rfl | (simp only [cmpP]; omega)) | ((with_reducible refine bin_add (wrap_of ?_ ?_)) <;> omega))) | (apply ef_len; exact rfl; exact rfl; (assumption)) | (apply ef_ldr; exact rfl; exact rfl; (exact rfl)) | (apply ef_ldp; exact rfl; exact rfl; exact rfl; exact rfl; (exact rfl); (exact rfl)) | (apply ef_ias; exact rfl; exact rfl; exact rfl; (omega); assumption; exact rfl) | (apply ef_fap; exact rfl; exact rfl) | apply ef_nil | apply seqQ.normal | apply blockQ.normal | apply ef_block | apply ef_skip | (apply ef_condt; exact rfl; (exact (rfl : true = true))) | (apply ef_condf; exact rfl; (exact (rfl : false = false))) | (apply ef_call; exact rfl; ((repeat (apply XVs.cons; exact rfl)); exact XVs.nil); (with_reducible exact Within_c _ _ _ _ _ (by assumption))))
            (refine loopQ.normal _ _ ⟨(j + 1, u), ⟨hjl, by rw [HU.out, inW, tn]; rfl⟩, (by first | (simp only; omega) | omega), ⟨by ((repeat (refine Hold.cons (by exact rfl) ?_)); exact Hold.nil), by ((repeat (refine Hold.cons (by exact rfl) ?_)); exact Hold.nil)⟩, .inl (Nat.le_refl _), (by first | exact List.take_length | exact rfl | exact takeF rfl rfl)⟩)
          · repeat (first | apply ef_seq | (apply ef_mv; exact rfl; exact rfl) | (apply ef_bin; exact rfl; exact rfl; exact rfl; (first | exact cmp_t rfl (by first | exact rfl | (simp only [cmpP]; omega)) | ((with_reducible refine bin_add (wrap_of ?_ ?_)) <;> omega))) | (apply ef_len; exact rfl; exact rfl; (assumption)) | (apply ef_ldr; exact rfl; exact rfl; (exact rfl)) | (apply ef_ldp; exact rfl; exact rfl; exact rfl; exact rfl; (exact rfl); (exact rfl)) | (apply ef_ias; exact rfl; exact rfl; exact rfl; (omega); assumption; exact rfl) | (apply ef_fap; exact rfl; exact rfl) | apply ef_nil | apply seqQ.normal | apply blockQ.normal | apply ef_block | apply ef_skip | (apply ef_condt; exact rfl; (exact (rfl : true = true))) | (apply ef_call; exact rfl; ((repeat (apply XVs.cons; exact rfl)); exact XVs.nil); (with_reducible exact Within_c _ _ _ _ _ (by assumption))))
            (refine loopQ.normal _ _ ⟨(j + 1, x), ⟨hjl, by rw [HU.out, inW, tn]; rfl⟩, (by first | (simp only; omega) | omega), ⟨by ((repeat (refine Hold.cons (by exact rfl) ?_)); exact Hold.nil), by ((repeat (refine Hold.cons (by exact rfl) ?_)); exact Hold.nil)⟩, .inl (Nat.le_refl _), (by first | exact List.take_length | exact rfl | exact takeF rfl rfl)⟩)
        · have HU := Lib.hid (show lastIn (inW c w) (lo.drop from_) (-1) = u by rw [hu, List.drop_eq_nil_of_le (by omega)]; rfl)
          clear hu
          by_cases hu0 : u < 0
          · repeat (first | apply ef_seq | (apply ef_mv; exact rfl; exact rfl) | (apply ef_bin; exact rfl; exact rfl; exact rfl; (first | exact cmp_t rfl (by first | exact rfl | (simp only [cmpP]; omega)) | exact cmp_f rfl (by simp only [cmpP]; omega))) | (apply ef_len; exact rfl; exact rfl; (assumption)) | (apply ef_ldp; exact rfl; exact rfl; exact rfl; exact rfl; (exact rfl); (exact rfl)) | (apply ef_fap; exact rfl; exact rfl) | apply ef_nil | apply seqQ.normal | apply loopQ.ret | apply loopQ.exit | apply ef_ret | apply seqQ.ret | apply ef_exit | apply seqQ.exit | apply blockQ.ret | apply blockQ.here | (apply ef_condt; exact rfl; (exact (rfl : true = true))) | (apply ef_condf; exact rfl; (exact (rfl : false = false))))
            have HF : fewF c fl (lo.drop from_) wl (rngI a K) = none := by rw [HZ.out, HD.out]; simp only [fewF, t1, t2, HU.out]; simp [hu0]
            rw [HF]
            (refine fin2 rfl (by exact rfl) (by exact rfl) ?_)
            rfl
          · have HF := Lib.hid (show fewF c fl (lo.drop from_) wl (rngI a K) = (fewF c fl (lo.drop from_) (own ++ [u]) ((rngI a K).drop (i + 1))).map (· + (n + 1)) by
              rw [HZ.out, HD.out]; simp only [fewF, t1, t2, HU.out]; simp only [Bool.or_self, Bool.false_eq_true, if_false, hu0, Option.map_map]; congr 1; funext x; simp only [Function.comp_apply]; omega)
            repeat (first | apply ef_seq | (apply ef_mv; exact rfl; exact rfl) | (apply ef_bin; exact rfl; exact rfl; exact rfl; (exact cmp_f rfl (by simp only [cmpP]; omega))) | (apply ef_len; exact rfl; exact rfl; (assumption)) | (apply ef_ldp; exact rfl; exact rfl; exact rfl; exact rfl; (exact rfl); (exact rfl)) | (apply ef_fap; exact rfl; exact rfl) | (apply ef_bsl; exact rfl; (repeat (apply XVs.cons; exact rfl)); exact XVs.nil; exact rfl) | apply ef_nil | apply seqQ.normal | apply loopQ.exit | apply ef_exit | apply seqQ.exit | apply blockQ.here | apply ef_skip | (apply ef_condf; exact rfl; (exact (rfl : false = false))))
            (apply ef_app; (· exact rfl); (· exact rfl); (· exact rfl); (· exact elems_end rfl rfl rfl rfl); (· exact rfl); (· exact rfl); (· simp; omega); (· exact rfl); (· simp; omega); (· rfl); (· rfl))
            repeat (first | (apply ef_mv; exact rfl; exact rfl) | (apply ef_bin; exact rfl; exact rfl; exact rfl; (((with_reducible refine bin_add (wrap_of ?_ ?_)) <;> omega))) | apply ef_nil | apply seqQ.normal | apply blockQ.normal)
            (refine loopQ.normal _ _ ⟨(i + 1, w + 1, own ++ [u], m + 1, g + 1, n + 1), ⟨hlt, hwi2, by simp [hom], by simp only; omega, by simp only; omega, HF.out⟩, (by first | (simp only; omega) | omega), ⟨by ((repeat (refine Hold.cons (by exact rfl) ?_)); exact Hold.nil), by ((repeat (refine Hold.cons (by exact rfl) ?_)); exact Hold.nil)⟩, .inr ⟨by ((repeat (refine hdl_cons rfl (by first | rfl | (simp [MV.lt, ltL, ltL_I, ltL_app1])) ?_)); exact hdl_nil), by first | rfl | (simp [hltL, ltL, MV.lt, ltL, ltL_I, ltL_app1])⟩, by first | exact rfl | (simp only [List.map_append, List.map_set]; exact rfl)⟩)
      · have h2 := h2 _ t2
        repeat (first | apply ef_seq | (apply ef_mv; exact rfl; exact rfl) | (apply ef_bin; exact rfl; exact rfl; exact rfl; (first | exact cmp_t rfl (by first | exact rfl | (simp only [cmpP]; omega)) | ((with_reducible refine bin_add (wrap_of ?_ ?_)) <;> omega))) | (apply ef_gy; exact rfl; (exact (rfl : false = false))) | (apply ef_pick; exact rfl; exact rfl; exact rfl) | (apply ef_ldp; exact rfl; exact rfl; exact rfl; exact rfl; (exact rfl); (first | exact rd_5 rfl rfl rfl rfl rfl | exact rfl)) | (apply ef_fap; exact rfl; exact rfl) | apply ef_nil | apply seqQ.normal | apply ef_exit | apply seqQ.exit | apply blockQ.here | apply ef_block | apply ef_skip | (apply ef_condt; exact rfl; (exact (rfl : true = true))) | (apply ef_call; exact rfl; ((repeat (apply XVs.cons; exact rfl)); exact XVs.nil); (with_reducible first | exact h1 _ | exact h2)))
        (refine loopQ.normal _ _ ⟨(i + 1, w + 1, own, m, g, n), ⟨hlt, hwi2, hom, hmn, by simp only; omega, by rw [HZ.out, HD.out]; simp only [fewF, t1, t2]; rfl⟩, (by first | (simp only; omega) | omega), ⟨by ((repeat (refine Hold.cons (by exact rfl) ?_)); exact Hold.nil), by ((repeat (refine Hold.cons (by exact rfl) ?_)); exact Hold.nil)⟩, .inl (Nat.le_refl _), (by first | exact List.take_length | exact rfl | exact takeF rfl rfl)⟩)
    · have h1 := h1 _ t1
      repeat (first | apply ef_seq | (apply ef_mv; exact rfl; exact rfl) | (apply ef_bin; exact rfl; exact rfl; exact rfl; (first | exact cmp_t rfl (by first | exact rfl | (simp only [cmpP]; omega)) | ((with_reducible refine bin_add (wrap_of ?_ ?_)) <;> omega))) | (apply ef_gn; exact rfl; (exact (rfl : true = true)); exact rfl) | (apply ef_pick; exact rfl; exact rfl; exact rfl) | (apply ef_ldp; exact rfl; exact rfl; exact rfl; exact rfl; (exact rfl); (first | exact rd_5 rfl rfl rfl rfl rfl | exact rfl)) | (apply ef_fap; exact rfl; exact rfl) | apply ef_nil | apply seqQ.normal | apply ef_exit | apply seqQ.exit | apply blockQ.here | apply ef_block | apply ef_skip | (apply ef_condt; exact rfl; (exact (rfl : true = true))) | (apply ef_call; exact rfl; ((repeat (apply XVs.cons; exact rfl)); exact XVs.nil); (with_reducible exact h1 _)))
      (refine loopQ.normal _ _ ⟨(i + 1, w + 1, own, m, g, n), ⟨hlt, hwi2, hom, hmn, by simp only; omega, by rw [HZ.out, HD.out]; simp only [fewF, t1]; rfl⟩, (by first | (simp only; omega) | omega), ⟨by ((repeat (refine Hold.cons (by exact rfl) ?_)); exact Hold.nil), by ((repeat (refine Hold.cons (by exact rfl) ?_)); exact Hold.nil)⟩, .inl (Nat.le_refl _), (by first | exact List.take_length | exact rfl | exact takeF rfl rfl)⟩)
  · repeat (first | apply ef_seq | (apply ef_mv; exact rfl; exact rfl) | (apply ef_bin; exact rfl; exact rfl; exact rfl; (first | exact cmp_f rfl (by simp only [cmpP]; omega) | ((with_reducible refine bin_add (wrap_of ?_ ?_)) <;> omega))) | (apply ef_ldp; exact rfl; exact rfl; exact rfl; exact rfl; (exact rfl); (exact rfl)) | (apply ef_fap; exact rfl; exact rfl) | apply ef_nil | apply seqQ.normal | apply loopQ.exit | apply ef_ret | apply ef_exit | apply seqQ.exit | apply blockQ.here | (apply ef_condf; exact rfl; (exact (rfl : false = false))))
    have HF : fewF c fl (lo.drop from_) wl (rngI a K) = some n := by rw [HZ.out, show (rngI a K).drop i = [] from List.drop_eq_nil_of_le (by rw [rngI_len]; omega)]; simp [fewF]
    rw [HF]
    (refine fin2 rfl (by exact rfl) (by exact rfl) ?_)
    rfl
theorem rFewest_c (k : Nat) (a b c : Int) (fl lo wl : List Int) (from_ : Nat) (h : MHeap) {v wv : MV} (ha : 0 ≤ a ∧ a ≤ 1000) (hb : 0 ≤ b ∧ b ≤ 1000) (hc : 0 ≤ c ∧ c ≤ 1000) (hf : fl.length ≤ 100000) (hl : lo.length ≤ 100000) (hwl : wl.length ≤ 10000) (hfr : from_ ≤ lo.length) (hv : frz 0 [] h 8 v = some wv) (hwv : SlI wv wl) {n : Int} (hn : n = (from_ : Int)) :
    orA (k + 3) 141 [encS a b c fl lo, v, I64 n] h = some (fewM (fewF c fl (lo.drop from_) wl (rngs ⟨a, b, c, fl, lo⟩)), h) := by
  subst hn
  have := callA (k := k + 2) (args := [encS a b c fl lo, v, I64 (from_ : Int)]) (args' := [encS a b c fl lo, wv, I64 (from_ : Int)]) (h := h) (by rw [List.mapM_cons, frz_lt (encS_lt a b c fl lo)]; simp [List.mapM_cons, hv]; simp [frz, MV.lt]) rfl (rFewest_z k a b c fl lo wl from_ ha hb hc hf hl hwl hfr hwv)
    (by cases fewF c fl (lo.drop from_) wl (rngs ⟨a, b, c, fl, lo⟩) <;> simp [fewM, okV, ok1, MV.lt, MV.pure]) rfl
  rw [this]
  cases fewF c fl (lo.drop from_) wl (rngs ⟨a, b, c, fl, lo⟩) <;> simp [fewM, shV, sh1]
end Go.Proofs.Ytgjpdjihjphbdaa
