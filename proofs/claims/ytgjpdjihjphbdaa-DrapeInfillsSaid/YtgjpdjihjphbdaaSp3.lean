/- Contracts of the reference: which strips are valid; copies. -/
import Derived.Test.YtgjpdjihjphbdaaSp2
namespace Go.Proofs.Ytgjpdjihjphbdaa
open Go.RowKit

def lastAt (a : Int) (l : List Int) (i : Nat) : Int := if i = 0 then a else l.getD (i - 1) 0
theorem lineE_r (a b : Int) (o l : List Int) (i : Nat) : lineE a b o (lastAt a l i) (l.getD i 0) = if rlineE a b l i = 0 then (if o.contains (l.getD i 0) then 13 else 0) else rlineE a b l i := by
  unfold lineE rlineE lastAt
  rw [firstE_cons, firstE_cons, firstE_cons, firstE_nil]
  generalize l.getD i 0 = n
  generalize l.getD (i - 1) 0 = m
  cases h1 : inB n (a + 1) (b - 1)
  · simp [unl]
  · have := inB_iff.1 h1
    by_cases h0 : i = 0
    · subst h0
      have h2 : a < n := by omega
      cases o.contains n <;> simp [unl, h2]
    · by_cases h2 : m < n
      · cases o.contains n <;> simp [unl, h0, h2, Int.not_le.2 h2]
      · have h3 : n ≤ m := by omega
        have h4 : 0 < i := by omega
        cases o.contains n <;> simp [unl, h0, h2, h3, h4]
theorem lastAt_succ (a : Int) (l : List Int) (i : Nat) : lastAt a l (i + 1) = l.getD i 0 := by simp [lastAt]

theorem mf_rCheckStrip : MT.mf 66 = some ⟨84, [(.tmp 2), (.tmp 3)], (.seq (.reg [⟨none, (some 1), (.box 5 (.s 0))⟩, ⟨none, (some 2), (.mv (.c (.lit (.int .i64 0))))⟩, ⟨none, (some 3), (.mv (.c (.lit (.int .i64 0))))⟩]) (.seq (.reg [⟨none, (some 4), (.mv (.c (.lit (.int .i64 1000))))⟩]) (.seq (.seq (.reg [⟨none, (some 9), (.fa 0 (.s 1))⟩, ⟨none, (some 10), (.ld none (.s 9))⟩, ⟨none, (some 11), (.mv (.s 4))⟩, ⟨none, (some 12), (.call 22 [(.s 10), (.c (.lit (.int .i64 0))), (.s 11)])⟩, ⟨none, (some 13), (.un .not (.s 12))⟩, ⟨none, (some 14), (.mv (.s 13))⟩, ⟨(some (14, false)), (some 15), (.fa 1 (.s 1))⟩, ⟨(some (14, false)), (some 16), (.ld none (.s 15))⟩, ⟨(some (14, false)), (some 17), (.mv (.s 4))⟩, ⟨(some (14, false)), (some 18), (.call 22 [(.s 16), (.c (.lit (.int .i64 0))), (.s 17)])⟩, ⟨(some (14, false)), (some 19), (.un .not (.s 18))⟩, ⟨none, (some 20), (.pick (.s 14) (.c (.lit (.bool true))) (.s 19))⟩, ⟨none, (some 21), (.mv (.s 20))⟩, ⟨(some (21, false)), (some 22), (.fa 2 (.s 1))⟩, ⟨(some (21, false)), (some 23), (.ld none (.s 22))⟩, ⟨(some (21, false)), (some 24), (.mv (.s 4))⟩, ⟨(some (21, false)), (some 25), (.call 22 [(.s 23), (.c (.lit (.int .i64 1))), (.s 24)])⟩, ⟨(some (21, false)), (some 26), (.un .not (.s 25))⟩, ⟨none, (some 27), (.pick (.s 21) (.c (.lit (.bool true))) (.s 26))⟩]) (.cond (.s 27) (.seq (.reg [⟨none, (some 2), (.mv (.c (.lit (.int .i64 0))))⟩, ⟨none, (some 3), (.mv (.c (.lit (.int .i64 2))))⟩]) .ret) .skip)) (.seq (.seq (.reg [⟨none, (some 28), (.fa 0 (.s 1))⟩, ⟨none, (some 29), (.ld none (.s 28))⟩, ⟨none, (some 30), (.fa 1 (.s 1))⟩, ⟨none, (some 31), (.ld none (.s 30))⟩, ⟨none, (some 32), (.bin .gtr (.s 29) (.s 31))⟩]) (.cond (.s 32) (.seq (.reg [⟨none, (some 2), (.mv (.c (.lit (.int .i64 0))))⟩, ⟨none, (some 3), (.mv (.c (.lit (.int .i64 9))))⟩]) .ret) .skip)) (.seq (.seq (.reg [⟨none, (some 33), (.fa 3 (.s 1))⟩, ⟨none, (some 34), (.ld none (.s 33))⟩, ⟨none, (some 35), (.len (.s 34))⟩, ⟨none, (some 36), (.bin .gtr (.s 35) (.c (.lit (.int .i64 40))))⟩, ⟨none, (some 37), (.mv (.s 36))⟩, ⟨(some (37, false)), (some 38), (.fa 4 (.s 1))⟩, ⟨(some (37, false)), (some 39), (.ld none (.s 38))⟩, ⟨(some (37, false)), (some 40), (.len (.s 39))⟩, ⟨(some (37, false)), (some 41), (.bin .gtr (.s 40) (.c (.lit (.int .i64 40))))⟩, ⟨none, (some 42), (.pick (.s 37) (.c (.lit (.bool true))) (.s 41))⟩]) (.cond (.s 42) (.seq (.reg [⟨none, (some 2), (.mv (.c (.lit (.int .i64 0))))⟩, ⟨none, (some 3), (.mv (.c (.lit (.int .i64 8))))⟩]) .ret) .skip)) (.seq (.seq (.reg [⟨none, (some 5), (.mv (.c (.lit (.int .i64 0))))⟩]) (.block 0 (.loop [5, 1] (.seq (.seq (.reg [⟨none, (some 43), (.mv (.s 5))⟩, ⟨none, (some 44), (.fa 3 (.s 1))⟩, ⟨none, (some 45), (.ld none (.s 44))⟩, ⟨none, (some 46), (.len (.s 45))⟩, ⟨none, (some 47), (.bin .lss (.s 43) (.s 46))⟩]) (.cond (.s 47) .skip (.exit 0))) (.seq (.block 1 (.seq (.reg [⟨none, (some 50), (.ld (some 5) (.s 1))⟩, ⟨none, (some 51), (.fa 3 (.s 1))⟩, ⟨none, (some 52), (.ld none (.s 51))⟩, ⟨none, (some 53), (.mv (.s 5))⟩, ⟨none, (some 54), (.call 138 [(.s 50), (.s 52), (.s 53)])⟩, ⟨none, (some 6), (.mv (.s 54))⟩]) (.seq (.reg [⟨none, (some 55), (.mv (.s 6))⟩, ⟨none, (some 56), (.bin .neq (.s 55) (.c (.lit (.int .i64 0))))⟩]) (.cond (.s 56) (.seq (.reg [⟨none, (some 57), (.mv (.s 5))⟩, ⟨none, (some 58), (.mv (.s 6))⟩, ⟨none, (some 2), (.mv (.s 57))⟩, ⟨none, (some 3), (.mv (.s 58))⟩]) .ret) .skip)))) (.reg [⟨none, (some 48), (.mv (.s 5))⟩, ⟨none, (some 49), (.bin .add (.s 48) (.c (.lit (.int .i64 1))))⟩, ⟨none, (some 5), (.mv (.s 49))⟩])))))) (.seq (.seq (.reg [⟨none, (some 7), (.mv (.c (.lit (.int .i64 0))))⟩]) (.block 2 (.loop [7, 1] (.seq (.seq (.reg [⟨none, (some 59), (.mv (.s 7))⟩, ⟨none, (some 60), (.fa 4 (.s 1))⟩, ⟨none, (some 61), (.ld none (.s 60))⟩, ⟨none, (some 62), (.len (.s 61))⟩, ⟨none, (some 63), (.bin .lss (.s 59) (.s 62))⟩]) (.cond (.s 63) .skip (.exit 2))) (.seq (.block 3 (.seq (.seq (.reg [⟨none, (some 66), (.ld (some 5) (.s 1))⟩, ⟨none, (some 67), (.fa 4 (.s 1))⟩, ⟨none, (some 68), (.ld none (.s 67))⟩, ⟨none, (some 69), (.mv (.s 7))⟩, ⟨none, (some 70), (.call 138 [(.s 66), (.s 68), (.s 69)])⟩, ⟨none, (some 8), (.mv (.s 70))⟩]) (.seq (.reg [⟨none, (some 71), (.mv (.s 8))⟩, ⟨none, (some 72), (.bin .neq (.s 71) (.c (.lit (.int .i64 0))))⟩]) (.cond (.s 72) (.seq (.reg [⟨none, (some 73), (.mv (.s 7))⟩, ⟨none, (some 74), (.mv (.s 8))⟩, ⟨none, (some 2), (.mv (.s 73))⟩, ⟨none, (some 3), (.mv (.s 74))⟩]) .ret) .skip))) (.seq (.reg [⟨none, (some 75), (.fa 3 (.s 1))⟩, ⟨none, (some 76), (.ld none (.s 75))⟩, ⟨none, (some 77), (.fa 4 (.s 1))⟩, ⟨none, (some 78), (.ld none (.s 77))⟩, ⟨none, (some 79), (.mv (.s 7))⟩, ⟨none, (some 80), (.ia 1 (.s 78) (.s 79))⟩, ⟨none, (some 81), (.ld none (.s 80))⟩, ⟨none, (some 82), (.call 71 [(.s 76), (.s 81)])⟩]) (.cond (.s 82) (.seq (.reg [⟨none, (some 83), (.mv (.s 7))⟩, ⟨none, (some 2), (.mv (.s 83))⟩, ⟨none, (some 3), (.mv (.c (.lit (.int .i64 13))))⟩]) .ret) .skip)))) (.reg [⟨none, (some 64), (.mv (.s 7))⟩, ⟨none, (some 65), (.bin .add (.s 64) (.c (.lit (.int .i64 1))))⟩, ⟨none, (some 7), (.mv (.s 65))⟩])))))) (.seq (.reg [⟨none, (some 2), (.mv (.c (.lit (.int .i64 0))))⟩, ⟨none, (some 3), (.mv (.c (.lit (.int .i64 0))))⟩]) .ret))))))))⟩ := by kernel_rfl
set_option maxHeartbeats 2000000 in
theorem rCheckStrip_z (k : Nat) (a b c : Int) (fl lo : List Int) (hf : fl.length ≤ 100000) (hl : lo.length ≤ 100000) : runZ MT (orA (k + 2)) (itA (k + 2)) 1000000 66 [encS a b c fl lo] [] = some (.tup [I64 (stripE a b c fl lo).1, I64 (stripE a b c fl lo).2], []) := by
  have hl1 : (MV.sl (fl.map I64)).slen = some fl.length := by simp [MV.slen]
  have hl2 : (MV.sl (lo.map I64)).slen = some lo.length := by simp [MV.slen]
  refine runZ_of mf_rCheckStrip (by simp) ?_
  simp only [argsL]
  have H2 : ∀ e, e ≠ 0 → rangeE a b c fl lo = e → stripE a b c fl lo = (0, e) := fun e h0 h => by unfold stripE; rw [h, if_neg h0]
  have bad : ¬ ((inB a 0 1000 && inB b 0 1000 && inB c 1 1000) = true) → rangeE a b c fl lo = 2 := fun h => by unfold rangeE; rw [firstE_cons]; simp [unl, h]
  cases g1 : inB a 0 1000
  · have HS := Lib.hid (H2 2 (by decide) (bad (by simp [g1])))
    repeat (first | apply ef_seq | (apply ef_mv; exact rfl; exact rfl) | (apply ef_gn; exact rfl; (exact (rfl : true = true)); exact rfl) | (apply ef_pick; exact rfl; exact rfl; exact rfl) | (apply ef_ldp; exact rfl; exact rfl; exact rfl; exact rfl; (exact rfl); (exact rfl)) | (apply ef_fap; exact rfl; exact rfl) | (apply ef_notF; exact rfl; exact rfl) | (apply ef_box; exact rfl; exact rfl; exact rfl; exact rfl) | apply ef_nil | apply seqQ.normal | apply ef_ret | apply seqQ.ret | (apply ef_condt; exact rfl; (exact (rfl : true = true))) | (apply ef_call; exact rfl; ((repeat (apply XVs.cons; exact rfl)); exact XVs.nil); (with_reducible exact Within_c _ _ _ _ _ (by assumption))))
    (refine fin2 rfl (by exact rfl) (by exact rfl) ?_)
    rw [HS.out]
  · cases g2 : inB b 0 1000
    · have HS := Lib.hid (H2 2 (by decide) (bad (by simp [g2])))
      repeat (first | apply ef_seq | (apply ef_mv; exact rfl; exact rfl) | (apply ef_gy; exact rfl; (exact (rfl : false = false))) | (apply ef_gn; exact rfl; (exact (rfl : true = true)); exact rfl) | (apply ef_pick; exact rfl; exact rfl; exact rfl) | (apply ef_ldp; exact rfl; exact rfl; exact rfl; exact rfl; (exact rfl); (exact rfl)) | (apply ef_fap; exact rfl; exact rfl) | (apply ef_notT; exact rfl; exact rfl) | (apply ef_notF; exact rfl; exact rfl) | (apply ef_box; exact rfl; exact rfl; exact rfl; exact rfl) | apply ef_nil | apply seqQ.normal | apply ef_ret | apply seqQ.ret | (apply ef_condt; exact rfl; (exact (rfl : true = true))) | (apply ef_call; exact rfl; ((repeat (apply XVs.cons; exact rfl)); exact XVs.nil); (with_reducible exact Within_c _ _ _ _ _ (by assumption))))
      (refine fin2 rfl (by exact rfl) (by exact rfl) ?_)
      rw [HS.out]
    · cases g3 : inB c 1 1000
      · have HS := Lib.hid (H2 2 (by decide) (bad (by simp [g3])))
        repeat (first | apply ef_seq | (apply ef_mv; exact rfl; exact rfl) | (apply ef_gy; exact rfl; (exact (rfl : false = false))) | (apply ef_pick; exact rfl; exact rfl; exact rfl) | (apply ef_ldp; exact rfl; exact rfl; exact rfl; exact rfl; (exact rfl); (exact rfl)) | (apply ef_fap; exact rfl; exact rfl) | (apply ef_notT; exact rfl; exact rfl) | (apply ef_notF; exact rfl; exact rfl) | (apply ef_box; exact rfl; exact rfl; exact rfl; exact rfl) | apply ef_nil | apply seqQ.normal | apply ef_ret | apply seqQ.ret | (apply ef_condt; exact rfl; (exact (rfl : true = true))) | (apply ef_call; exact rfl; ((repeat (apply XVs.cons; exact rfl)); exact XVs.nil); (with_reducible exact Within_c _ _ _ _ _ (by assumption))))
        (refine fin2 rfl (by exact rfl) (by exact rfl) ?_)
        rw [HS.out]
      · have ha := inB_iff.1 g1
        have hb := inB_iff.1 g2
        have hr : rangeE a b c fl lo = firstE [unl (decide (a ≤ b)) 9, unl (decide ((fl.length : Int) ≤ 40) && decide ((lo.length : Int) ≤ 40)) 8] := by unfold rangeE; rw [firstE_cons, g1, g2, g3]; simp [unl]
        by_cases g4 : a ≤ b
        · by_cases g5 : fl.length ≤ 40
          · by_cases g6 : lo.length ≤ 40
            · have h0 : rangeE a b c fl lo = 0 := by rw [hr]; simp [firstE, unl, g4, show (fl.length : Int) ≤ 40 by omega, show (lo.length : Int) ≤ 40 by omega]
              have HS := Lib.hid (show stripE a b c fl lo = if (posnE a b [] a 0 fl).2 = 0 then posnE a b fl a 0 lo else posnE a b [] a 0 fl by unfold stripE; rw [if_pos h0])
              clear H2 bad hr h0
              repeat (first | apply ef_seq | (apply ef_mv; exact rfl; exact rfl) | (apply ef_bin; exact rfl; exact rfl; exact rfl; (exact cmp_f rfl (by simp only [cmpP]; omega))) | (apply ef_gy; exact rfl; (exact (rfl : false = false))) | (apply ef_pick; exact rfl; exact rfl; exact rfl) | (apply ef_len; exact rfl; exact rfl; (assumption)) | (apply ef_ldp; exact rfl; exact rfl; exact rfl; exact rfl; (exact rfl); (exact rfl)) | (apply ef_fap; exact rfl; exact rfl) | (apply ef_notT; exact rfl; exact rfl) | (apply ef_box; exact rfl; exact rfl; exact rfl; exact rfl) | apply ef_nil | apply seqQ.normal | apply ef_block | apply ef_skip | (apply ef_condf; exact rfl; (exact (rfl : false = false))) | (apply ef_call; exact rfl; ((repeat (apply XVs.cons; exact rfl)); exact XVs.nil); (with_reducible exact Within_c _ _ _ _ _ (by assumption))))
              refine ef_loopf (α := Nat) (fun i => i ≤ fl.length ∧ posnE a b [] a 0 fl = posnE a b [] (lastAt a fl i) i (fl.drop i)) (fun i => [(5, I64 (i : Int))]) [(1, _)] (fun _ => _) (fun i => fl.length - i) 0 [5] (fun _ => rfl) (by ((repeat (refine Hold.cons (by exact rfl) ?_)); exact Hold.nil)) (by ((repeat (refine Hold.cons (by exact rfl) ?_)); exact Hold.nil)) rfl rfl ⟨by simp, rfl⟩ (by simp; omega) ?_
              rintro i ⟨hi, hz⟩
              by_cases hlt2 : i < fl.length
              · have HD := Lib.hid (drop_at fl i hlt2)
                have HN := Lib.hid (show fl.getD i 0 = fl[i] by rw [List.getD_eq_getElem?_getD, List.getElem?_eq_getElem hlt2]; rfl)
                have HZ := Lib.hid hz
                have HR := Lib.hid (lineE_r a b [] fl i)
                have hle := fun e (he : rlineE a b fl i = e) h => rlineErr_c k a b c fl lo fl i h ha hb hlt2 hf he
                clear hz
                obtain ⟨e, he⟩ : ∃ e, rlineE a b fl i = e := ⟨_, rfl⟩
                have hle := hle e he
                have HE := Lib.hid he
                clear he
                by_cases h0 : e = 0
                · subst h0
                  repeat (first | apply ef_seq | (apply ef_mv; exact rfl; exact rfl) | (apply ef_bin; exact rfl; exact rfl; exact rfl; (first | exact cmp_t rfl (by first | exact rfl | (simp only [cmpP]; omega)) | exact cmp_f rfl (by simp only [cmpP]; omega) | ((with_reducible refine bin_add (wrap_of ?_ ?_)) <;> omega))) | (apply ef_len; exact rfl; exact rfl; (assumption)) | (apply ef_ldp; exact rfl; exact rfl; exact rfl; exact rfl; (exact rfl); (first | exact rd_5 rfl rfl rfl rfl rfl | exact rfl)) | (apply ef_fap; exact rfl; exact rfl) | apply ef_nil | apply seqQ.normal | apply blockQ.normal | apply ef_block | apply ef_skip | (apply ef_condt; exact rfl; (exact (rfl : true = true))) | (apply ef_condf; exact rfl; (exact (rfl : false = false))) | (apply ef_call; exact rfl; ((repeat (apply XVs.cons; exact rfl)); exact XVs.nil); (with_reducible exact hle _)))
                  (refine loopQ.normal _ _ ⟨i + 1, ⟨hlt2, by rw [HZ.out, HD.out]; simp only [posnE]; rw [← HN.out, HR.out, HE.out, lastAt_succ]; simp⟩, (by first | (simp only; omega) | omega), ⟨by ((repeat (refine Hold.cons (by exact rfl) ?_)); exact Hold.nil), by ((repeat (refine Hold.cons (by exact rfl) ?_)); exact Hold.nil)⟩, .inl (Nat.le_refl _), (by first | exact List.take_length | exact rfl | exact takeF rfl rfl)⟩)
                · repeat (first | apply ef_seq | (apply ef_mv; exact rfl; exact rfl) | (apply ef_bin; exact rfl; exact rfl; exact rfl; (exact cmp_t rfl (by first | exact rfl | (simp only [cmpP]; omega)))) | (apply ef_len; exact rfl; exact rfl; (assumption)) | (apply ef_ldp; exact rfl; exact rfl; exact rfl; exact rfl; (exact rfl); (first | exact rd_5 rfl rfl rfl rfl rfl | exact rfl)) | (apply ef_fap; exact rfl; exact rfl) | apply ef_nil | apply seqQ.normal | apply loopQ.ret | apply ef_ret | apply seqQ.ret | apply blockQ.ret | apply ef_block | apply ef_skip | (apply ef_condt; exact rfl; (exact (rfl : true = true))) | (apply ef_call; exact rfl; ((repeat (apply XVs.cons; exact rfl)); exact XVs.nil); (with_reducible exact hle _)))
                  (refine fin2 rfl (by exact rfl) (by exact rfl) ?_)
                  have HP : posnE a b [] a 0 fl = ((i : Int), e) := by rw [HZ.out, HD.out]; simp only [posnE]; rw [← HN.out, HR.out, HE.out]; simp [h0]
                  rw [HS.out, HP]; simp [h0]
              · have HS2 := Lib.hid (show stripE a b c fl lo = posnE a b fl a 0 lo by rw [HS.out, hz, List.drop_eq_nil_of_le (by omega)]; simp [posnE])
                clear hz
                repeat (first | apply ef_seq | (apply ef_mv; exact rfl; exact rfl) | (apply ef_bin; exact rfl; exact rfl; exact rfl; (exact cmp_f rfl (by simp only [cmpP]; omega))) | (apply ef_len; exact rfl; exact rfl; (assumption)) | (apply ef_ldp; exact rfl; exact rfl; exact rfl; exact rfl; (exact rfl); (exact rfl)) | (apply ef_fap; exact rfl; exact rfl) | apply ef_nil | apply seqQ.normal | apply loopQ.exit | apply ef_exit | apply seqQ.exit | apply blockQ.here | apply ef_block | (apply ef_condf; exact rfl; (exact (rfl : false = false))))
                refine ef_loopf (α := Nat) (fun i => i ≤ lo.length ∧ posnE a b fl a 0 lo = posnE a b fl (lastAt a lo i) i (lo.drop i)) (fun i => [(7, I64 (i : Int))]) [(1, _)] (fun _ => _) (fun i => lo.length - i) 0 [7] (fun _ => rfl) (by ((repeat (refine Hold.cons (by exact rfl) ?_)); exact Hold.nil)) (by ((repeat (refine Hold.cons (by exact rfl) ?_)); exact Hold.nil)) rfl rfl ⟨by simp, rfl⟩ (by simp; omega) ?_
                rintro i ⟨hi, hz⟩
                by_cases hlt2 : i < lo.length
                · have e1 := at_map I64 lo i hlt2
                  have HD := Lib.hid (drop_at lo i hlt2)
                  have HN := Lib.hid (show lo.getD i 0 = lo[i] by rw [List.getD_eq_getElem?_getD, List.getElem?_eq_getElem hlt2]; rfl)
                  have HZ := Lib.hid hz
                  have HR := Lib.hid (lineE_r a b fl lo i)
                  have hle := fun e (he : rlineE a b lo i = e) h => rlineErr_c k a b c fl lo lo i h ha hb hlt2 hl he
                  clear hz
                  obtain ⟨e, he⟩ : ∃ e, rlineE a b lo i = e := ⟨_, rfl⟩
                  have hle := hle e he
                  have HE := Lib.hid he
                  clear he
                  by_cases h0 : e = 0
                  · subst h0
                    obtain ⟨t, ht⟩ : ∃ t, fl.contains lo[i] = t := ⟨_, rfl⟩
                    have HT := Lib.hid ht
                    have hh := fun h => bHas_c (k + 1) fl lo[i] h (v := .sl (fl.map I64)) hf (frz_sl (ltL_I 0 fl)) ht
                    clear ht
                    generalize lo[i] = n at e1 HD HN hh HT
                    cases t
                    · repeat (first | apply ef_seq | (apply ef_mv; exact rfl; exact rfl) | (apply ef_bin; exact rfl; exact rfl; exact rfl; (first | exact cmp_t rfl (by first | exact rfl | (simp only [cmpP]; omega)) | exact cmp_f rfl (by simp only [cmpP]; omega) | ((with_reducible refine bin_add (wrap_of ?_ ?_)) <;> omega))) | (apply ef_len; exact rfl; exact rfl; (assumption)) | (apply ef_ldr; exact rfl; exact rfl; (exact rfl)) | (apply ef_ldp; exact rfl; exact rfl; exact rfl; exact rfl; (exact rfl); (first | exact rd_5 rfl rfl rfl rfl rfl | exact rfl)) | (apply ef_ias; exact rfl; exact rfl; exact rfl; (omega); assumption; exact rfl) | (apply ef_fap; exact rfl; exact rfl) | apply ef_nil | apply seqQ.normal | apply blockQ.normal | apply ef_block | apply ef_skip | (apply ef_condt; exact rfl; (exact (rfl : true = true))) | (apply ef_condf; exact rfl; (exact (rfl : false = false))) | (apply ef_call; exact rfl; ((repeat (apply XVs.cons; exact rfl)); exact XVs.nil); (with_reducible first | exact hle _ | exact hh _)))
                      (refine loopQ.normal _ _ ⟨i + 1, ⟨hlt2, by rw [HZ.out, HD.out]; simp only [posnE]; rw [← HN.out, HR.out, HE.out, lastAt_succ, HN.out, HT.out]; simp⟩, (by first | (simp only; omega) | omega), ⟨by ((repeat (refine Hold.cons (by exact rfl) ?_)); exact Hold.nil), by ((repeat (refine Hold.cons (by exact rfl) ?_)); exact Hold.nil)⟩, .inl (Nat.le_refl _), (by first | exact List.take_length | exact rfl | exact takeF rfl rfl)⟩)
                    · repeat (first | apply ef_seq | (apply ef_mv; exact rfl; exact rfl) | (apply ef_bin; exact rfl; exact rfl; exact rfl; (first | exact cmp_t rfl (by first | exact rfl | (simp only [cmpP]; omega)) | exact cmp_f rfl (by simp only [cmpP]; omega))) | (apply ef_len; exact rfl; exact rfl; (assumption)) | (apply ef_ldr; exact rfl; exact rfl; (exact rfl)) | (apply ef_ldp; exact rfl; exact rfl; exact rfl; exact rfl; (exact rfl); (first | exact rd_5 rfl rfl rfl rfl rfl | exact rfl)) | (apply ef_ias; exact rfl; exact rfl; exact rfl; (omega); assumption; exact rfl) | (apply ef_fap; exact rfl; exact rfl) | apply ef_nil | apply seqQ.normal | apply loopQ.ret | apply ef_ret | apply seqQ.ret | apply blockQ.ret | apply ef_block | apply ef_skip | (apply ef_condt; exact rfl; (exact (rfl : true = true))) | (apply ef_condf; exact rfl; (exact (rfl : false = false))) | (apply ef_call; exact rfl; ((repeat (apply XVs.cons; exact rfl)); exact XVs.nil); (with_reducible first | exact hle _ | exact hh _)))
                      (refine fin2 rfl (by exact rfl) (by exact rfl) ?_)
                      have HP : posnE a b fl a 0 lo = ((i : Int), 13) := by rw [HZ.out, HD.out]; simp only [posnE]; rw [← HN.out, HR.out, HE.out, HN.out, HT.out]; simp
                      rw [HS2.out, HP]
                  · repeat (first | apply ef_seq | (apply ef_mv; exact rfl; exact rfl) | (apply ef_bin; exact rfl; exact rfl; exact rfl; (exact cmp_t rfl (by first | exact rfl | (simp only [cmpP]; omega)))) | (apply ef_len; exact rfl; exact rfl; (assumption)) | (apply ef_ldp; exact rfl; exact rfl; exact rfl; exact rfl; (exact rfl); (first | exact rd_5 rfl rfl rfl rfl rfl | exact rfl)) | (apply ef_fap; exact rfl; exact rfl) | apply ef_nil | apply seqQ.normal | apply loopQ.ret | apply ef_ret | apply seqQ.ret | apply blockQ.ret | apply ef_block | apply ef_skip | (apply ef_condt; exact rfl; (exact (rfl : true = true))) | (apply ef_call; exact rfl; ((repeat (apply XVs.cons; exact rfl)); exact XVs.nil); (with_reducible exact hle _)))
                    (refine fin2 rfl (by exact rfl) (by exact rfl) ?_)
                    have HP : posnE a b fl a 0 lo = ((i : Int), e) := by rw [HZ.out, HD.out]; simp only [posnE]; rw [← HN.out, HR.out, HE.out]; simp [h0]
                    rw [HS2.out, HP]
                · repeat (first | apply ef_seq | (apply ef_mv; exact rfl; exact rfl) | (apply ef_bin; exact rfl; exact rfl; exact rfl; (exact cmp_f rfl (by simp only [cmpP]; omega))) | (apply ef_len; exact rfl; exact rfl; (assumption)) | (apply ef_ldp; exact rfl; exact rfl; exact rfl; exact rfl; (exact rfl); (exact rfl)) | (apply ef_fap; exact rfl; exact rfl) | apply ef_nil | apply seqQ.normal | apply loopQ.exit | apply ef_ret | apply ef_exit | apply seqQ.exit | apply blockQ.here | (apply ef_condf; exact rfl; (exact (rfl : false = false))))
                  (refine fin2 rfl (by exact rfl) (by exact rfl) ?_)
                  rw [HS2.out, hz, List.drop_eq_nil_of_le (by omega)]; rfl
            · have HS := Lib.hid (H2 8 (by decide) (by rw [hr]; simp [firstE, unl, g4, show ¬ (lo.length : Int) ≤ 40 by omega]))
              repeat (first | apply ef_seq | (apply ef_mv; exact rfl; exact rfl) | (apply ef_bin; exact rfl; exact rfl; exact rfl; (first | exact cmp_t rfl (by first | exact rfl | (simp only [cmpP]; omega)) | exact cmp_f rfl (by simp only [cmpP]; omega))) | (apply ef_gy; exact rfl; (exact (rfl : false = false))) | (apply ef_pick; exact rfl; exact rfl; exact rfl) | (apply ef_len; exact rfl; exact rfl; (assumption)) | (apply ef_ldp; exact rfl; exact rfl; exact rfl; exact rfl; (exact rfl); (exact rfl)) | (apply ef_fap; exact rfl; exact rfl) | (apply ef_notT; exact rfl; exact rfl) | (apply ef_box; exact rfl; exact rfl; exact rfl; exact rfl) | apply ef_nil | apply seqQ.normal | apply ef_ret | apply seqQ.ret | apply ef_skip | (apply ef_condt; exact rfl; (exact (rfl : true = true))) | (apply ef_condf; exact rfl; (exact (rfl : false = false))) | (apply ef_call; exact rfl; ((repeat (apply XVs.cons; exact rfl)); exact XVs.nil); (with_reducible exact Within_c _ _ _ _ _ (by assumption))))
              (refine fin2 rfl (by exact rfl) (by exact rfl) ?_)
              rw [HS.out]
          · have HS := Lib.hid (H2 8 (by decide) (by rw [hr]; simp [firstE, unl, g4, show ¬ (fl.length : Int) ≤ 40 by omega]))
            repeat (first | apply ef_seq | (apply ef_mv; exact rfl; exact rfl) | (apply ef_bin; exact rfl; exact rfl; exact rfl; (first | exact cmp_t rfl (by first | exact rfl | (simp only [cmpP]; omega)) | exact cmp_f rfl (by simp only [cmpP]; omega))) | (apply ef_gy; exact rfl; (exact (rfl : false = false))) | (apply ef_gn; exact rfl; (exact (rfl : true = true)); exact rfl) | (apply ef_pick; exact rfl; exact rfl; exact rfl) | (apply ef_len; exact rfl; exact rfl; (assumption)) | (apply ef_ldp; exact rfl; exact rfl; exact rfl; exact rfl; (exact rfl); (exact rfl)) | (apply ef_fap; exact rfl; exact rfl) | (apply ef_notT; exact rfl; exact rfl) | (apply ef_box; exact rfl; exact rfl; exact rfl; exact rfl) | apply ef_nil | apply seqQ.normal | apply ef_ret | apply seqQ.ret | apply ef_skip | (apply ef_condt; exact rfl; (exact (rfl : true = true))) | (apply ef_condf; exact rfl; (exact (rfl : false = false))) | (apply ef_call; exact rfl; ((repeat (apply XVs.cons; exact rfl)); exact XVs.nil); (with_reducible exact Within_c _ _ _ _ _ (by assumption))))
            (refine fin2 rfl (by exact rfl) (by exact rfl) ?_)
            rw [HS.out]
        · have HS := Lib.hid (H2 9 (by decide) (by rw [hr]; simp [firstE, unl, g4]))
          repeat (first | apply ef_seq | (apply ef_mv; exact rfl; exact rfl) | (apply ef_bin; exact rfl; exact rfl; exact rfl; (exact cmp_t rfl (by first | exact rfl | (simp only [cmpP]; omega)))) | (apply ef_gy; exact rfl; (exact (rfl : false = false))) | (apply ef_pick; exact rfl; exact rfl; exact rfl) | (apply ef_ldp; exact rfl; exact rfl; exact rfl; exact rfl; (exact rfl); (exact rfl)) | (apply ef_fap; exact rfl; exact rfl) | (apply ef_notT; exact rfl; exact rfl) | (apply ef_box; exact rfl; exact rfl; exact rfl; exact rfl) | apply ef_nil | apply seqQ.normal | apply ef_ret | apply seqQ.ret | apply ef_skip | (apply ef_condt; exact rfl; (exact (rfl : true = true))) | (apply ef_condf; exact rfl; (exact (rfl : false = false))) | (apply ef_call; exact rfl; ((repeat (apply XVs.cons; exact rfl)); exact XVs.nil); (with_reducible exact Within_c _ _ _ _ _ (by assumption))))
          (refine fin2 rfl (by exact rfl) (by exact rfl) ?_)
          rw [HS.out]
theorem rCheckStrip_c (k : Nat) (a b c : Int) (fl lo : List Int) (h : MHeap) (hf : fl.length ≤ 100000) (hl : lo.length ≤ 100000) : orA (k + 3) 66 [encS a b c fl lo] h = some (.tup [I64 (stripE a b c fl lo).1, I64 (stripE a b c fl lo).2], h) := by
  have := callA (k := k + 2) (h := h) (frzL_lt (ms := [encS a b c fl lo]) (by simp [ltL, MV.lt, ltL_I])) rfl (rCheckStrip_z k a b c fl lo hf hl) (by simp [okV, ok1, MV.lt, MV.pure]) rfl
  simpa [shV, sh1] using this
theorem mf_rStripErr : MT.mf 70 = some ⟨11, [(.tmp 2)], (.seq (.reg [⟨none, (some 1), (.box 5 (.s 0))⟩, ⟨none, (some 2), (.mv (.c (.lit (.int .i64 0))))⟩]) (.seq (.reg [⟨none, (some 6), (.ld (some 5) (.s 1))⟩, ⟨none, (some 7), (.call 66 [(.s 6)])⟩, ⟨none, (some 5), (.mv (.s 7))⟩, ⟨none, (some 8), (.ext (.s 5) 0)⟩, ⟨none, (some 9), (.ext (.s 5) 1)⟩, ⟨none, (some 3), (.mv (.s 8))⟩, ⟨none, (some 4), (.mv (.s 9))⟩]) (.seq (.reg [⟨none, (some 10), (.mv (.s 4))⟩, ⟨none, (some 2), (.mv (.s 10))⟩]) .ret)))⟩ := by kernel_rfl
theorem rStripErr_c (k : Nat) (a b c : Int) (fl lo : List Int) (h : MHeap) (hf : fl.length ≤ 100000) (hl : lo.length ≤ 100000) : orA (k + 4) 70 [encS a b c fl lo] h = some (I64 (stripE a b c fl lo).2, h) := by
  refine callL (args' := [encS a b c fl lo]) (frzL_lt (by simp [ltL, MV.lt, ltL_I])) rfl (runZ_of mf_rStripErr (by simp) ?_)
  simp only [argsL]
  have hc := fun h => rCheckStrip_c k a b c fl lo h hf hl
  repeat (first | apply ef_seq | (apply ef_mv; exact rfl; exact rfl) | (apply ef_ldp; exact rfl; exact rfl; exact rfl; exact rfl; (exact rfl); (exact rd_5 rfl rfl rfl rfl rfl)) | (apply ef_ext; exact rfl; exact rfl; exact rfl) | (apply ef_box; exact rfl; exact rfl; exact rfl; exact rfl) | apply ef_nil | apply seqQ.normal | apply ef_ret | (apply ef_call; exact rfl; ((repeat (apply XVs.cons; exact rfl)); exact XVs.nil); (with_reducible exact hc _)))
  (refine fin1 rfl (by exact rfl) rfl ?_)
  rfl

theorem mf_CopyInts : MT.mf 64 = some ⟨6, [(.tmp 2)], (.seq (.reg [⟨none, (some 2), (.nil0 1)⟩]) (.seq (.reg [⟨none, (some 3), (.bsl (.lit (.int .i64 0)) 1 0 [])⟩, ⟨none, (some 4), (.mv (.s 0))⟩, ⟨none, (some 5), (.app 1 (.s 3) (.s 4))⟩, ⟨none, (some 2), (.mv (.s 5))⟩]) .ret))⟩ := by kernel_rfl
theorem bCopyInts_z (k : Nat) (xs : List Int) (hx : xs.length ≤ 1000000) : runZ MT (orA k) (itA k) 1000000 64 [.sl (xs.map I64)] [] = some (.arr 0 0 xs.length 0, [⟨0, false, 1, xs.map I64⟩]) := by
  refine runZ_of mf_CopyInts (by simp) ?_
  simp only [argsL]
  cases xs with
  | nil =>
    repeat (first | apply ef_seq | (apply ef_mv; exact rfl; exact rfl) | (apply ef_nil0; exact rfl) | (apply ef_bsl; exact rfl; (repeat (apply XVs.cons; exact rfl)); exact XVs.nil; exact rfl) | apply ef_nil | apply seqQ.normal)
    (apply ef_app0; (· exact rfl); (· exact rfl); (· exact rfl); (· exact rfl); (· exact rfl); (· exact rfl); (· exact rfl); (· exact rfl))
    repeat (first | (apply ef_mv; exact rfl; exact rfl) | apply ef_nil | apply seqQ.normal | apply ef_ret)
    (apply fin_arr; (· exact rfl); (· exact rfl); (· exact rfl); (· exact rfl); (· simp); (· exact rfl); (· exact rfl); (· exact rfl); (· exact rfl); (· exact rfl))
  | cons x xs =>
    have hs : ((x :: xs).map I64).all (MV.sOk 1) = true := by
      rw [List.all_eq_true]
      intro m hm
      obtain ⟨a, _, rfl⟩ := List.mem_map.1 hm
      rfl
    repeat (first | apply ef_seq | (apply ef_mv; exact rfl; exact rfl) | (apply ef_nil0; exact rfl) | (apply ef_bsl; exact rfl; (repeat (apply XVs.cons; exact rfl)); exact XVs.nil; exact rfl) | apply ef_nil | apply seqQ.normal)
    (apply ef_app; (· exact rfl); (· exact rfl); (· exact rfl); (· exact rfl); (· exact rfl); (· exact rfl); (· exact rfl); (· exact rfl); (· (simp at hx ⊢; omega)); (· exact hs); (· exact rfl))
    repeat (first | (apply ef_mv; exact rfl; exact rfl) | apply ef_nil | apply seqQ.normal | apply ef_ret)
    (apply fin_arr; (· exact rfl); (· exact rfl); (· exact rfl); (· exact rfl); (· simp); (· (exact ltL_I 0 (x :: xs))); (· (simp; rw [List.take_of_length_le (by simp)])); (· exact rfl); (· exact rfl); (· (simp)))
theorem bCopyInts_c (k : Nat) (xs : List Int) (h : MHeap) {v : MV} (hx : xs.length ≤ 1000000) (hv : frz 0 [] h 8 v = some (.sl (xs.map I64))) : orA (k + 1) 64 [v] h = some (.arr h.length 0 xs.length 0, h ++ [⟨0, false, 1, xs.map I64⟩]) := by
  have := callA (k := k) (args := [v]) (args' := [.sl (xs.map I64)]) (h := h) (by simp [List.mapM_cons, hv]) rfl (bCopyInts_z k xs hx) rfl (by simp [okH, ltL_I, pureL_I])
  simpa [shV, sh1] using this
/-- A value out of a cell, frozen, handed back. -/
theorem fin_c1 {x : MX2} {A : Sl} {h : MHeap} {t it : Nat} {ot : MObj} {ag : Option Nat} {e m m' : MV} {r1 : List MV} (hx : outX x = true) (ht : look A t = some (.ptr it 0 0 0)) (hot : h[it]? = some ot) (h1 : ot.g = 0) (h2 : ot.es = e :: r1) (hr : rdCells e.cells 0 ag = some m) (hn : ∀ id i k g, m ≠ .arr id i k g) (hf : frz 0 [] h 8 m = some m') : FinF [.cell t ag] m' [] x A h := by
  have hi : impIds 0 [m] = [] := by
    cases m with
    | arr id i k g => exact absurd rfl (hn id i k g)
    | _ => rfl
  refine ⟨hx, [m], [m'], ⟨_, _, rfl, ⟨it, 0, 0, 0, ot, _, ht, hot, h1, by rw [h2]; rfl, hr⟩, rfl⟩, by rw [hi]; simp, ?_, rfl⟩
  rw [hi]
  cases m with
  | arr id i k g => exact absurd rfl (hn id i k g)
  | _ => simp only [expL, hf]
theorem mf_rCopyStrip : MT.mf 60 = some ⟨16, [(.cell 2 (some 5))], (.seq (.reg [⟨none, (some 1), (.box 5 (.s 0))⟩, ⟨none, (some 2), (.new (.agg [(.lit (.int .i64 0)), (.lit (.int .i64 0)), (.lit (.int .i64 0)), (.lit (.slice none 0 0)), (.lit (.slice none 0 0))]))⟩]) (.seq (.reg [⟨none, (some 3), (.fa 0 (.s 1))⟩, ⟨none, (some 4), (.ld none (.s 3))⟩, ⟨none, (some 5), (.fa 1 (.s 1))⟩, ⟨none, (some 6), (.ld none (.s 5))⟩, ⟨none, (some 7), (.fa 2 (.s 1))⟩, ⟨none, (some 8), (.ld none (.s 7))⟩, ⟨none, (some 9), (.fa 3 (.s 1))⟩, ⟨none, (some 10), (.ld none (.s 9))⟩, ⟨none, (some 11), (.call 64 [(.s 10)])⟩, ⟨none, (some 12), (.fa 4 (.s 1))⟩, ⟨none, (some 13), (.ld none (.s 12))⟩, ⟨none, (some 14), (.call 64 [(.s 13)])⟩, ⟨none, (some 15), (.build [(.lit (.int .i64 0)), (.lit (.int .i64 0)), (.lit (.int .i64 0)), (.lit (.slice none 0 0)), (.lit (.slice none 0 0))] [(0, (1, (.s 4))), (1, (1, (.s 6))), (2, (1, (.s 8))), (3, (1, (.s 11))), (4, (1, (.s 14)))])⟩, ⟨none, none, (.st 5 (.s 2) (.s 15))⟩]) .ret))⟩ := by kernel_rfl
theorem rCopyStrip_c (k : Nat) (a b c : Int) (fl lo : List Int) (h : MHeap) (hf : fl.length ≤ 100000) (hl : lo.length ≤ 100000) : orA (k + 2) 60 [encS a b c fl lo] h = some (encS a b c fl lo, h) := by
  have hz : runZ MT (orA (k + 1)) (itA (k + 1)) 1000000 60 [encS a b c fl lo] [] = some (encS a b c fl lo, []) := by
    refine runZ_of mf_rCopyStrip (by simp) ?_
    simp only [argsL]
    have h1 := fun h => bCopyInts_c k fl h (v := .sl (fl.map I64)) (by omega) (frz_sl (ltL_I 0 fl))
    have h2 := fun h => bCopyInts_c k lo h (v := .sl (lo.map I64)) (by omega) (frz_sl (ltL_I 0 lo))
    have t1 : (fl.map I64).take fl.length = fl.map I64 := List.take_of_length_le (by simp)
    have t2 : (lo.map I64).take lo.length = lo.map I64 := List.take_of_length_le (by simp)
    repeat (first | apply ef_seq | (apply ef_ldp; exact rfl; exact rfl; exact rfl; exact rfl; (exact rfl); (exact rfl)) | (apply ef_fap; exact rfl; exact rfl) | (apply ef_box; exact rfl; exact rfl; exact rfl; exact rfl) | (apply ef_new; exact rfl) | (apply ef_build; exact rfl; (repeat (apply XVs.cons; exact rfl)); exact XVs.nil; exact rfl; exact rfl) | (apply ef_st; exact rfl; exact rfl; exact rfl; exact rfl; exact rfl; exact rfl; (exact rfl); exact rfl) | apply ef_nil | apply seqQ.normal | apply ef_ret | (apply ef_call; exact rfl; ((repeat (apply XVs.cons; exact rfl)); exact XVs.nil); (with_reducible first | exact h1 _ | exact h2 _)))
    (apply fin_c1; (· exact rfl); (· exact rfl); (· exact rfl); (· exact rfl); (· exact rfl); (· exact rd_5 rfl rfl rfl rfl rfl); (· simp); (· simp [frz, MV.lt, ltL, ltL_I, List.mapM_cons, t1, t2]))
  have := callA (k := k + 1) (h := h) (frzL_lt (ms := [encS a b c fl lo]) (by simp [ltL, MV.lt, ltL_I])) rfl hz (by simp [okV, ok1, MV.lt, MV.pure, ltL, ltL_I]) rfl
  simpa [shV, sh1] using this
end Go.Proofs.Ytgjpdjihjphbdaa
