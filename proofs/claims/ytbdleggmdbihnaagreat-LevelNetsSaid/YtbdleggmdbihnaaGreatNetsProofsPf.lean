/- A slice of the call's own is given up. -/
import Derived.Test.YtbdleggmdbihnaaGreatNetsProofsPe
/- Contracts: the reference's check of a net. -/
namespace Go.Proofs.YtbdleggmdbihnaaGreat
open Go.RowKit
set_option linter.unusedVariables false
abbrev encS (s : ByteArray) : MV := .lit (.string s)
theorem ltL_S (n : Nat) (ls : List ByteArray) : ltL n (ls.map encS) = true := ltL_lits (fun _ => rfl) ls
theorem mf_bIsName : MT.mf 82 = some ⟨55, [(.tmp 2)], (.seq (.reg [⟨none, some 2, .mv (.c (.lit (.bool false)))⟩]) (.seq (.seq (.reg [⟨none, some 6, .mv (.s 0)⟩, ⟨none, some 7, .sln (.s 6)⟩, ⟨none, some 8, .bin .lss (.s 7) (.c (.lit (.int .i64 1)))⟩, ⟨none, some 9, .mv (.s 8)⟩, ⟨some (9, false), some 10, .mv (.s 0)⟩, ⟨some (9, false), some 11, .sln (.s 10)⟩, ⟨some (9, false), some 12, .bin .gtr (.s 11) (.c (.lit (.int .i64 12)))⟩, ⟨none, some 13, .pick (.s 9) (.c (.lit (.bool true))) (.s 12)⟩]) (.cond (.s 13) (.seq (.reg [⟨none, some 2, .mv (.c (.lit (.bool false)))⟩]) .ret) .skip)) (.seq (.seq (.reg [⟨none, some 3, .mv (.c (.lit (.int .i64 0)))⟩]) (.block 0 (.loop [3, 0] (.seq (.seq (.reg [⟨none, some 14, .mv (.s 3)⟩, ⟨none, some 15, .mv (.s 0)⟩, ⟨none, some 16, .sln (.s 15)⟩, ⟨none, some 17, .bin .lss (.s 14) (.s 16)⟩]) (.cond (.s 17) .skip (.exit 0))) (.seq (.block 1 (.seq (.reg [⟨none, some 20, .mv (.s 0)⟩, ⟨none, some 21, .mv (.s 3)⟩, ⟨none, some 22, .sx (.s 20) (.s 21)⟩, ⟨none, some 4, .mv (.s 22)⟩]) (.seq (.reg [⟨none, some 23, .mv (.s 4)⟩, ⟨none, some 24, .bin .geq (.s 23) (.c (.lit (.int .u8 97)))⟩, ⟨none, some 25, .mv (.s 24)⟩, ⟨some (25, true), some 26, .mv (.s 4)⟩, ⟨some (25, true), some 27, .bin .leq (.s 26) (.c (.lit (.int .u8 122)))⟩, ⟨none, some 28, .pick (.s 25) (.s 27) (.c (.lit (.bool false)))⟩, ⟨none, some 29, .mv (.s 28)⟩, ⟨some (29, false), some 30, .mv (.s 4)⟩, ⟨some (29, false), some 31, .bin .geq (.s 30) (.c (.lit (.int .u8 65)))⟩, ⟨some (29, false), some 32, .mv (.s 31)⟩, ⟨some (32, true), some 33, .mv (.s 4)⟩, ⟨some (32, true), some 34, .bin .leq (.s 33) (.c (.lit (.int .u8 90)))⟩, ⟨some (29, false), some 35, .pick (.s 32) (.s 34) (.c (.lit (.bool false)))⟩, ⟨none, some 36, .pick (.s 29) (.c (.lit (.bool true))) (.s 35)⟩, ⟨none, some 5, .mv (.s 36)⟩]) (.seq (.reg [⟨none, some 37, .mv (.s 5)⟩, ⟨none, some 38, .un .not (.s 37)⟩, ⟨none, some 39, .mv (.s 38)⟩, ⟨some (39, true), some 40, .mv (.s 3)⟩, ⟨some (39, true), some 41, .bin .eql (.s 40) (.c (.lit (.int .i64 0)))⟩, ⟨some (39, true), some 42, .mv (.s 41)⟩, ⟨some (42, false), some 43, .mv (.s 4)⟩, ⟨some (42, false), some 44, .bin .neq (.s 43) (.c (.lit (.int .u8 45)))⟩, ⟨some (42, false), some 45, .mv (.s 44)⟩, ⟨some (45, true), some 46, .mv (.s 4)⟩, ⟨some (45, true), some 47, .bin .lss (.s 46) (.c (.lit (.int .u8 48)))⟩, ⟨some (45, true), some 48, .mv (.s 47)⟩, ⟨some (48, false), some 49, .mv (.s 4)⟩, ⟨some (48, false), some 50, .bin .gtr (.s 49) (.c (.lit (.int .u8 57)))⟩, ⟨some (45, true), some 51, .pick (.s 48) (.c (.lit (.bool true))) (.s 50)⟩, ⟨some (42, false), some 52, .pick (.s 45) (.s 51) (.c (.lit (.bool false)))⟩, ⟨some (39, true), some 53, .pick (.s 42) (.c (.lit (.bool true))) (.s 52)⟩, ⟨none, some 54, .pick (.s 39) (.s 53) (.c (.lit (.bool false)))⟩]) (.cond (.s 54) (.seq (.reg [⟨none, some 2, .mv (.c (.lit (.bool false)))⟩]) .ret) .skip))))) (.reg [⟨none, some 18, .mv (.s 3)⟩, ⟨none, some 19, .bin .add (.s 18) (.c (.lit (.int .i64 1)))⟩, ⟨none, some 3, .mv (.s 19)⟩])))))) (.seq (.reg [⟨none, some 2, .mv (.c (.lit (.bool true)))⟩]) .ret))))⟩ := by kernel_rfl
set_option maxHeartbeats 1000000 in
theorem bIsName_z (k : Nat) (s : ByteArray) (hs : s.size ≤ 1000) : runZ MT (orA k) (itA k) 4000000 82 [.lit (.string s)] [] = some (Bo (nmB s), []) := by
  obtain ⟨bs, hbs⟩ : ∃ bs, s.data.toList = bs := ⟨_, rfl⟩
  have hbl : bs.length = s.size := by rw [← hbs, Array.length_toList]; rfl
  have HNM := Lib.hid (show nmB s = (allNb 0 bs && inB s.size 1 12) by rw [← hbs]; rfl)
  refine runZ_of mf_bIsName (by simp) ?_
  simp only [argsL]
  by_cases h1 : s.size < 1
  · repeat (first | apply ef_seq | (apply ef_mv; exact rfl; exact rfl) | (apply ef_bin; exact rfl; exact rfl; exact rfl; (exact cmp_t rfl (by first | exact rfl | (simp only [cmpP]; omega)))) | (apply ef_gn; exact rfl; (exact (rfl : true = true)); exact rfl) | (apply ef_pick; exact rfl; exact rfl; exact rfl) | (apply ef_sln; exact rfl; exact rfl) | apply ef_nil | apply seqQ.normal | apply ef_ret | apply seqQ.ret | (apply ef_condt; exact rfl; (exact (rfl : true = true))))
    (refine fin1 rfl (by exact rfl) rfl ?_)
    rw [HNM.out, inB_not.2 (by omega)]; simp
  · by_cases h2 : s.size > 12
    · repeat (first | apply ef_seq | (apply ef_mv; exact rfl; exact rfl) | (apply ef_bin; exact rfl; exact rfl; exact rfl; (first | exact cmp_t rfl (by first | exact rfl | (simp only [cmpP]; omega)) | exact cmp_f rfl (by simp only [cmpP]; omega))) | (apply ef_gy; exact rfl; (exact (rfl : false = false))) | (apply ef_pick; exact rfl; exact rfl; exact rfl) | (apply ef_sln; exact rfl; exact rfl) | apply ef_nil | apply seqQ.normal | apply ef_ret | apply seqQ.ret | (apply ef_condt; exact rfl; (exact (rfl : true = true))))
      (refine fin1 rfl (by exact rfl) rfl ?_)
      rw [HNM.out, inB_not.2 (by omega)]; simp
    · repeat (first | apply ef_seq | (apply ef_mv; exact rfl; exact rfl) | (apply ef_bin; exact rfl; exact rfl; exact rfl; (exact cmp_f rfl (by simp only [cmpP]; omega))) | (apply ef_gy; exact rfl; (exact (rfl : false = false))) | (apply ef_pick; exact rfl; exact rfl; exact rfl) | (apply ef_sln; exact rfl; exact rfl) | apply ef_nil | apply seqQ.normal | apply ef_block | apply ef_skip | (apply ef_condf; exact rfl; (exact (rfl : false = false))))
      refine ef_loopf (α := Nat) (fun i => i ≤ bs.length ∧ allNb 0 bs = allNb i (bs.drop i)) (fun i => [(3, I64 (i : Int))]) [(0, .lit (.string s))] (fun _ => []) (fun i => bs.length - i) 0 [3] (fun _ => rfl) (by ((repeat (refine Hold.cons (by exact rfl) ?_)); exact Hold.nil)) (by ((repeat (refine Hold.cons (by exact rfl) ?_)); exact Hold.nil)) rfl rfl ⟨by omega, rfl⟩ (by simp; omega) ?_
      rintro i ⟨hi, hz⟩
      try simp only at hi hz ⊢
      by_cases hlt : i < bs.length
      · have e1 : s.data.toList[((i : Nat) : Int).toNat]? = some bs[i] := by rw [hbs, Int.toNat_natCast, List.getElem?_eq_getElem hlt]
        have HS := Lib.hid (allNb_step hlt)
        have HZ := Lib.hid hz
        clear hz
        generalize bs[i] = c at e1 HS
        have hc := c.toNat_lt
        have HB := Lib.hid (show nbB i c = (letB c || (decide (i ≠ 0) && (decide (c.toNat = 45) || (decide (48 ≤ c.toNat) && decide (c.toNat ≤ 57))))) from rfl)
        have hfin : nbB i c = false → RowKit.Hid (nmB s = false) := fun hn => Lib.hid (by rw [HNM.out, HZ.out, HS.out, hn]; simp)
        have hgo : nbB i c = true → RowKit.Hid (allNb 0 bs = allNb (i + 1) (bs.drop (i + 1))) := fun hn => Lib.hid (by rw [HZ.out, HS.out, hn]; simp)
        by_cases a1 : 97 ≤ c.toNat
        · by_cases a2 : c.toNat ≤ 122
          · have HG := hgo (by rw [HB.out]; simp [letB, a1, a2])
            clear hfin hgo
            repeat (first | apply ef_seq | (apply ef_mv; exact rfl; exact rfl) | (apply ef_bin; exact rfl; exact rfl; exact rfl; (first | exact cmp_t rfl (by first | exact rfl | (simp only [cmpP]; omega)) | ((with_reducible refine bin_add (wrap_of ?_ ?_)) <;> omega))) | (apply ef_gy; exact rfl; (exact (rfl : true = true))) | (apply ef_gn; exact rfl; (first | exact (rfl : true = true) | exact (rfl : false = false)); exact rfl) | (apply ef_gu; exact rfl; exact rfl) | (apply ef_pick; exact rfl; exact rfl; exact rfl) | (apply ef_notT; exact rfl; exact rfl) | (apply ef_sx; exact rfl; exact rfl; exact rfl; omega; (assumption)) | (apply ef_sln; exact rfl; exact rfl) | apply ef_nil | apply seqQ.normal | apply blockQ.normal | apply ef_block | apply ef_skip | (apply ef_condt; exact rfl; (exact (rfl : true = true))) | (apply ef_condf; exact rfl; (exact (rfl : false = false))))
            (refine loopQ.normal _ _ ⟨i + 1, ⟨hlt, HG.out⟩, (by first | (simp only; omega) | omega), ⟨by ((repeat (refine Hold.cons (by exact rfl) ?_)); exact Hold.nil), by ((repeat (refine Hold.cons (by exact rfl) ?_)); exact Hold.nil)⟩, .inl (Nat.le_refl _), (by first | exact List.take_length | exact rfl | exact takeF rfl rfl)⟩)
          · have HG := hfin (by rw [HB.out]; simp [letB]; omega)
            clear hfin hgo
            by_cases h0 : i = 0
            · repeat (first | apply ef_seq | (apply ef_mv; exact rfl; exact rfl) | (apply ef_bin; exact rfl; exact rfl; exact rfl; (first | exact cmp_t rfl (by first | exact rfl | (simp only [cmpP]; omega)) | exact cmp_f rfl (by simp only [cmpP]; omega))) | (apply ef_gy; exact rfl; (first | exact (rfl : true = true) | exact (rfl : false = false))) | (apply ef_gn; exact rfl; (exact (rfl : true = true)); exact rfl) | (apply ef_gu; exact rfl; exact rfl) | (apply ef_pick; exact rfl; exact rfl; exact rfl) | (apply ef_notF; exact rfl; exact rfl) | (apply ef_sx; exact rfl; exact rfl; exact rfl; omega; (assumption)) | (apply ef_sln; exact rfl; exact rfl) | apply ef_nil | apply seqQ.normal | apply loopQ.ret | apply ef_ret | apply seqQ.ret | apply blockQ.ret | apply ef_block | apply ef_skip | (apply ef_condt; exact rfl; (exact (rfl : true = true))))
              (refine fin1 rfl (by exact rfl) rfl ?_)
              rw [HG.out]
            · repeat (first | apply ef_seq | (apply ef_mv; exact rfl; exact rfl) | (apply ef_bin; exact rfl; exact rfl; exact rfl; (first | exact cmp_t rfl (by first | exact rfl | (simp only [cmpP]; omega)) | exact cmp_f rfl (by simp only [cmpP]; omega))) | (apply ef_gy; exact rfl; (first | exact (rfl : true = true) | exact (rfl : false = false))) | (apply ef_pick; exact rfl; exact rfl; exact rfl) | (apply ef_notF; exact rfl; exact rfl) | (apply ef_sx; exact rfl; exact rfl; exact rfl; omega; (assumption)) | (apply ef_sln; exact rfl; exact rfl) | apply ef_nil | apply seqQ.normal | apply loopQ.ret | apply ef_ret | apply seqQ.ret | apply blockQ.ret | apply ef_block | apply ef_skip | (apply ef_condt; exact rfl; (exact (rfl : true = true))))
              (refine fin1 rfl (by exact rfl) rfl ?_)
              rw [HG.out]
        · by_cases a3 : 65 ≤ c.toNat
          · by_cases a4 : c.toNat ≤ 90
            · have HG := hgo (by rw [HB.out]; simp [letB]; omega)
              clear hfin hgo
              repeat (first | apply ef_seq | (apply ef_mv; exact rfl; exact rfl) | (apply ef_bin; exact rfl; exact rfl; exact rfl; (first | exact cmp_t rfl (by first | exact rfl | (simp only [cmpP]; omega)) | exact cmp_f rfl (by simp only [cmpP]; omega) | ((with_reducible refine bin_add (wrap_of ?_ ?_)) <;> omega))) | (apply ef_gy; exact rfl; (first | exact (rfl : true = true) | exact (rfl : false = false))) | (apply ef_gn; exact rfl; (exact (rfl : false = false)); exact rfl) | (apply ef_gu; exact rfl; exact rfl) | (apply ef_pick; exact rfl; exact rfl; exact rfl) | (apply ef_notT; exact rfl; exact rfl) | (apply ef_sx; exact rfl; exact rfl; exact rfl; omega; (assumption)) | (apply ef_sln; exact rfl; exact rfl) | apply ef_nil | apply seqQ.normal | apply blockQ.normal | apply ef_block | apply ef_skip | (apply ef_condt; exact rfl; (exact (rfl : true = true))) | (apply ef_condf; exact rfl; (exact (rfl : false = false))))
              (refine loopQ.normal _ _ ⟨i + 1, ⟨hlt, HG.out⟩, (by first | (simp only; omega) | omega), ⟨by ((repeat (refine Hold.cons (by exact rfl) ?_)); exact Hold.nil), by ((repeat (refine Hold.cons (by exact rfl) ?_)); exact Hold.nil)⟩, .inl (Nat.le_refl _), (by first | exact List.take_length | exact rfl | exact takeF rfl rfl)⟩)
            · have HG := hfin (by rw [HB.out]; simp [letB]; omega)
              clear hfin hgo
              by_cases h0 : i = 0
              · repeat (first | apply ef_seq | (apply ef_mv; exact rfl; exact rfl) | (apply ef_bin; exact rfl; exact rfl; exact rfl; (first | exact cmp_t rfl (by first | exact rfl | (simp only [cmpP]; omega)) | exact cmp_f rfl (by simp only [cmpP]; omega))) | (apply ef_gy; exact rfl; (first | exact (rfl : true = true) | exact (rfl : false = false))) | (apply ef_gn; exact rfl; (first | exact (rfl : true = true) | exact (rfl : false = false)); exact rfl) | (apply ef_gu; exact rfl; exact rfl) | (apply ef_pick; exact rfl; exact rfl; exact rfl) | (apply ef_notF; exact rfl; exact rfl) | (apply ef_sx; exact rfl; exact rfl; exact rfl; omega; (assumption)) | (apply ef_sln; exact rfl; exact rfl) | apply ef_nil | apply seqQ.normal | apply loopQ.ret | apply ef_ret | apply seqQ.ret | apply blockQ.ret | apply ef_block | apply ef_skip | (apply ef_condt; exact rfl; (exact (rfl : true = true))))
                (refine fin1 rfl (by exact rfl) rfl ?_)
                rw [HG.out]
              · repeat (first | apply ef_seq | (apply ef_mv; exact rfl; exact rfl) | (apply ef_bin; exact rfl; exact rfl; exact rfl; (first | exact cmp_t rfl (by first | exact rfl | (simp only [cmpP]; omega)) | exact cmp_f rfl (by simp only [cmpP]; omega))) | (apply ef_gy; exact rfl; (first | exact (rfl : true = true) | exact (rfl : false = false))) | (apply ef_gn; exact rfl; (exact (rfl : false = false)); exact rfl) | (apply ef_pick; exact rfl; exact rfl; exact rfl) | (apply ef_notF; exact rfl; exact rfl) | (apply ef_sx; exact rfl; exact rfl; exact rfl; omega; (assumption)) | (apply ef_sln; exact rfl; exact rfl) | apply ef_nil | apply seqQ.normal | apply loopQ.ret | apply ef_ret | apply seqQ.ret | apply blockQ.ret | apply ef_block | apply ef_skip | (apply ef_condt; exact rfl; (exact (rfl : true = true))))
                (refine fin1 rfl (by exact rfl) rfl ?_)
                rw [HG.out]
          · by_cases h0 : i = 0
            · have HG := hfin (by rw [HB.out]; simp [letB, h0]; omega)
              clear hfin hgo
              repeat (first | apply ef_seq | (apply ef_mv; exact rfl; exact rfl) | (apply ef_bin; exact rfl; exact rfl; exact rfl; (first | exact cmp_t rfl (by first | exact rfl | (simp only [cmpP]; omega)) | exact cmp_f rfl (by simp only [cmpP]; omega))) | (apply ef_gy; exact rfl; (first | exact (rfl : true = true) | exact (rfl : false = false))) | (apply ef_gn; exact rfl; (first | exact (rfl : true = true) | exact (rfl : false = false)); exact rfl) | (apply ef_gu; exact rfl; exact rfl) | (apply ef_pick; exact rfl; exact rfl; exact rfl) | (apply ef_notF; exact rfl; exact rfl) | (apply ef_sx; exact rfl; exact rfl; exact rfl; omega; (assumption)) | (apply ef_sln; exact rfl; exact rfl) | apply ef_nil | apply seqQ.normal | apply loopQ.ret | apply ef_ret | apply seqQ.ret | apply blockQ.ret | apply ef_block | apply ef_skip | (apply ef_condt; exact rfl; (exact (rfl : true = true))))
              (refine fin1 rfl (by exact rfl) rfl ?_)
              rw [HG.out]
            · by_cases h45 : c.toNat = 45
              · have HG := hgo (by rw [HB.out]; simp [h0, h45])
                clear hfin hgo
                repeat (first | apply ef_seq | (apply ef_mv; exact rfl; exact rfl) | (apply ef_bin; exact rfl; exact rfl; exact rfl; (first | exact cmp_t rfl (by first | exact rfl | (simp only [cmpP]; omega)) | exact cmp_f rfl (by simp only [cmpP]; omega) | ((with_reducible refine bin_add (wrap_of ?_ ?_)) <;> omega))) | (apply ef_gy; exact rfl; (first | exact (rfl : true = true) | exact (rfl : false = false))) | (apply ef_gn; exact rfl; (exact (rfl : false = false)); exact rfl) | (apply ef_gu; exact rfl; exact rfl) | (apply ef_pick; exact rfl; exact rfl; exact rfl) | (apply ef_notF; exact rfl; exact rfl) | (apply ef_sx; exact rfl; exact rfl; exact rfl; omega; (assumption)) | (apply ef_sln; exact rfl; exact rfl) | apply ef_nil | apply seqQ.normal | apply blockQ.normal | apply ef_block | apply ef_skip | (apply ef_condt; exact rfl; (exact (rfl : true = true))) | (apply ef_condf; exact rfl; (exact (rfl : false = false))))
                (refine loopQ.normal _ _ ⟨i + 1, ⟨hlt, HG.out⟩, (by first | (simp only; omega) | omega), ⟨by ((repeat (refine Hold.cons (by exact rfl) ?_)); exact Hold.nil), by ((repeat (refine Hold.cons (by exact rfl) ?_)); exact Hold.nil)⟩, .inl (Nat.le_refl _), (by first | exact List.take_length | exact rfl | exact takeF rfl rfl)⟩)
              · by_cases d1 : c.toNat < 48
                · have HG := hfin (by rw [HB.out]; simp [letB]; omega)
                  clear hfin hgo
                  repeat (first | apply ef_seq | (apply ef_mv; exact rfl; exact rfl) | (apply ef_bin; exact rfl; exact rfl; exact rfl; (first | exact cmp_t rfl (by first | exact rfl | (simp only [cmpP]; omega)) | exact cmp_f rfl (by simp only [cmpP]; omega))) | (apply ef_gy; exact rfl; (first | exact (rfl : true = true) | exact (rfl : false = false))) | (apply ef_gn; exact rfl; (first | exact (rfl : true = true) | exact (rfl : false = false)); exact rfl) | (apply ef_pick; exact rfl; exact rfl; exact rfl) | (apply ef_notF; exact rfl; exact rfl) | (apply ef_sx; exact rfl; exact rfl; exact rfl; omega; (assumption)) | (apply ef_sln; exact rfl; exact rfl) | apply ef_nil | apply seqQ.normal | apply loopQ.ret | apply ef_ret | apply seqQ.ret | apply blockQ.ret | apply ef_block | apply ef_skip | (apply ef_condt; exact rfl; (exact (rfl : true = true))))
                  (refine fin1 rfl (by exact rfl) rfl ?_)
                  rw [HG.out]
                · by_cases d2 : 57 < c.toNat
                  · have HG := hfin (by rw [HB.out]; simp [letB]; omega)
                    clear hfin hgo
                    repeat (first | apply ef_seq | (apply ef_mv; exact rfl; exact rfl) | (apply ef_bin; exact rfl; exact rfl; exact rfl; (first | exact cmp_t rfl (by first | exact rfl | (simp only [cmpP]; omega)) | exact cmp_f rfl (by simp only [cmpP]; omega))) | (apply ef_gy; exact rfl; (first | exact (rfl : true = true) | exact (rfl : false = false))) | (apply ef_gn; exact rfl; (exact (rfl : false = false)); exact rfl) | (apply ef_pick; exact rfl; exact rfl; exact rfl) | (apply ef_notF; exact rfl; exact rfl) | (apply ef_sx; exact rfl; exact rfl; exact rfl; omega; (assumption)) | (apply ef_sln; exact rfl; exact rfl) | apply ef_nil | apply seqQ.normal | apply loopQ.ret | apply ef_ret | apply seqQ.ret | apply blockQ.ret | apply ef_block | apply ef_skip | (apply ef_condt; exact rfl; (exact (rfl : true = true))))
                    (refine fin1 rfl (by exact rfl) rfl ?_)
                    rw [HG.out]
                  · have HG := hgo (by rw [HB.out]; simp [letB]; omega)
                    clear hfin hgo
                    repeat (first | apply ef_seq | (apply ef_mv; exact rfl; exact rfl) | (apply ef_bin; exact rfl; exact rfl; exact rfl; (first | exact cmp_t rfl (by first | exact rfl | (simp only [cmpP]; omega)) | exact cmp_f rfl (by simp only [cmpP]; omega) | ((with_reducible refine bin_add (wrap_of ?_ ?_)) <;> omega))) | (apply ef_gy; exact rfl; (first | exact (rfl : true = true) | exact (rfl : false = false))) | (apply ef_gn; exact rfl; (exact (rfl : false = false)); exact rfl) | (apply ef_pick; exact rfl; exact rfl; exact rfl) | (apply ef_notF; exact rfl; exact rfl) | (apply ef_sx; exact rfl; exact rfl; exact rfl; omega; (assumption)) | (apply ef_sln; exact rfl; exact rfl) | apply ef_nil | apply seqQ.normal | apply blockQ.normal | apply ef_block | apply ef_skip | (apply ef_condt; exact rfl; (exact (rfl : true = true))) | (apply ef_condf; exact rfl; (exact (rfl : false = false))))
                    (refine loopQ.normal _ _ ⟨i + 1, ⟨hlt, HG.out⟩, (by first | (simp only; omega) | omega), ⟨by ((repeat (refine Hold.cons (by exact rfl) ?_)); exact Hold.nil), by ((repeat (refine Hold.cons (by exact rfl) ?_)); exact Hold.nil)⟩, .inl (Nat.le_refl _), (by first | exact List.take_length | exact rfl | exact takeF rfl rfl)⟩)
      · repeat (first | apply ef_seq | (apply ef_mv; exact rfl; exact rfl) | (apply ef_bin; exact rfl; exact rfl; exact rfl; (exact cmp_f rfl (by simp only [cmpP]; omega))) | (apply ef_sln; exact rfl; exact rfl) | apply ef_nil | apply seqQ.normal | apply loopQ.exit | apply ef_ret | apply ef_exit | apply seqQ.exit | apply blockQ.here | (apply ef_condf; exact rfl; (exact (rfl : false = false))))
        (refine fin1 rfl (by exact rfl) rfl ?_)
        rw [HNM.out, hz, List.drop_eq_nil_of_le (by omega), inB_iff.2 (by omega)]; rfl
theorem bIsName_c (k : Nat) (s : ByteArray) (hs : s.size ≤ 1000) (h : MHeap) : orA (k + 1) 82 [.lit (.string s)] h = some (Bo (nmB s), h) :=
  callL (args' := [.lit (.string s)]) (frzL_lt rfl) rfl (bIsName_z k s hs)
theorem mf_HasText : MT.mf 83 = some ⟨18, [(.tmp 4)], (.seq (.reg [⟨none, some 4, .mv (.c (.lit (.bool false)))⟩]) (.seq (.seq (.reg [⟨none, some 5, .mv (.c (.lit (.int .i64 0)))⟩]) (.block 0 (.loop [5, 0, 1] (.seq (.seq (.reg [⟨none, some 6, .mv (.s 5)⟩, ⟨none, some 7, .mv (.s 0)⟩, ⟨none, some 8, .len (.s 7)⟩, ⟨none, some 9, .bin .lss (.s 6) (.s 8)⟩]) (.cond (.s 9) .skip (.exit 0))) (.seq (.block 1 (.seq (.reg [⟨none, some 12, .mv (.s 0)⟩, ⟨none, some 13, .mv (.s 5)⟩, ⟨none, some 14, .ia 1 (.s 12) (.s 13)⟩, ⟨none, some 15, .ld none (.s 14)⟩, ⟨none, some 16, .mv (.s 1)⟩, ⟨none, some 17, .seq false (.s 15) (.s 16)⟩]) (.cond (.s 17) (.seq (.reg [⟨none, some 4, .mv (.c (.lit (.bool true)))⟩]) .ret) .skip))) (.reg [⟨none, some 10, .mv (.s 5)⟩, ⟨none, some 11, .bin .add (.s 10) (.c (.lit (.int .i64 1)))⟩, ⟨none, some 5, .mv (.s 11)⟩])))))) (.seq (.reg [⟨none, some 4, .mv (.c (.lit (.bool false)))⟩]) .ret)))⟩ := by kernel_rfl
theorem HasText_z (k : Nat) (xs : List ByteArray) (s : ByteArray) (hx : xs.length ≤ 1000) : runZ MT (orA k) (itA k) 4000000 83 [.sl (xs.map encS), encS s] [] = some (Bo (xs.any (· == s)), []) := by
  have hl : (MV.sl (xs.map encS)).slen = some xs.length := by simp [MV.slen]
  refine runZ_of mf_HasText (by simp) ?_
  simp only [argsL]
  repeat (first | apply ef_seq | (apply ef_mv; exact rfl; exact rfl) | apply ef_nil | apply seqQ.normal | apply ef_block)
  refine ef_loopf (α := Nat) (fun i => i ≤ xs.length ∧ xs.any (· == s) = (xs.drop i).any (· == s)) (fun i => [(5, I64 (i : Int))]) [(0, .sl (xs.map encS)), (1, encS s)] (fun _ => []) (fun i => xs.length - i) 0 [5] (fun _ => rfl) (by ((repeat (refine Hold.cons (by exact rfl) ?_)); exact Hold.nil)) (by ((repeat (refine Hold.cons (by exact rfl) ?_)); exact Hold.nil)) rfl rfl ⟨by omega, rfl⟩ (by simp; omega) ?_
  rintro i ⟨hi, hz⟩
  try simp only at hi hz ⊢
  by_cases hlt : i < xs.length
  · have e1 := at_map encS xs i hlt
    have HS := Lib.hid (drop_at xs i hlt)
    have HZ := Lib.hid hz
    clear hz
    generalize xs[i] = x at e1 HS
    have hb : (negIf false (x == s)) = (x == s) := rfl
    generalize hq : (x == s) = q at hb
    have HQ := Lib.hid hq
    clear hq
    cases q
    · repeat (first | apply ef_seq | (apply ef_mv; exact rfl; exact rfl) | (apply ef_bin; exact rfl; exact rfl; exact rfl; (first | exact cmp_t rfl (by first | exact rfl | (simp only [cmpP]; omega)) | ((with_reducible refine bin_add (wrap_of ?_ ?_)) <;> omega))) | (apply ef_len; exact rfl; exact rfl; (assumption)) | (apply ef_ldr; exact rfl; exact rfl; (exact rfl)) | (apply ef_ias; exact rfl; exact rfl; exact rfl; (omega); assumption; exact rfl) | (apply ef_sq; exact rfl; exact rfl; exact rfl) | apply ef_nil | apply seqQ.normal | apply blockQ.normal | apply ef_block | apply ef_skip | (apply ef_condt; exact rfl; (exact (rfl : true = true))) | (apply ef_condf; exact rfl; (assumption)))
      (refine loopQ.normal _ _ ⟨i + 1, ⟨hlt, by rw [HZ.out, HS.out, List.any_cons, HQ.out]; rfl⟩, (by first | (simp only; omega) | omega), ⟨by ((repeat (refine Hold.cons (by exact rfl) ?_)); exact Hold.nil), by ((repeat (refine Hold.cons (by exact rfl) ?_)); exact Hold.nil)⟩, .inl (Nat.le_refl _), (by first | exact List.take_length | exact rfl | exact takeF rfl rfl)⟩)
    · repeat (first | apply ef_seq | (apply ef_mv; exact rfl; exact rfl) | (apply ef_bin; exact rfl; exact rfl; exact rfl; (exact cmp_t rfl (by first | exact rfl | (simp only [cmpP]; omega)))) | (apply ef_len; exact rfl; exact rfl; (assumption)) | (apply ef_ldr; exact rfl; exact rfl; (exact rfl)) | (apply ef_ias; exact rfl; exact rfl; exact rfl; (omega); assumption; exact rfl) | (apply ef_sq; exact rfl; exact rfl; exact rfl) | apply ef_nil | apply seqQ.normal | apply loopQ.ret | apply ef_ret | apply seqQ.ret | apply blockQ.ret | apply ef_block | apply ef_skip | (apply ef_condt; exact rfl; (first | exact (rfl : true = true) | assumption)))
      (refine fin1 rfl (by exact rfl) rfl ?_)
      rw [HZ.out, HS.out, List.any_cons, HQ.out]; rfl
  · repeat (first | apply ef_seq | (apply ef_mv; exact rfl; exact rfl) | (apply ef_bin; exact rfl; exact rfl; exact rfl; (exact cmp_f rfl (by simp only [cmpP]; omega))) | (apply ef_len; exact rfl; exact rfl; (assumption)) | apply ef_nil | apply seqQ.normal | apply loopQ.exit | apply ef_ret | apply ef_exit | apply seqQ.exit | apply blockQ.here | (apply ef_condf; exact rfl; (exact (rfl : false = false))))
    (refine fin1 rfl (by exact rfl) rfl ?_)
    rw [hz, List.drop_eq_nil_of_le (by omega)]; rfl
theorem HasText_c (k : Nat) (xs : List ByteArray) (s : ByteArray) (hx : xs.length ≤ 1000) (h : MHeap) {v : MV} (hv : frz 0 [] h 8 v = some (.sl (xs.map encS))) {t : Bool} (ht : xs.any (· == s) = t) : orA (k + 1) 83 [v, encS s] h = some (Bo t, h) :=
  callL (args' := [.sl (xs.map encS), encS s]) (by simp [List.mapM_cons, hv, frz_lt (m := encS s) rfl]) rfl (by rw [← ht]; exact HasText_z k xs s hx)
theorem mf_IsLine : MT.mf 63 = some ⟨11, [(.tmp 4)], (.seq (.reg [⟨none, some 2, .box 2 (.s 0)⟩, ⟨none, some 4, .mv (.c (.lit (.bool false)))⟩]) (.seq (.reg [⟨none, some 5, .mv (.s 1)⟩, ⟨none, some 6, .fa 0 (.s 2)⟩, ⟨none, some 7, .ld none (.s 6)⟩, ⟨none, some 8, .len (.s 7)⟩, ⟨none, some 9, .bin .sub (.s 8) (.c (.lit (.int .i64 1)))⟩, ⟨none, some 10, .call 39 [.s 5, (.c (.lit (.int .i64 0))), .s 9]⟩, ⟨none, some 4, .mv (.s 10)⟩]) .ret))⟩ := by kernel_rfl
theorem IsLine_c (k : Nat) (n : Nt) (i : Int) (hn : n.ls.length ≤ 1000) (h : MHeap) {b : Bool} (hb : inB i 0 ((n.ls.length : Int) - 1) = b) : orA (k + 2) 63 [encN n, I64 i] h = some (Bo b, h) := by
  have hs1 : (MV.sl (n.ls.map encLn)).slen = some n.ls.length := by simp [MV.slen]
  refine callL (args' := [encN n, I64 i]) (frzL_lt (by simp [ltL, MV.lt, ltL_Ln, ltL_Cr])) rfl (runZ_of mf_IsLine (by simp) ?_)
  simp only [argsL]
  have hw := fun h => Within_c k i 0 ((n.ls.length : Int) - 1) h hb
  repeat (first | apply ef_seq | (apply ef_mv; exact rfl; exact rfl) | (apply ef_bin; exact rfl; exact rfl; exact rfl; (((with_reducible refine bin_sub (wrap_of ?_ ?_)) <;> omega))) | (apply ef_len; exact rfl; exact rfl; (assumption)) | (apply ef_ldp; exact rfl; exact rfl; (exact rfl); exact rfl; (exact rfl); (exact rfl)) | (apply ef_fap; exact rfl; exact rfl) | (apply ef_box; exact rfl; exact rfl; exact rfl; exact rfl) | apply ef_nil | apply seqQ.normal | apply ef_ret | (apply ef_call; exact rfl; ((repeat (apply XVs.cons; exact rfl)); exact XVs.nil); (with_reducible exact hw _)))
  (refine fin1 rfl (by exact rfl) rfl ?_)
  rfl
theorem mf_risPosition : MT.mf 64 = some ⟨5, [(.tmp 2)], (.seq (.reg [⟨none, some 2, .mv (.c (.lit (.bool false)))⟩]) (.seq (.reg [⟨none, some 3, .mv (.s 0)⟩, ⟨none, some 4, .call 39 [.s 3, (.c (.lit (.int .i64 0))), (.c (.lit (.int .i64 1000000)))]⟩, ⟨none, some 2, .mv (.s 4)⟩]) .ret))⟩ := by kernel_rfl
theorem risPosition_c (k : Nat) (n : Int) (h : MHeap) {b : Bool} (hb : inB n 0 1000000 = b) : orA (k + 2) 64 [I64 n] h = some (Bo b, h) := by
  refine callL (args' := [I64 n]) (frzL_lt rfl) rfl (runZ_of mf_risPosition (by simp) ?_)
  simp only [argsL]
  have hw := fun h => Within_c k n 0 1000000 h hb
  repeat (first | apply ef_seq | (apply ef_mv; exact rfl; exact rfl) | apply ef_nil | apply seqQ.normal | apply ef_ret | (apply ef_call; exact rfl; ((repeat (apply XVs.cons; exact rfl)); exact XVs.nil); (with_reducible exact hw _)))
  (refine fin1 rfl (by exact rfl) rfl ?_)
  rfl
theorem mf_IsDifference : MT.mf 84 = some ⟨5, [(.tmp 2)], (.seq (.reg [⟨none, some 2, .mv (.c (.lit (.bool false)))⟩]) (.seq (.reg [⟨none, some 3, .mv (.s 0)⟩, ⟨none, some 4, .call 39 [.s 3, (.c (.lit (.int .i64 (-10000)))), (.c (.lit (.int .i64 10000)))]⟩, ⟨none, some 2, .mv (.s 4)⟩]) .ret))⟩ := by kernel_rfl
theorem IsDifference_c (k : Nat) (n : Int) (h : MHeap) {b : Bool} (hb : inB n (-10000) 10000 = b) : orA (k + 2) 84 [I64 n] h = some (Bo b, h) := by
  refine callL (args' := [I64 n]) (frzL_lt rfl) rfl (runZ_of mf_IsDifference (by simp) ?_)
  simp only [argsL]
  have hw := fun h => Within_c k n (-10000) 10000 h hb
  repeat (first | apply ef_seq | (apply ef_mv; exact rfl; exact rfl) | apply ef_nil | apply seqQ.normal | apply ef_ret | (apply ef_call; exact rfl; ((repeat (apply XVs.cons; exact rfl)); exact XVs.nil); (with_reducible exact hw _)))
  (refine fin1 rfl (by exact rfl) rfl ?_)
  rfl
theorem mf_isValue : MT.mf 65 = some ⟨5, [(.tmp 2)], (.seq (.reg [⟨none, some 2, .mv (.c (.lit (.bool false)))⟩]) (.seq (.reg [⟨none, some 3, .mv (.s 0)⟩, ⟨none, some 4, .call 39 [.s 3, (.c (.lit (.int .i64 (-1000000)))), (.c (.lit (.int .i64 1000000)))]⟩, ⟨none, some 2, .mv (.s 4)⟩]) .ret))⟩ := by kernel_rfl
theorem isValue_c (k : Nat) (n : Int) (h : MHeap) {b : Bool} (hb : inB n (-1000000) 1000000 = b) : orA (k + 2) 65 [I64 n] h = some (Bo b, h) := by
  refine callL (args' := [I64 n]) (frzL_lt rfl) rfl (runZ_of mf_isValue (by simp) ?_)
  simp only [argsL]
  have hw := fun h => Within_c k n (-1000000) 1000000 h hb
  repeat (first | apply ef_seq | (apply ef_mv; exact rfl; exact rfl) | apply ef_nil | apply seqQ.normal | apply ef_ret | (apply ef_call; exact rfl; ((repeat (apply XVs.cons; exact rfl)); exact XVs.nil); (with_reducible exact hw _)))
  (refine fin1 rfl (by exact rfl) rfl ?_)
  rfl
end Go.Proofs.YtbdleggmdbihnaaGreat

/- The contract of the reference's check of a net. -/
namespace Go.Proofs.YtbdleggmdbihnaaGreat
open Go.RowKit
set_option linter.unusedVariables false
def nmL (n : Nt) (i : Nat) : List MV := ((n.ls.take i).map (·.1)).map encS
theorem nmL_len {n : Nt} {i : Nat} (h : i ≤ n.ls.length) : (nmL n i).length = i := by simp [nmL]; omega
theorem ltL_nm (m : Nat) (n : Nt) (i : Nat) : ltL m (nmL n i) = true := ltL_S m _
abbrev nmO (n : Nt) (i : Nat) : MObj := ⟨i, decide (i = 0), 1, nmL n i⟩
abbrev nmH (n : Nt) (i : Nat) : MHeap := [⟨0, false, 2, [encN n]⟩, nmO n i]
theorem nm_next {n : Nt} {i : Nat} {l : Ln} (h : n.ls[i]? = some l) : nmL n (i + 1) = nmL n i ++ [encS l.1] := by
  unfold nmL; rw [List.take_add_one, h]; simp
theorem ltL_app2 (m : Nat) : ∀ (a b : List MV), ltL m (a ++ b) = (ltL m a && ltL m b)
  | [], b => by simp [ltL]
  | x :: a, b => by simp [ltL, ltL_app2 m a b, Bool.and_assoc]
theorem frz_row {h : MHeap} {id k g : Nat} {o : MObj} {es : List MV} (ho : h[id]? = some o) (hg : o.g = g) (hk : k = es.length) (hl : ltL 0 es = true) (he : o.es = es) : frz 0 [] h 8 (.arr id 0 k g) = some (.sl es) := by
  subst he hk
  exact frz_arr ho hg (by simp) hl (by simp)
theorem mf_rCheckNet : MT.mf 29 = some ⟨161, [(.tmp 2), (.tmp 3)], (.seq (.reg [⟨none, some 1, .box 2 (.s 0)⟩, ⟨none, some 2, .mv (.c (.lit (.int .i64 0)))⟩, ⟨none, some 3, .mv (.c (.lit (.int .i64 0)))⟩]) (.seq (.seq (.reg [⟨none, some 10, .fa 0 (.s 1)⟩, ⟨none, some 11, .ld none (.s 10)⟩, ⟨none, some 12, .len (.s 11)⟩, ⟨none, some 13, .bin .eql (.s 12) (.c (.lit (.int .i64 0)))⟩]) (.cond (.s 13) (.seq (.reg [⟨none, some 2, .mv (.c (.lit (.int .i64 0)))⟩, ⟨none, some 3, .mv (.c (.lit (.int .i64 10)))⟩]) .ret) .skip)) (.seq (.seq (.reg [⟨none, some 14, .fa 0 (.s 1)⟩, ⟨none, some 15, .ld none (.s 14)⟩, ⟨none, some 16, .len (.s 15)⟩, ⟨none, some 17, .bin .gtr (.s 16) (.c (.lit (.int .i64 8)))⟩, ⟨none, some 18, .mv (.s 17)⟩, ⟨some (18, false), some 19, .fa 1 (.s 1)⟩, ⟨some (18, false), some 20, .ld none (.s 19)⟩, ⟨some (18, false), some 21, .len (.s 20)⟩, ⟨some (18, false), some 22, .bin .gtr (.s 21) (.c (.lit (.int .i64 16)))⟩, ⟨none, some 23, .pick (.s 18) (.c (.lit (.bool true))) (.s 22)⟩]) (.cond (.s 23) (.seq (.reg [⟨none, some 2, .mv (.c (.lit (.int .i64 0)))⟩, ⟨none, some 3, .mv (.c (.lit (.int .i64 8)))⟩]) .ret) .skip)) (.seq (.reg [⟨none, some 4, .nil0 1⟩]) (.seq (.seq (.reg [⟨none, some 5, .mv (.c (.lit (.int .i64 0)))⟩]) (.block 0 (.loop [5, 1, 4] (.seq (.seq (.reg [⟨none, some 24, .mv (.s 5)⟩, ⟨none, some 25, .fa 0 (.s 1)⟩, ⟨none, some 26, .ld none (.s 25)⟩, ⟨none, some 27, .len (.s 26)⟩, ⟨none, some 28, .bin .lss (.s 24) (.s 27)⟩]) (.cond (.s 28) .skip (.exit 0))) (.seq (.block 1 (.seq (.seq (.reg [⟨none, some 31, .fa 0 (.s 1)⟩, ⟨none, some 32, .ld none (.s 31)⟩, ⟨none, some 33, .mv (.s 5)⟩, ⟨none, some 34, .ia 2 (.s 32) (.s 33)⟩, ⟨none, some 35, .fa 0 (.s 34)⟩, ⟨none, some 36, .ld none (.s 35)⟩, ⟨none, some 37, .call 82 [.s 36]⟩, ⟨none, some 38, .un .not (.s 37)⟩]) (.cond (.s 38) (.seq (.reg [⟨none, some 39, .mv (.s 5)⟩, ⟨none, some 2, .mv (.s 39)⟩, ⟨none, some 3, .mv (.c (.lit (.int .i64 4)))⟩]) .ret) .skip)) (.seq (.seq (.reg [⟨none, some 40, .mv (.s 4)⟩, ⟨none, some 41, .fa 0 (.s 1)⟩, ⟨none, some 42, .ld none (.s 41)⟩, ⟨none, some 43, .mv (.s 5)⟩, ⟨none, some 44, .ia 2 (.s 42) (.s 43)⟩, ⟨none, some 45, .fa 0 (.s 44)⟩, ⟨none, some 46, .ld none (.s 45)⟩, ⟨none, some 47, .call 83 [.s 40, .s 46]⟩]) (.cond (.s 47) (.seq (.reg [⟨none, some 48, .mv (.s 5)⟩, ⟨none, some 2, .mv (.s 48)⟩, ⟨none, some 3, .mv (.c (.lit (.int .i64 5)))⟩]) .ret) .skip)) (.reg [⟨none, some 49, .mv (.s 4)⟩, ⟨none, some 50, .fa 0 (.s 1)⟩, ⟨none, some 51, .ld none (.s 50)⟩, ⟨none, some 52, .mv (.s 5)⟩, ⟨none, some 53, .ia 2 (.s 51) (.s 52)⟩, ⟨none, some 54, .fa 0 (.s 53)⟩, ⟨none, some 55, .ld none (.s 54)⟩, ⟨none, some 56, .bsl (.lit (.string ⟨#[]⟩)) 1 1 [(0, (.s 55))]⟩, ⟨none, some 57, .app 1 (.s 49) (.s 56)⟩, ⟨none, some 4, .mv (.s 57)⟩])))) (.reg [⟨none, some 29, .mv (.s 5)⟩, ⟨none, some 30, .bin .add (.s 29) (.c (.lit (.int .i64 1)))⟩, ⟨none, some 5, .mv (.s 30)⟩])))))) (.seq (.seq (.reg [⟨none, some 6, .mv (.c (.lit (.int .i64 0)))⟩]) (.block 2 (.loop [6, 1] (.seq (.seq (.reg [⟨none, some 58, .mv (.s 6)⟩, ⟨none, some 59, .fa 1 (.s 1)⟩, ⟨none, some 60, .ld none (.s 59)⟩, ⟨none, some 61, .len (.s 60)⟩, ⟨none, some 62, .bin .lss (.s 58) (.s 61)⟩]) (.cond (.s 62) .skip (.exit 2))) (.seq (.block 3 (.seq (.reg [⟨none, some 65, .fa 1 (.s 1)⟩, ⟨none, some 66, .ld none (.s 65)⟩, ⟨none, some 67, .mv (.s 6)⟩, ⟨none, some 68, .ia 6 (.s 66) (.s 67)⟩, ⟨none, some 69, .ld (some 6) (.s 68)⟩, ⟨none, some 7, .new (.agg [(.lit (.int .i64 0)), (.lit (.int .i64 0)), (.lit (.int .i64 0)), (.lit (.int .i64 0)), (.lit (.int .i64 0)), (.lit (.int .i64 0))])⟩, ⟨none, none, .st 6 (.s 7) (.s 69)⟩]) (.seq (.seq (.reg [⟨none, some 70, .ld (some 2) (.s 1)⟩, ⟨none, some 71, .fa 0 (.s 7)⟩, ⟨none, some 72, .ld none (.s 71)⟩, ⟨none, some 73, .call 63 [.s 70, .s 72]⟩, ⟨none, some 74, .un .not (.s 73)⟩, ⟨none, some 75, .mv (.s 74)⟩, ⟨some (75, false), some 76, .ld (some 2) (.s 1)⟩, ⟨some (75, false), some 77, .fa 1 (.s 7)⟩, ⟨some (75, false), some 78, .ld none (.s 77)⟩, ⟨some (75, false), some 79, .call 63 [.s 76, .s 78]⟩, ⟨some (75, false), some 80, .un .not (.s 79)⟩, ⟨none, some 81, .pick (.s 75) (.c (.lit (.bool true))) (.s 80)⟩]) (.cond (.s 81) (.seq (.reg [⟨none, some 82, .mv (.s 6)⟩, ⟨none, some 2, .mv (.s 82)⟩, ⟨none, some 3, .mv (.c (.lit (.int .i64 6)))⟩]) .ret) .skip)) (.seq (.seq (.reg [⟨none, some 83, .fa 0 (.s 1)⟩, ⟨none, some 84, .ld none (.s 83)⟩, ⟨none, some 85, .fa 0 (.s 7)⟩, ⟨none, some 86, .ld none (.s 85)⟩, ⟨none, some 87, .ia 2 (.s 84) (.s 86)⟩, ⟨none, some 88, .fa 1 (.s 87)⟩, ⟨none, some 89, .ld none (.s 88)⟩, ⟨none, some 90, .mv (.s 89)⟩, ⟨some (90, false), some 91, .fa 0 (.s 1)⟩, ⟨some (90, false), some 92, .ld none (.s 91)⟩, ⟨some (90, false), some 93, .fa 1 (.s 7)⟩, ⟨some (90, false), some 94, .ld none (.s 93)⟩, ⟨some (90, false), some 95, .ia 2 (.s 92) (.s 94)⟩, ⟨some (90, false), some 96, .fa 1 (.s 95)⟩, ⟨some (90, false), some 97, .ld none (.s 96)⟩, ⟨some (90, false), some 98, .un .not (.s 97)⟩, ⟨none, some 99, .pick (.s 90) (.c (.lit (.bool true))) (.s 98)⟩]) (.cond (.s 99) (.seq (.reg [⟨none, some 100, .mv (.s 6)⟩, ⟨none, some 2, .mv (.s 100)⟩, ⟨none, some 3, .mv (.c (.lit (.int .i64 15)))⟩]) .ret) .skip)) (.seq (.seq (.reg [⟨none, some 101, .fa 2 (.s 7)⟩, ⟨none, some 102, .ld none (.s 101)⟩, ⟨none, some 103, .call 64 [.s 102]⟩, ⟨none, some 104, .un .not (.s 103)⟩, ⟨none, some 105, .mv (.s 104)⟩, ⟨some (105, false), some 106, .fa 3 (.s 7)⟩, ⟨some (105, false), some 107, .ld none (.s 106)⟩, ⟨some (105, false), some 108, .call 64 [.s 107]⟩, ⟨some (105, false), some 109, .un .not (.s 108)⟩, ⟨none, some 110, .pick (.s 105) (.c (.lit (.bool true))) (.s 109)⟩, ⟨none, some 111, .mv (.s 110)⟩, ⟨some (111, false), some 112, .fa 4 (.s 7)⟩, ⟨some (111, false), some 113, .ld none (.s 112)⟩, ⟨some (111, false), some 114, .call 84 [.s 113]⟩, ⟨some (111, false), some 115, .un .not (.s 114)⟩, ⟨none, some 116, .pick (.s 111) (.c (.lit (.bool true))) (.s 115)⟩, ⟨none, some 117, .mv (.s 116)⟩, ⟨some (117, false), some 118, .fa 5 (.s 7)⟩, ⟨some (117, false), some 119, .ld none (.s 118)⟩, ⟨some (117, false), some 120, .call 39 [.s 119, (.c (.lit (.int .i64 1))), (.c (.lit (.int .i64 10)))]⟩, ⟨some (117, false), some 121, .un .not (.s 120)⟩, ⟨none, some 122, .pick (.s 117) (.c (.lit (.bool true))) (.s 121)⟩]) (.cond (.s 122) (.seq (.reg [⟨none, some 123, .mv (.s 6)⟩, ⟨none, some 2, .mv (.s 123)⟩, ⟨none, some 3, .mv (.c (.lit (.int .i64 2)))⟩]) .ret) .skip)) (.seq (.reg [⟨none, some 8, .mv (.c (.lit (.int .i64 0)))⟩]) (.block 4 (.loop [8, 6, 1, 7] (.seq (.seq (.reg [⟨none, some 124, .mv (.s 8)⟩, ⟨none, some 125, .mv (.s 6)⟩, ⟨none, some 126, .bin .lss (.s 124) (.s 125)⟩]) (.cond (.s 126) .skip (.exit 4))) (.seq (.block 5 (.seq (.reg [⟨none, some 129, .fa 1 (.s 1)⟩, ⟨none, some 130, .ld none (.s 129)⟩, ⟨none, some 131, .mv (.s 8)⟩, ⟨none, some 132, .ia 6 (.s 130) (.s 131)⟩, ⟨none, some 133, .ld (some 6) (.s 132)⟩, ⟨none, some 9, .new (.agg [(.lit (.int .i64 0)), (.lit (.int .i64 0)), (.lit (.int .i64 0)), (.lit (.int .i64 0)), (.lit (.int .i64 0)), (.lit (.int .i64 0))])⟩, ⟨none, none, .st 6 (.s 9) (.s 133)⟩]) (.seq (.reg [⟨none, some 134, .fa 0 (.s 9)⟩, ⟨none, some 135, .ld none (.s 134)⟩, ⟨none, some 136, .fa 0 (.s 7)⟩, ⟨none, some 137, .ld none (.s 136)⟩, ⟨none, some 138, .bin .eql (.s 135) (.s 137)⟩, ⟨none, some 139, .mv (.s 138)⟩, ⟨some (139, true), some 140, .fa 2 (.s 9)⟩, ⟨some (139, true), some 141, .ld none (.s 140)⟩, ⟨some (139, true), some 142, .fa 2 (.s 7)⟩, ⟨some (139, true), some 143, .ld none (.s 142)⟩, ⟨some (139, true), some 144, .bin .eql (.s 141) (.s 143)⟩, ⟨none, some 145, .pick (.s 139) (.s 144) (.c (.lit (.bool false)))⟩, ⟨none, some 146, .mv (.s 145)⟩, ⟨some (146, false), some 147, .fa 1 (.s 9)⟩, ⟨some (146, false), some 148, .ld none (.s 147)⟩, ⟨some (146, false), some 149, .fa 1 (.s 7)⟩, ⟨some (146, false), some 150, .ld none (.s 149)⟩, ⟨some (146, false), some 151, .bin .eql (.s 148) (.s 150)⟩, ⟨some (146, false), some 152, .mv (.s 151)⟩, ⟨some (152, true), some 153, .fa 3 (.s 9)⟩, ⟨some (152, true), some 154, .ld none (.s 153)⟩, ⟨some (152, true), some 155, .fa 3 (.s 7)⟩, ⟨some (152, true), some 156, .ld none (.s 155)⟩, ⟨some (152, true), some 157, .bin .eql (.s 154) (.s 156)⟩, ⟨some (146, false), some 158, .pick (.s 152) (.s 157) (.c (.lit (.bool false)))⟩, ⟨none, some 159, .pick (.s 146) (.c (.lit (.bool true))) (.s 158)⟩]) (.cond (.s 159) (.seq (.reg [⟨none, some 160, .mv (.s 6)⟩, ⟨none, some 2, .mv (.s 160)⟩, ⟨none, some 3, .mv (.c (.lit (.int .i64 23)))⟩]) .ret) .skip)))) (.reg [⟨none, some 127, .mv (.s 8)⟩, ⟨none, some 128, .bin .add (.s 127) (.c (.lit (.int .i64 1)))⟩, ⟨none, some 8, .mv (.s 128)⟩]))))))))))) (.reg [⟨none, some 63, .mv (.s 6)⟩, ⟨none, some 64, .bin .add (.s 63) (.c (.lit (.int .i64 1)))⟩, ⟨none, some 6, .mv (.s 64)⟩])))))) (.seq (.reg [⟨none, some 2, .mv (.c (.lit (.int .i64 0)))⟩, ⟨none, some 3, .mv (.c (.lit (.int .i64 0)))⟩]) .ret)))))))⟩ := by kernel_rfl
set_option maxHeartbeats 4000000 in
theorem rCheckNet_z (k : Nat) (n : Nt) (hb : BdN n) : runZ MT (orA (k + 2)) (itA (k + 2)) 4000000 29 [encN n] [] = some (.tup [I64 (netF n).1, I64 (netF n).2], []) := by
  obtain ⟨b1, b2, b3⟩ := hb
  have hs1 : (MV.sl (n.ls.map encLn)).slen = some n.ls.length := by simp [MV.slen]
  have hs2 : (MV.sl (n.cs.map encCr)).slen = some n.cs.length := by simp [MV.slen]
  refine runZ_of mf_rCheckNet (by simp) ?_
  simp only [argsL]
  by_cases h0 : n.ls.length = 0
  · have HF := Lib.hid (show netF n = (0, 10) by unfold netF; rw [if_pos h0])
    repeat (first | apply ef_seq | (apply ef_mv; exact rfl; exact rfl) | (apply ef_bin; exact rfl; exact rfl; exact rfl; (exact cmp_t rfl (by first | exact rfl | (simp only [cmpP]; omega)))) | (apply ef_len; exact rfl; exact rfl; (assumption)) | (apply ef_ldp; exact rfl; exact rfl; (exact rfl); exact rfl; (exact rfl); (exact rfl)) | (apply ef_fap; exact rfl; exact rfl) | (apply ef_box; exact rfl; exact rfl; exact rfl; exact rfl) | apply ef_nil | apply seqQ.normal | apply ef_ret | apply seqQ.ret | (apply ef_condt; exact rfl; (exact (rfl : true = true))))
    (apply fin2; (· exact rfl); (· exact rfl); (· exact rfl); (· rw [HF.out]))
  · by_cases h1 : 8 < n.ls.length ∨ 16 < n.cs.length
    · have HF := Lib.hid (show netF n = (0, 8) by unfold netF; rw [if_neg h0, if_pos h1])
      by_cases h2 : n.ls.length ≤ 8
      · repeat (first | apply ef_seq | (apply ef_mv; exact rfl; exact rfl) | (apply ef_bin; exact rfl; exact rfl; exact rfl; (first | exact cmp_t rfl (by first | exact rfl | (simp only [cmpP]; omega)) | exact cmp_f rfl (by simp only [cmpP]; omega))) | (apply ef_gy; exact rfl; (exact (rfl : false = false))) | (apply ef_pick; exact rfl; exact rfl; exact rfl) | (apply ef_len; exact rfl; exact rfl; (assumption)) | (apply ef_ldp; exact rfl; exact rfl; (exact rfl); exact rfl; (exact rfl); (exact rfl)) | (apply ef_fap; exact rfl; exact rfl) | (apply ef_box; exact rfl; exact rfl; exact rfl; exact rfl) | apply ef_nil | apply seqQ.normal | apply ef_ret | apply seqQ.ret | apply ef_skip | (apply ef_condt; exact rfl; (exact (rfl : true = true))) | (apply ef_condf; exact rfl; (exact (rfl : false = false))))
        (apply fin2; (· exact rfl); (· exact rfl); (· exact rfl); (· rw [HF.out]))
      · repeat (first | apply ef_seq | (apply ef_mv; exact rfl; exact rfl) | (apply ef_bin; exact rfl; exact rfl; exact rfl; (first | exact cmp_t rfl (by first | exact rfl | (simp only [cmpP]; omega)) | exact cmp_f rfl (by simp only [cmpP]; omega))) | (apply ef_gn; exact rfl; (exact (rfl : true = true)); exact rfl) | (apply ef_pick; exact rfl; exact rfl; exact rfl) | (apply ef_len; exact rfl; exact rfl; (assumption)) | (apply ef_ldp; exact rfl; exact rfl; (exact rfl); exact rfl; (exact rfl); (exact rfl)) | (apply ef_fap; exact rfl; exact rfl) | (apply ef_box; exact rfl; exact rfl; exact rfl; exact rfl) | apply ef_nil | apply seqQ.normal | apply ef_ret | apply seqQ.ret | apply ef_skip | (apply ef_condt; exact rfl; (exact (rfl : true = true))) | (apply ef_condf; exact rfl; (exact (rfl : false = false))))
        (apply fin2; (· exact rfl); (· exact rfl); (· exact rfl); (· rw [HF.out]))
    · have HF := Lib.hid (show netF n = if (scanE lineE [] n.ls).2 = 0 then scanE (crossE n.ls) [] n.cs else scanE lineE [] n.ls by unfold netF; rw [if_neg h0, if_neg h1])
      repeat (first | apply ef_seq | (apply ef_mv; exact rfl; exact rfl) | (apply ef_bin; exact rfl; exact rfl; exact rfl; (exact cmp_f rfl (by simp only [cmpP]; omega))) | (apply ef_gy; exact rfl; (exact (rfl : false = false))) | (apply ef_pick; exact rfl; exact rfl; exact rfl) | (apply ef_len; exact rfl; exact rfl; (assumption)) | (apply ef_ldp; exact rfl; exact rfl; (exact rfl); exact rfl; (exact rfl); (exact rfl)) | (apply ef_fap; exact rfl; exact rfl) | (apply ef_box; exact rfl; exact rfl; exact rfl; exact rfl) | (apply ef_nil0; exact rfl) | apply ef_nil | apply seqQ.normal | apply ef_block | apply ef_skip | (apply ef_condf; exact rfl; (exact (rfl : false = false))))
      refine ef_loopf (α := Nat) (fun i => i ≤ n.ls.length ∧ scanE lineE [] n.ls = scanE lineE (n.ls.take i) (n.ls.drop i)) (fun i => [(5, I64 (i : Int)), (4, .arr 1 0 i i)]) [(1, .ptr 0 0 0 0)] (fun i => nmH n i) (fun i => n.ls.length - i) 0 [5, 4] (fun _ => rfl) (by ((repeat (refine Hold.cons (by exact rfl) ?_)); exact Hold.nil)) (by ((repeat (refine Hold.cons (by exact rfl) ?_)); exact Hold.nil)) rfl rfl ⟨by omega, by simp⟩ (by simp; omega) ?_
      rintro i ⟨hi, hz⟩
      try simp only at hi hz ⊢
      by_cases hlt : i < n.ls.length
      · have e1 := at_map encLn n.ls i hlt
        have HT := nm_next (List.getElem?_eq_getElem hlt)
        have hsz := b3 n.ls[i] (List.getElem_mem hlt)
        have HS0 := fun h0 => Lib.hid (scanE_step (f := lineE) hlt h0)
        have HS1 := fun h0 => Lib.hid (scanE_bad (f := lineE) hlt h0)
        have HZ := Lib.hid hz
        clear hz
        generalize n.ls[i] = l at e1 hsz HS0 HS1 HT
        obtain ⟨nb, hnb⟩ : ∃ b, nmB l.1 = b := ⟨_, rfl⟩
        obtain ⟨kn, hkn⟩ : ∃ b, (n.ls.take i).any (fun o => o.1 == l.1) = b := ⟨_, rfl⟩
        have hnm := fun h => bIsName_c (k + 1) l.1 hsz h
        have hht := HasText_c (k + 1) ((n.ls.take i).map (·.1)) l.1 (by simp; omega) (nmH n i) (v := .arr 1 0 i i) (frz_row (o := nmO n i) rfl rfl (by simp; omega) (ltL_S 0 _) rfl) (t := kn) (by rw [List.any_map]; exact hkn)
        have hle : lineE (n.ls.take i) l = firstE [unl nb 4, unl (!kn) 5] := by unfold lineE; rw [hkn, hnb]
        rw [hle] at HS0 HS1
        rw [hnb] at hnm
        clear hle hkn hnb
        cases nb
        · have HS := HS1 (by simp [firstE, unl])
          clear HS0 HS1
          repeat (first | apply ef_seq | (apply ef_mv; exact rfl; exact rfl) | (apply ef_bin; exact rfl; exact rfl; exact rfl; (exact cmp_t rfl (by first | exact rfl | (simp only [cmpP]; omega)))) | (apply ef_len; exact rfl; exact rfl; (assumption)) | (apply ef_ldr; exact rfl; exact rfl; (exact rfl)) | (apply ef_ldp; exact rfl; exact rfl; (exact rfl); exact rfl; (exact rfl); (exact rfl)) | (apply ef_ias; exact rfl; exact rfl; exact rfl; (omega); assumption; exact rfl) | (apply ef_fap; exact rfl; exact rfl) | (apply ef_far; exact rfl; exact rfl) | (apply ef_notF; exact rfl; exact rfl) | apply ef_nil | apply seqQ.normal | apply loopQ.ret | apply ef_ret | apply seqQ.ret | apply blockQ.ret | apply ef_block | apply ef_skip | (apply ef_condt; exact rfl; (exact (rfl : true = true))) | (apply ef_call; exact rfl; ((repeat (apply XVs.cons; exact rfl)); exact XVs.nil); (with_reducible exact hnm _)))
          (apply fin2; (· exact rfl); (· exact rfl); (· exact rfl); (· rw [HF.out, HZ.out, HS.out]; simp [firstE, unl]))
        · cases kn
          · have HS := HS0 (by simp [firstE, unl])
            clear HS0 HS1
            repeat (first | apply ef_seq | (apply ef_mv; exact rfl; exact rfl) | (apply ef_bin; exact rfl; exact rfl; exact rfl; (exact cmp_t rfl (by first | exact rfl | (simp only [cmpP]; omega)))) | (apply ef_len; exact rfl; exact rfl; (assumption)) | (apply ef_ldr; exact rfl; exact rfl; (exact rfl)) | (apply ef_ldp; exact rfl; exact rfl; (exact rfl); exact rfl; (exact rfl); (exact rfl)) | (apply ef_ias; exact rfl; exact rfl; exact rfl; (omega); assumption; exact rfl) | (apply ef_fap; exact rfl; exact rfl) | (apply ef_far; exact rfl; exact rfl) | (apply ef_notT; exact rfl; exact rfl) | apply ef_nil | apply seqQ.normal | apply ef_block | apply ef_skip | (apply ef_condt; exact rfl; (exact (rfl : true = true))) | (apply ef_condf; exact rfl; (exact (rfl : false = false))) | (apply ef_call; exact rfl; ((repeat (apply XVs.cons; exact rfl)); exact XVs.nil); (with_reducible exact hnm _)))
            (apply ef_call; (· exact rfl); (· ((repeat (apply XVs.cons; exact rfl)); exact XVs.nil)); · exact hht)
            repeat (first | (apply ef_mv; exact rfl; exact rfl) | (apply ef_ldr; exact rfl; exact rfl; (exact rfl)) | (apply ef_ldp; exact rfl; exact rfl; (exact rfl); exact rfl; (exact rfl); (exact rfl)) | (apply ef_ias; exact rfl; exact rfl; exact rfl; (omega); assumption; exact rfl) | (apply ef_fap; exact rfl; exact rfl) | (apply ef_far; exact rfl; exact rfl) | (apply ef_bsl; exact rfl; (repeat (apply XVs.cons; exact rfl)); exact XVs.nil; exact rfl) | apply ef_nil | apply seqQ.normal | apply ef_skip | (apply ef_condf; exact rfl; (exact (rfl : false = false))))
            (apply ef_app; (· exact rfl); (· exact rfl); (· exact rfl); (· exact rfl); (· exact rfl); (· exact rfl); (· (simp [nmL_len hi])); (· exact rfl); (· (simp [nmL_len hi]; omega)); (· (simp [MV.sOk, MV.cells, MV.one, Value.oneCell'])); (· exact rfl))
            repeat (first | (apply ef_mv; exact rfl; exact rfl) | (apply ef_bin; exact rfl; exact rfl; exact rfl; (((with_reducible refine bin_add (wrap_of ?_ ?_)) <;> omega))) | apply ef_nil | apply seqQ.normal | apply blockQ.normal)
            (refine loopQ.normal _ _ ⟨i + 1, ⟨hlt, by rw [HZ.out, HS.out]⟩, (by first | (simp only; omega) | omega), ⟨by ((repeat (refine Hold.cons (by exact rfl) ?_)); exact Hold.nil), by ((repeat (refine Hold.cons (by exact rfl) ?_)); exact Hold.nil)⟩, .inr ⟨by ((repeat (refine hdl_cons rfl (by first | rfl | (simp [MV.lt, ltL, ltL_Ln, ltL_Cr, ltL_nm, ltL_app2])) ?_)); exact hdl_nil), by (simp [hltL, ltL, MV.lt, ltL, ltL_Ln, ltL_Cr, ltL_nm, ltL_app2])⟩, by (show _ = ([⟨0, false, 2, [encN n]⟩, (⟨i + 1, decide (i + 1 = 0), 1, nmL n (i + 1)⟩ : MObj)] : MHeap); rw [HT]; exact rfl)⟩)
          · have HS := HS1 (by simp [firstE, unl])
            clear HS0 HS1
            repeat (first | apply ef_seq | (apply ef_mv; exact rfl; exact rfl) | (apply ef_bin; exact rfl; exact rfl; exact rfl; (exact cmp_t rfl (by first | exact rfl | (simp only [cmpP]; omega)))) | (apply ef_len; exact rfl; exact rfl; (assumption)) | (apply ef_ldr; exact rfl; exact rfl; (exact rfl)) | (apply ef_ldp; exact rfl; exact rfl; (exact rfl); exact rfl; (exact rfl); (exact rfl)) | (apply ef_ias; exact rfl; exact rfl; exact rfl; (omega); assumption; exact rfl) | (apply ef_fap; exact rfl; exact rfl) | (apply ef_far; exact rfl; exact rfl) | (apply ef_notT; exact rfl; exact rfl) | apply ef_nil | apply seqQ.normal | apply ef_block | apply ef_skip | (apply ef_condt; exact rfl; (exact (rfl : true = true))) | (apply ef_condf; exact rfl; (exact (rfl : false = false))) | (apply ef_call; exact rfl; ((repeat (apply XVs.cons; exact rfl)); exact XVs.nil); (with_reducible exact hnm _)))
            (apply ef_call; (· exact rfl); (· ((repeat (apply XVs.cons; exact rfl)); exact XVs.nil)); · exact hht)
            repeat (first | apply ef_seq | (apply ef_mv; exact rfl; exact rfl) | apply ef_nil | apply seqQ.normal | apply loopQ.ret | apply ef_ret | apply seqQ.ret | apply blockQ.ret | (apply ef_condt; exact rfl; (exact (rfl : true = true))))
            (apply fin2; (· exact rfl); (· exact rfl); (· exact rfl); (· rw [HF.out, HZ.out, HS.out]; simp [firstE, unl]))
      · have hsc : scanE lineE [] n.ls = (0, 0) := by rw [hz, List.drop_eq_nil_of_le (by omega), scanE_nil]
        have HF := Lib.hid (show netF n = scanE (crossE n.ls) [] n.cs by rw [HF.out, hsc, if_pos rfl])
        clear hz hsc
        obtain rfl : i = n.ls.length := by omega
        clear hlt hi
        repeat (first | apply ef_seq | (apply ef_mv; exact rfl; exact rfl) | (apply ef_bin; exact rfl; exact rfl; exact rfl; (exact cmp_f rfl (by simp only [cmpP]; omega))) | (apply ef_len; exact rfl; exact rfl; (assumption)) | (apply ef_ldp; exact rfl; exact rfl; (exact rfl); exact rfl; (exact rfl); (exact rfl)) | (apply ef_fap; exact rfl; exact rfl) | apply ef_nil | apply seqQ.normal | apply loopQ.exit | apply ef_exit | apply seqQ.exit | apply blockQ.here | apply ef_block | (apply ef_condf; exact rfl; (exact (rfl : false = false))))
        refine ef_loopf (α := Nat) (fun i => i ≤ n.cs.length ∧ scanE (crossE n.ls) [] n.cs = scanE (crossE n.ls) (n.cs.take i) (n.cs.drop i)) (fun i => [(6, I64 (i : Int))]) [(1, .ptr 0 0 0 0)] (fun _ => nmH n n.ls.length) (fun i => n.cs.length - i) 0 [6] (fun _ => rfl) (by ((repeat (refine Hold.cons (by exact rfl) ?_)); exact Hold.nil)) (by ((repeat (refine Hold.cons (by exact rfl) ?_)); exact Hold.nil)) rfl rfl ⟨by omega, by simp⟩ (by simp; omega) ?_
        rintro i ⟨hi, hz⟩
        try simp only at hi hz ⊢
        by_cases hlt : i < n.cs.length
        · have e1 := at_map encCr n.cs i hlt
          have HS0 := fun h0 => Lib.hid (scanE_step (f := crossE n.ls) hlt h0)
          have HS1 := fun h0 => Lib.hid (scanE_bad (f := crossE n.ls) hlt h0)
          have HZ := Lib.hid hz
          clear hz
          generalize n.cs[i] = c at e1 HS0 HS1
          have hbad : ∀ e, crossE n.ls (n.cs.take i) c = e → e ≠ 0 → RowKit.Hid (netF n = ((i : Int), e)) := fun e he h0 => Lib.hid (by rw [HF.out, HZ.out, (HS1 (by rw [he]; exact h0)).out, he])
          have hgo : crossE n.ls (n.cs.take i) c = 0 → RowKit.Hid (scanE (crossE n.ls) [] n.cs = scanE (crossE n.ls) (n.cs.take (i + 1)) (n.cs.drop (i + 1))) := fun he => Lib.hid (by rw [HZ.out, (HS0 he).out])
          clear HS0 HS1
          cases h1 : inB c.ln 0 ((n.ls.length : Int) - 1)
          · have hw1 := fun h => IsLine_c k n c.ln (by omega) h h1
            have HE := hbad 6 (by simp [crossE, h1]) (by decide)
            clear hbad hgo
            repeat (first | apply ef_seq | (apply ef_mv; exact rfl; exact rfl) | (apply ef_bin; exact rfl; exact rfl; exact rfl; (exact cmp_t rfl (by first | exact rfl | (simp only [cmpP]; omega)))) | (apply ef_gn; exact rfl; (exact (rfl : true = true)); exact rfl) | (apply ef_pick; exact rfl; exact rfl; exact rfl) | (apply ef_len; exact rfl; exact rfl; (assumption)) | (apply ef_ldr; exact rfl; exact rfl; (exact rd_6 rfl rfl rfl rfl rfl rfl)) | (apply ef_ldp; exact rfl; exact rfl; (exact rfl); exact rfl; (exact rfl); (first | exact rd_2 rfl rfl | exact rfl)) | (apply ef_ias; exact rfl; exact rfl; exact rfl; (omega); assumption; exact rfl) | (apply ef_fap; exact rfl; exact rfl) | (apply ef_notF; exact rfl; exact rfl) | (apply ef_new; exact rfl) | (apply ef_st; exact rfl; exact rfl; exact rfl; exact rfl; exact rfl; exact rfl; (exact rfl); exact rfl) | apply ef_nil | apply seqQ.normal | apply loopQ.ret | apply ef_ret | apply seqQ.ret | apply blockQ.ret | apply ef_block | apply ef_skip | (apply ef_condt; exact rfl; (exact (rfl : true = true))) | (apply ef_call; exact rfl; ((repeat (apply XVs.cons; exact rfl)); exact XVs.nil); (with_reducible exact hw1 _)))
            (apply fin2; (· exact rfl); (· exact rfl); (· exact rfl); (· rw [HE.out]))
          · have hw1 := fun h => IsLine_c k n c.ln (by omega) h h1
            cases h2 : inB c.ti 0 ((n.ls.length : Int) - 1)
            · have hw2 := fun h => IsLine_c k n c.ti (by omega) h h2
              have HE := hbad 6 (by simp [crossE, h1, h2]) (by decide)
              clear hbad hgo
              repeat (first | apply ef_seq | (apply ef_mv; exact rfl; exact rfl) | (apply ef_bin; exact rfl; exact rfl; exact rfl; (exact cmp_t rfl (by first | exact rfl | (simp only [cmpP]; omega)))) | (apply ef_gy; exact rfl; (exact (rfl : false = false))) | (apply ef_pick; exact rfl; exact rfl; exact rfl) | (apply ef_len; exact rfl; exact rfl; (assumption)) | (apply ef_ldr; exact rfl; exact rfl; (exact rd_6 rfl rfl rfl rfl rfl rfl)) | (apply ef_ldp; exact rfl; exact rfl; (exact rfl); exact rfl; (exact rfl); (first | exact rd_2 rfl rfl | exact rfl)) | (apply ef_ias; exact rfl; exact rfl; exact rfl; (omega); assumption; exact rfl) | (apply ef_fap; exact rfl; exact rfl) | (apply ef_notT; exact rfl; exact rfl) | (apply ef_notF; exact rfl; exact rfl) | (apply ef_new; exact rfl) | (apply ef_st; exact rfl; exact rfl; exact rfl; exact rfl; exact rfl; exact rfl; (exact rfl); exact rfl) | apply ef_nil | apply seqQ.normal | apply loopQ.ret | apply ef_ret | apply seqQ.ret | apply blockQ.ret | apply ef_block | apply ef_skip | (apply ef_condt; exact rfl; (exact (rfl : true = true))) | (apply ef_call; exact rfl; ((repeat (apply XVs.cons; exact rfl)); exact XVs.nil); (with_reducible first | exact hw1 _ | exact hw2 _)))
              (apply fin2; (· exact rfl); (· exact rfl); (· exact rfl); (· rw [HE.out]))
            · have hw2 := fun h => IsLine_c k n c.ti (by omega) h h2
              obtain ⟨p1, f1⟩ := ln_at h1
              obtain ⟨p2, f2⟩ := ln_at h2
              have HE := Lib.hid (show crossE n.ls (n.cs.take i) c = firstE [unl (!tieOf n.ls c.ln && tieOf n.ls c.ti) 15, unl (rngB c) 2, unl (!((n.cs.take i).any (dblB c))) 23] by simp [crossE, h1, h2])
              have ht1 : (n.ls.getD c.ln.toNat (⟨#[]⟩, false)).2 = tieOf n.ls c.ln := rfl
              have ht2 : (n.ls.getD c.ti.toNat (⟨#[]⟩, false)).2 = tieOf n.ls c.ti := rfl
              generalize n.ls.getD c.ln.toNat (⟨#[]⟩, false) = l1 at f1 ht1
              generalize n.ls.getD c.ti.toNat (⟨#[]⟩, false) = l2 at f2 ht2
              obtain ⟨n1, t1⟩ := l1
              obtain ⟨n2, t2⟩ := l2
              simp only at ht1 ht2
              rw [← ht1, ← ht2] at HE
              clear ht1 ht2 h1 h2
              by_cases hk : t1 = true ∨ t2 = false
              · have HX := hbad 15 (by rw [HE.out]; rcases hk with rfl | rfl <;> simp [firstE, unl]) (by decide)
                clear hbad hgo HE
                cases t1
                · obtain rfl : t2 = false := by simpa using hk
                  repeat (first | apply ef_seq | (apply ef_mv; exact rfl; exact rfl) | (apply ef_bin; exact rfl; exact rfl; exact rfl; (exact cmp_t rfl (by first | exact rfl | (simp only [cmpP]; omega)))) | (apply ef_gy; exact rfl; (exact (rfl : false = false))) | (apply ef_pick; exact rfl; exact rfl; exact rfl) | (apply ef_len; exact rfl; exact rfl; (assumption)) | (apply ef_ldr; exact rfl; exact rfl; (first | exact rd_6 rfl rfl rfl rfl rfl rfl | exact rfl)) | (apply ef_ldp; exact rfl; exact rfl; (exact rfl); exact rfl; (exact rfl); (first | exact rd_2 rfl rfl | exact rfl)) | (apply ef_ias; exact rfl; exact rfl; exact rfl; (omega); assumption; exact rfl) | (apply ef_fap; exact rfl; exact rfl) | (apply ef_far; exact rfl; exact rfl) | (apply ef_notT; exact rfl; exact rfl) | (apply ef_notF; exact rfl; exact rfl) | (apply ef_new; exact rfl) | (apply ef_st; exact rfl; exact rfl; exact rfl; exact rfl; exact rfl; exact rfl; (exact rfl); exact rfl) | apply ef_nil | apply seqQ.normal | apply loopQ.ret | apply ef_ret | apply seqQ.ret | apply blockQ.ret | apply ef_block | apply ef_skip | (apply ef_condt; exact rfl; (exact (rfl : true = true))) | (apply ef_condf; exact rfl; (exact (rfl : false = false))) | (apply ef_call; exact rfl; ((repeat (apply XVs.cons; exact rfl)); exact XVs.nil); (with_reducible first | exact hw1 _ | exact hw2 _)))
                  (apply fin2; (· exact rfl); (· exact rfl); (· exact rfl); (· rw [HX.out]))
                · repeat (first | apply ef_seq | (apply ef_mv; exact rfl; exact rfl) | (apply ef_bin; exact rfl; exact rfl; exact rfl; (exact cmp_t rfl (by first | exact rfl | (simp only [cmpP]; omega)))) | (apply ef_gy; exact rfl; (exact (rfl : false = false))) | (apply ef_gn; exact rfl; (exact (rfl : true = true)); exact rfl) | (apply ef_pick; exact rfl; exact rfl; exact rfl) | (apply ef_len; exact rfl; exact rfl; (assumption)) | (apply ef_ldr; exact rfl; exact rfl; (first | exact rd_6 rfl rfl rfl rfl rfl rfl | exact rfl)) | (apply ef_ldp; exact rfl; exact rfl; (exact rfl); exact rfl; (exact rfl); (first | exact rd_2 rfl rfl | exact rfl)) | (apply ef_ias; exact rfl; exact rfl; exact rfl; (omega); assumption; exact rfl) | (apply ef_fap; exact rfl; exact rfl) | (apply ef_far; exact rfl; exact rfl) | (apply ef_notT; exact rfl; exact rfl) | (apply ef_new; exact rfl) | (apply ef_st; exact rfl; exact rfl; exact rfl; exact rfl; exact rfl; exact rfl; (exact rfl); exact rfl) | apply ef_nil | apply seqQ.normal | apply loopQ.ret | apply ef_ret | apply seqQ.ret | apply blockQ.ret | apply ef_block | apply ef_skip | (apply ef_condt; exact rfl; (exact (rfl : true = true))) | (apply ef_condf; exact rfl; (exact (rfl : false = false))) | (apply ef_call; exact rfl; ((repeat (apply XVs.cons; exact rfl)); exact XVs.nil); (with_reducible first | exact hw1 _ | exact hw2 _)))
                  (apply fin2; (· exact rfl); (· exact rfl); (· exact rfl); (· rw [HX.out]))
              · obtain rfl : t1 = false := by cases t1 <;> simp_all
                obtain rfl : t2 = true := by cases t2 <;> simp_all
                clear hk
                have HR := Lib.hid (show rngB c = (inB c.pa 0 1000000 && (inB c.pt 0 1000000 && (inB c.df (-10000) 10000 && inB c.wt 1 10))) from rfl)
                generalize q1 : inB c.pa 0 1000000 = r1 at HR
                generalize q2 : inB c.pt 0 1000000 = r2 at HR
                generalize q3 : inB c.df (-10000) 10000 = r3 at HR
                generalize q4 : inB c.wt 1 10 = r4 at HR
                have hw3 := fun h => risPosition_c k c.pa h q1
                have hw4 := fun h => risPosition_c k c.pt h q2
                have hw5 := fun h => IsDifference_c k c.df h q3
                have hw6 := fun h => Within_c (k + 1) c.wt 1 10 h q4
                have hrg : (r1 && (r2 && (r3 && r4))) = false → crossE n.ls (n.cs.take i) c = 2 := fun h => by rw [HE.out, HR.out, h]; simp [firstE, unl]
                cases r1
                · have HE := hbad 2 (hrg rfl) (by decide)
                  clear hbad hgo hrg q1 q2 q3 q4 HR
                  repeat (first | apply ef_seq | (apply ef_mv; exact rfl; exact rfl) | (apply ef_bin; exact rfl; exact rfl; exact rfl; (exact cmp_t rfl (by first | exact rfl | (simp only [cmpP]; omega)))) | (apply ef_gy; exact rfl; (exact (rfl : false = false))) | (apply ef_gn; exact rfl; (exact (rfl : true = true)); exact rfl) | (apply ef_pick; exact rfl; exact rfl; exact rfl) | (apply ef_len; exact rfl; exact rfl; (assumption)) | (apply ef_ldr; exact rfl; exact rfl; (first | exact rd_6 rfl rfl rfl rfl rfl rfl | exact rfl)) | (apply ef_ldp; exact rfl; exact rfl; (exact rfl); exact rfl; (exact rfl); (first | exact rd_2 rfl rfl | exact rfl)) | (apply ef_ias; exact rfl; exact rfl; exact rfl; (omega); assumption; exact rfl) | (apply ef_fap; exact rfl; exact rfl) | (apply ef_far; exact rfl; exact rfl) | (apply ef_notT; exact rfl; exact rfl) | (apply ef_notF; exact rfl; exact rfl) | (apply ef_new; exact rfl) | (apply ef_st; exact rfl; exact rfl; exact rfl; exact rfl; exact rfl; exact rfl; (exact rfl); exact rfl) | apply ef_nil | apply seqQ.normal | apply loopQ.ret | apply ef_ret | apply seqQ.ret | apply blockQ.ret | apply ef_block | apply ef_skip | (apply ef_condt; exact rfl; (exact (rfl : true = true))) | (apply ef_condf; exact rfl; (exact (rfl : false = false))) | (apply ef_call; exact rfl; ((repeat (apply XVs.cons; exact rfl)); exact XVs.nil); (with_reducible first | exact hw1 _ | exact hw2 _ | exact hw3 _)))
                  (apply fin2; (· exact rfl); (· exact rfl); (· exact rfl); (· rw [HE.out]))
                · cases r2
                  · have HE := hbad 2 (hrg rfl) (by decide)
                    clear hbad hgo hrg q1 q2 q3 q4 HR
                    repeat (first | apply ef_seq | (apply ef_mv; exact rfl; exact rfl) | (apply ef_bin; exact rfl; exact rfl; exact rfl; (exact cmp_t rfl (by first | exact rfl | (simp only [cmpP]; omega)))) | (apply ef_gy; exact rfl; (exact (rfl : false = false))) | (apply ef_gn; exact rfl; (exact (rfl : true = true)); exact rfl) | (apply ef_pick; exact rfl; exact rfl; exact rfl) | (apply ef_len; exact rfl; exact rfl; (assumption)) | (apply ef_ldr; exact rfl; exact rfl; (first | exact rd_6 rfl rfl rfl rfl rfl rfl | exact rfl)) | (apply ef_ldp; exact rfl; exact rfl; (exact rfl); exact rfl; (exact rfl); (first | exact rd_2 rfl rfl | exact rfl)) | (apply ef_ias; exact rfl; exact rfl; exact rfl; (omega); assumption; exact rfl) | (apply ef_fap; exact rfl; exact rfl) | (apply ef_far; exact rfl; exact rfl) | (apply ef_notT; exact rfl; exact rfl) | (apply ef_notF; exact rfl; exact rfl) | (apply ef_new; exact rfl) | (apply ef_st; exact rfl; exact rfl; exact rfl; exact rfl; exact rfl; exact rfl; (exact rfl); exact rfl) | apply ef_nil | apply seqQ.normal | apply loopQ.ret | apply ef_ret | apply seqQ.ret | apply blockQ.ret | apply ef_block | apply ef_skip | (apply ef_condt; exact rfl; (exact (rfl : true = true))) | (apply ef_condf; exact rfl; (exact (rfl : false = false))) | (apply ef_call; exact rfl; ((repeat (apply XVs.cons; exact rfl)); exact XVs.nil); (with_reducible first | exact hw1 _ | exact hw2 _ | exact hw3 _ | exact hw4 _)))
                    (apply fin2; (· exact rfl); (· exact rfl); (· exact rfl); (· rw [HE.out]))
                  · cases r3
                    · have HE := hbad 2 (hrg rfl) (by decide)
                      clear hbad hgo hrg q1 q2 q3 q4 HR
                      repeat (first | apply ef_seq | (apply ef_mv; exact rfl; exact rfl) | (apply ef_bin; exact rfl; exact rfl; exact rfl; (exact cmp_t rfl (by first | exact rfl | (simp only [cmpP]; omega)))) | (apply ef_gy; exact rfl; (exact (rfl : false = false))) | (apply ef_gn; exact rfl; (exact (rfl : true = true)); exact rfl) | (apply ef_pick; exact rfl; exact rfl; exact rfl) | (apply ef_len; exact rfl; exact rfl; (assumption)) | (apply ef_ldr; exact rfl; exact rfl; (first | exact rd_6 rfl rfl rfl rfl rfl rfl | exact rfl)) | (apply ef_ldp; exact rfl; exact rfl; (exact rfl); exact rfl; (exact rfl); (first | exact rd_2 rfl rfl | exact rfl)) | (apply ef_ias; exact rfl; exact rfl; exact rfl; (omega); assumption; exact rfl) | (apply ef_fap; exact rfl; exact rfl) | (apply ef_far; exact rfl; exact rfl) | (apply ef_notT; exact rfl; exact rfl) | (apply ef_notF; exact rfl; exact rfl) | (apply ef_new; exact rfl) | (apply ef_st; exact rfl; exact rfl; exact rfl; exact rfl; exact rfl; exact rfl; (exact rfl); exact rfl) | apply ef_nil | apply seqQ.normal | apply loopQ.ret | apply ef_ret | apply seqQ.ret | apply blockQ.ret | apply ef_block | apply ef_skip | (apply ef_condt; exact rfl; (exact (rfl : true = true))) | (apply ef_condf; exact rfl; (exact (rfl : false = false))) | (apply ef_call; exact rfl; ((repeat (apply XVs.cons; exact rfl)); exact XVs.nil); (with_reducible first | exact hw1 _ | exact hw2 _ | exact hw3 _ | exact hw4 _ | exact hw5 _)))
                      (apply fin2; (· exact rfl); (· exact rfl); (· exact rfl); (· rw [HE.out]))
                    · cases r4
                      · have HE := hbad 2 (hrg rfl) (by decide)
                        clear hbad hgo hrg q1 q2 q3 q4 HR
                        repeat (first | apply ef_seq | (apply ef_mv; exact rfl; exact rfl) | (apply ef_bin; exact rfl; exact rfl; exact rfl; (exact cmp_t rfl (by first | exact rfl | (simp only [cmpP]; omega)))) | (apply ef_gy; exact rfl; (exact (rfl : false = false))) | (apply ef_pick; exact rfl; exact rfl; exact rfl) | (apply ef_len; exact rfl; exact rfl; (assumption)) | (apply ef_ldr; exact rfl; exact rfl; (first | exact rd_6 rfl rfl rfl rfl rfl rfl | exact rfl)) | (apply ef_ldp; exact rfl; exact rfl; (exact rfl); exact rfl; (exact rfl); (first | exact rd_2 rfl rfl | exact rfl)) | (apply ef_ias; exact rfl; exact rfl; exact rfl; (omega); assumption; exact rfl) | (apply ef_fap; exact rfl; exact rfl) | (apply ef_far; exact rfl; exact rfl) | (apply ef_notT; exact rfl; exact rfl) | (apply ef_notF; exact rfl; exact rfl) | (apply ef_new; exact rfl) | (apply ef_st; exact rfl; exact rfl; exact rfl; exact rfl; exact rfl; exact rfl; (exact rfl); exact rfl) | apply ef_nil | apply seqQ.normal | apply loopQ.ret | apply ef_ret | apply seqQ.ret | apply blockQ.ret | apply ef_block | apply ef_skip | (apply ef_condt; exact rfl; (exact (rfl : true = true))) | (apply ef_condf; exact rfl; (exact (rfl : false = false))) | (apply ef_call; exact rfl; ((repeat (apply XVs.cons; exact rfl)); exact XVs.nil); (with_reducible first | exact hw1 _ | exact hw2 _ | exact hw3 _ | exact hw4 _ | exact hw5 _ | exact hw6 _)))
                        (apply fin2; (· exact rfl); (· exact rfl); (· exact rfl); (· rw [HE.out]))
                      · have HE := Lib.hid (show crossE n.ls (n.cs.take i) c = unl (!((n.cs.take i).any (dblB c))) 23 by rw [HE.out, HR.out]; cases (n.cs.take i).any (dblB c) <;> simp [firstE, unl])
                        clear hrg q1 q2 q3 q4 HR
                        repeat (first | apply ef_seq | (apply ef_mv; exact rfl; exact rfl) | (apply ef_bin; exact rfl; exact rfl; exact rfl; (exact cmp_t rfl (by first | exact rfl | (simp only [cmpP]; omega)))) | (apply ef_gy; exact rfl; (exact (rfl : false = false))) | (apply ef_pick; exact rfl; exact rfl; exact rfl) | (apply ef_len; exact rfl; exact rfl; (assumption)) | (apply ef_ldr; exact rfl; exact rfl; (first | exact rd_6 rfl rfl rfl rfl rfl rfl | exact rfl)) | (apply ef_ldp; exact rfl; exact rfl; (exact rfl); exact rfl; (exact rfl); (first | exact rd_2 rfl rfl | exact rfl)) | (apply ef_ias; exact rfl; exact rfl; exact rfl; (omega); assumption; exact rfl) | (apply ef_fap; exact rfl; exact rfl) | (apply ef_far; exact rfl; exact rfl) | (apply ef_notT; exact rfl; exact rfl) | (apply ef_new; exact rfl) | (apply ef_st; exact rfl; exact rfl; exact rfl; exact rfl; exact rfl; exact rfl; (exact rfl); exact rfl) | apply ef_nil | apply seqQ.normal | apply ef_block | apply ef_skip | (apply ef_condt; exact rfl; (exact (rfl : true = true))) | (apply ef_condf; exact rfl; (exact (rfl : false = false))) | (apply ef_call; exact rfl; ((repeat (apply XVs.cons; exact rfl)); exact XVs.nil); (with_reducible first | exact hw1 _ | exact hw2 _ | exact hw3 _ | exact hw4 _ | exact hw5 _ | exact hw6 _)))
                        refine ef_loopf (α := Nat) (fun j => j ≤ i ∧ (n.cs.take i).any (dblB c) = ((n.cs.take i).drop j).any (dblB c)) (fun j => [(8, I64 (j : Int))]) [(6, I64 (i : Int)), (1, .ptr 0 0 0 0), (7, .ptr 2 0 0 0)] (fun _ => nmH n n.ls.length ++ [⟨0, false, 6, [encCr c]⟩]) (fun j => i - j) 0 [8] (fun _ => rfl) (by ((repeat (refine Hold.cons (by exact rfl) ?_)); exact Hold.nil)) (by ((repeat (refine Hold.cons (by exact rfl) ?_)); exact Hold.nil)) rfl rfl ⟨by omega, by simp⟩ (by simp; omega) ?_
                        rintro j ⟨hj, hy⟩
                        try simp only at hj hy ⊢
                        by_cases hjl : j < i
                        · have g1 := at_map encCr n.cs j (by omega)
                          have HD := Lib.hid (show (n.cs.take i).drop j = n.cs[j] :: (n.cs.take i).drop (j + 1) by rw [List.drop_eq_getElem_cons (by simp; omega)]; simp)
                          have HY := Lib.hid hy
                          clear hy
                          generalize n.cs[j] = o at g1 HD
                          have HB := Lib.hid (show dblB c o = ((decide (o.ln = c.ln) && decide (o.pa = c.pa)) || (decide (o.ti = c.ti) && decide (o.pt = c.pt))) from rfl)
                          have hyes : dblB c o = true → RowKit.Hid (netF n = ((i : Int), 23)) := fun hd => hbad 23 (by rw [HE.out, HY.out, HD.out, List.any_cons, hd]; rfl) (by decide)
                          have hno : dblB c o = false → RowKit.Hid ((n.cs.take i).any (dblB c) = ((n.cs.take i).drop (j + 1)).any (dblB c)) := fun hd => Lib.hid (by rw [HY.out, HD.out, List.any_cons, hd]; rfl)
                          clear hbad hgo
                          by_cases d1 : o.ln = c.ln ∧ o.pa = c.pa
                          · have HG := hyes (by rw [HB.out]; simp [d1])
                            clear hyes hno
                            repeat (first | apply ef_seq | (apply ef_mv; exact rfl; exact rfl) | (apply ef_bin; exact rfl; exact rfl; exact rfl; (exact cmp_t rfl (by first | exact rfl | (simp only [cmpP]; omega)))) | (apply ef_gy; exact rfl; (exact (rfl : true = true))) | (apply ef_gn; exact rfl; (exact (rfl : true = true)); exact rfl) | (apply ef_gu; exact rfl; exact rfl) | (apply ef_pick; exact rfl; exact rfl; exact rfl) | (apply ef_ldr; exact rfl; exact rfl; (exact rd_6 rfl rfl rfl rfl rfl rfl)) | (apply ef_ldp; exact rfl; exact rfl; (exact rfl); exact rfl; (exact rfl); (exact rfl)) | (apply ef_ias; exact rfl; exact rfl; exact rfl; (omega); assumption; exact rfl) | (apply ef_fap; exact rfl; exact rfl) | (apply ef_new; exact rfl) | (apply ef_st; exact rfl; exact rfl; exact rfl; exact rfl; exact rfl; exact rfl; (exact rfl); exact rfl) | apply ef_nil | apply seqQ.normal | apply loopQ.ret | apply ef_ret | apply seqQ.ret | apply blockQ.ret | apply ef_block | apply ef_skip | (apply ef_condt; exact rfl; (exact (rfl : true = true))))
                            (apply fin2; (· exact rfl); (· exact rfl); (· exact rfl); (· rw [HG.out]))
                          · by_cases d2 : o.ti = c.ti ∧ o.pt = c.pt
                            · have HG := hyes (by rw [HB.out]; simp [d2])
                              clear hyes hno
                              by_cases d3 : o.ln = c.ln
                              · repeat (first | apply ef_seq | (apply ef_mv; exact rfl; exact rfl) | (apply ef_bin; exact rfl; exact rfl; exact rfl; (first | exact cmp_t rfl (by first | exact rfl | (simp only [cmpP]; omega)) | exact cmp_f rfl (by simp only [cmpP]; omega))) | (apply ef_gy; exact rfl; (first | exact (rfl : true = true) | exact (rfl : false = false))) | (apply ef_pick; exact rfl; exact rfl; exact rfl) | (apply ef_ldr; exact rfl; exact rfl; (exact rd_6 rfl rfl rfl rfl rfl rfl)) | (apply ef_ldp; exact rfl; exact rfl; (exact rfl); exact rfl; (exact rfl); (exact rfl)) | (apply ef_ias; exact rfl; exact rfl; exact rfl; (omega); assumption; exact rfl) | (apply ef_fap; exact rfl; exact rfl) | (apply ef_new; exact rfl) | (apply ef_st; exact rfl; exact rfl; exact rfl; exact rfl; exact rfl; exact rfl; (exact rfl); exact rfl) | apply ef_nil | apply seqQ.normal | apply loopQ.ret | apply ef_ret | apply seqQ.ret | apply blockQ.ret | apply ef_block | apply ef_skip | (apply ef_condt; exact rfl; (exact (rfl : true = true))))
                                (apply fin2; (· exact rfl); (· exact rfl); (· exact rfl); (· rw [HG.out]))
                              · repeat (first | apply ef_seq | (apply ef_mv; exact rfl; exact rfl) | (apply ef_bin; exact rfl; exact rfl; exact rfl; (first | exact cmp_t rfl (by first | exact rfl | (simp only [cmpP]; omega)) | exact cmp_f rfl (by simp only [cmpP]; omega))) | (apply ef_gy; exact rfl; (first | exact (rfl : true = true) | exact (rfl : false = false))) | (apply ef_gn; exact rfl; (exact (rfl : false = false)); exact rfl) | (apply ef_pick; exact rfl; exact rfl; exact rfl) | (apply ef_ldr; exact rfl; exact rfl; (exact rd_6 rfl rfl rfl rfl rfl rfl)) | (apply ef_ldp; exact rfl; exact rfl; (exact rfl); exact rfl; (exact rfl); (exact rfl)) | (apply ef_ias; exact rfl; exact rfl; exact rfl; (omega); assumption; exact rfl) | (apply ef_fap; exact rfl; exact rfl) | (apply ef_new; exact rfl) | (apply ef_st; exact rfl; exact rfl; exact rfl; exact rfl; exact rfl; exact rfl; (exact rfl); exact rfl) | apply ef_nil | apply seqQ.normal | apply loopQ.ret | apply ef_ret | apply seqQ.ret | apply blockQ.ret | apply ef_block | apply ef_skip | (apply ef_condt; exact rfl; (exact (rfl : true = true))))
                                (apply fin2; (· exact rfl); (· exact rfl); (· exact rfl); (· rw [HG.out]))
                            · have HG := hno (by rw [HB.out]; simp; omega)
                              clear hyes hno
                              by_cases d3 : o.ln = c.ln <;> by_cases d4 : o.ti = c.ti
                              all_goals repeat (first | apply ef_seq | (apply ef_mv; exact rfl; exact rfl) | (apply ef_bin; exact rfl; exact rfl; exact rfl; (first | exact cmp_t rfl (by first | exact rfl | (simp only [cmpP]; omega)) | exact cmp_f rfl (by simp only [cmpP]; omega) | ((with_reducible refine bin_add (wrap_of ?_ ?_)) <;> omega))) | (apply ef_gy; exact rfl; (first | exact (rfl : true = true) | exact (rfl : false = false))) | (apply ef_gn; exact rfl; (exact (rfl : false = false)); exact rfl) | (apply ef_pick; exact rfl; exact rfl; exact rfl) | (apply ef_ldr; exact rfl; exact rfl; (exact rd_6 rfl rfl rfl rfl rfl rfl)) | (apply ef_ldp; exact rfl; exact rfl; (exact rfl); exact rfl; (exact rfl); (exact rfl)) | (apply ef_ias; exact rfl; exact rfl; exact rfl; (omega); assumption; exact rfl) | (apply ef_fap; exact rfl; exact rfl) | (apply ef_new; exact rfl) | (apply ef_st; exact rfl; exact rfl; exact rfl; exact rfl; exact rfl; exact rfl; (exact rfl); exact rfl) | apply ef_nil | apply seqQ.normal | apply blockQ.normal | apply ef_block | apply ef_skip | (apply ef_condt; exact rfl; (exact (rfl : true = true))) | (apply ef_condf; exact rfl; (exact (rfl : false = false))))
                              all_goals (refine loopQ.normal _ _ ⟨j + 1, ⟨hjl, HG.out⟩, (by first | (simp only; omega) | omega), ⟨by ((repeat (refine Hold.cons (by exact rfl) ?_)); exact Hold.nil), by ((repeat (refine Hold.cons (by exact rfl) ?_)); exact Hold.nil)⟩, .inr ⟨by ((repeat (refine hdl_cons rfl (by first | rfl | (simp [MV.lt, ltL, ltL_Ln, ltL_Cr, ltL_nm])) ?_)); exact hdl_nil), by first | rfl | (simp [hltL, ltL, MV.lt, ltL, ltL_Ln, ltL_Cr, ltL_nm])⟩, by first | exact rfl | (simp only [List.map_append, List.map_set]; exact rfl)⟩)
                        · have HG := hgo (by rw [HE.out, hy, List.drop_eq_nil_of_le (by simp; omega)]; rfl)
                          clear hbad hgo
                          repeat (first | apply ef_seq | (apply ef_mv; exact rfl; exact rfl) | (apply ef_bin; exact rfl; exact rfl; exact rfl; (first | exact cmp_f rfl (by simp only [cmpP]; omega) | ((with_reducible refine bin_add (wrap_of ?_ ?_)) <;> omega))) | apply ef_nil | apply seqQ.normal | apply loopQ.exit | apply ef_exit | apply seqQ.exit | apply blockQ.normal | apply blockQ.here | (apply ef_condf; exact rfl; (exact (rfl : false = false))))
                          (refine loopQ.normal _ _ ⟨i + 1, ⟨hlt, HG.out⟩, (by first | (simp only; omega) | omega), ⟨by ((repeat (refine Hold.cons (by exact rfl) ?_)); exact Hold.nil), by ((repeat (refine Hold.cons (by exact rfl) ?_)); exact Hold.nil)⟩, .inr ⟨by ((repeat (refine hdl_cons rfl (by first | rfl | (simp [MV.lt, ltL, ltL_Ln, ltL_Cr, ltL_nm])) ?_)); exact hdl_nil), by first | rfl | (simp [hltL, ltL, MV.lt, ltL, ltL_Ln, ltL_Cr, ltL_nm])⟩, by first | exact rfl | (simp only [List.map_append, List.map_set]; exact rfl)⟩)
        · have HF := Lib.hid (show netF n = (0, 0) by rw [HF.out, hz, List.drop_eq_nil_of_le (by omega), scanE_nil])
          repeat (first | apply ef_seq | (apply ef_mv; exact rfl; exact rfl) | (apply ef_bin; exact rfl; exact rfl; exact rfl; (exact cmp_f rfl (by simp only [cmpP]; omega))) | (apply ef_len; exact rfl; exact rfl; (assumption)) | (apply ef_ldp; exact rfl; exact rfl; (exact rfl); exact rfl; (exact rfl); (exact rfl)) | (apply ef_fap; exact rfl; exact rfl) | apply ef_nil | apply seqQ.normal | apply loopQ.exit | apply ef_ret | apply ef_exit | apply seqQ.exit | apply blockQ.here | (apply ef_condf; exact rfl; (exact (rfl : false = false))))
          (apply fin2; (· exact rfl); (· exact rfl); (· exact rfl); (· rw [HF.out]))
theorem rCheckNet_c (k : Nat) (n : Nt) (hb : BdN n) (h : MHeap) : orA (k + 3) 29 [encN n] h = some (.tup [I64 (netF n).1, I64 (netF n).2], h) :=
  callTT (args' := [encN n]) (frzL_lt (by simp [ltL, MV.lt, ltL_Ln, ltL_Cr])) rfl (rCheckNet_z k n hb)
end Go.Proofs.YtbdleggmdbihnaaGreat

/- The examples: the best corrections. -/
namespace Go.Proofs.YtbdleggmdbihnaaGreat
open Go.RowKit
theorem best_f : runFf (orL tA mfW 4000000 12) noI 4000000 mfW_l10 [netX] [] = some (.tup [.arr 0 0 4 0, I64 1, I64 0], [⟨0, false, 1, [I64 0, I64 (-2), I64 (-3), I64 (-6)]⟩]) := by kernel_rfl
end Go.Proofs.YtbdleggmdbihnaaGreat

/- The examples: the ranges. -/
namespace Go.Proofs.YtbdleggmdbihnaaGreat
open Go.RowKit
theorem rng_f : runFf (orL tA mfW 4000000 12) noI 4000000 mfW_l12 [netX] [] = some (.tup [.arr 0 0 4 0, I64 0], [⟨0, false, 2, [.agg [I64 0, I64 0], .agg [I64 (-2), I64 (-1)], .agg [I64 (-3), I64 (-2)], .agg [I64 (-6), I64 (-5)]]⟩]) := by kernel_rfl
end Go.Proofs.YtbdleggmdbihnaaGreat

/- The examples: a misclosure. -/
namespace Go.Proofs.YtbdleggmdbihnaaGreat
open Go.RowKit
theorem mis_f : runFf (orL tA mfW 4000000 12) noI 4000000 mfW_l41 [netX, .sl [I64 0, I64 2, I64 3, I64 1]] [] = some (.tup [I64 1, I64 0], []) := by kernel_rfl
end Go.Proofs.YtbdleggmdbihnaaGreat

/- The examples: what is kept. -/
namespace Go.Proofs.YtbdleggmdbihnaaGreat
open Go.RowKit
theorem kept_f : runFf (orL tA mfW 4000000 12) noI 4000000 mfW_l42 [netX, .sl [I64 1, I64 1, I64 0, I64 0]] [] = some (.tup [I64 0, I64 2, I64 0], []) := by kernel_rfl
end Go.Proofs.YtbdleggmdbihnaaGreat

/- The examples: levelled values. -/
namespace Go.Proofs.YtbdleggmdbihnaaGreat
open Go.RowKit
theorem lev_f : runFf (orL tA mfW 4000000 12) noI 4000000 mfW_l19 [netX, .sl [I64 0, I64 (-2), I64 (-3), I64 (-6)], .agg [I64 0, .sl [.agg [I64 15, I64 100]]]] [] = some (.tup [.arr 0 0 1 0, I64 0], [⟨0, false, 2, [.agg [I64 100, I64 101]]⟩]) := by kernel_rfl
end Go.Proofs.YtbdleggmdbihnaaGreat

/- Two rows of ranges are equal. -/
namespace Go.Proofs.YtbdleggmdbihnaaGreat
open Go.RowKit
set_option linter.unusedVariables false
theorem mf_Ranges : MT.mf 16 = some ⟨26, [(.tmp 4)], (.seq (.reg [⟨none, some 4, .mv (.c (.lit (.bool false)))⟩]) (.seq (.seq (.reg [⟨none, some 6, .mv (.s 0)⟩, ⟨none, some 7, .len (.s 6)⟩, ⟨none, some 8, .mv (.s 1)⟩, ⟨none, some 9, .len (.s 8)⟩, ⟨none, some 10, .bin .neq (.s 7) (.s 9)⟩]) (.cond (.s 10) (.seq (.reg [⟨none, some 4, .mv (.c (.lit (.bool false)))⟩]) .ret) .skip)) (.seq (.seq (.reg [⟨none, some 5, .mv (.c (.lit (.int .i64 0)))⟩]) (.block 0 (.loop [5, 0, 1] (.seq (.seq (.reg [⟨none, some 11, .mv (.s 5)⟩, ⟨none, some 12, .mv (.s 0)⟩, ⟨none, some 13, .len (.s 12)⟩, ⟨none, some 14, .bin .lss (.s 11) (.s 13)⟩]) (.cond (.s 14) .skip (.exit 0))) (.seq (.block 1 (.seq (.reg [⟨none, some 17, .mv (.s 0)⟩, ⟨none, some 18, .mv (.s 5)⟩, ⟨none, some 19, .ia 2 (.s 17) (.s 18)⟩, ⟨none, some 20, .ld (some 2) (.s 19)⟩, ⟨none, some 21, .mv (.s 1)⟩, ⟨none, some 22, .mv (.s 5)⟩, ⟨none, some 23, .ia 2 (.s 21) (.s 22)⟩, ⟨none, some 24, .ld (some 2) (.s 23)⟩, ⟨none, some 25, .eqa 2 true (.s 20) (.s 24)⟩]) (.cond (.s 25) (.seq (.reg [⟨none, some 4, .mv (.c (.lit (.bool false)))⟩]) .ret) .skip))) (.reg [⟨none, some 15, .mv (.s 5)⟩, ⟨none, some 16, .bin .add (.s 15) (.c (.lit (.int .i64 1)))⟩, ⟨none, some 5, .mv (.s 16)⟩])))))) (.seq (.reg [⟨none, some 4, .mv (.c (.lit (.bool true)))⟩]) .ret))))⟩ := by kernel_rfl
theorem bRanges_z (k : Nat) (xs ys : List (Int × Int)) (hx : xs.length < 1000000) : runZ MT (orA k) (itA k) 4000000 16 [.sl (xs.map encR), .sl (ys.map encR)] [] = some (Bo (xs == ys), []) := by
  have hl1 : (xs.map encR).length = xs.length := by simp
  have hl2 : (ys.map encR).length = ys.length := by simp
  refine runZ_of mf_Ranges (by simp) ?_
  simp only [argsL]
  by_cases hlen : xs.length = ys.length
  · repeat (first | apply ef_seq | (apply ef_mv; exact rfl; exact rfl) | (apply ef_bin; exact rfl; exact rfl; exact rfl; (exact cmp_f rfl (by simp only [cmpP]; omega))) | (apply ef_len; exact rfl; exact rfl; (exact rfl)) | apply ef_nil | apply seqQ.normal | apply ef_block | apply ef_skip | (apply ef_condf; exact rfl; (exact (rfl : false = false))))
    refine ef_loop (α := Nat) (fun i => i ≤ xs.length ∧ (xs == ys) = (xs.drop i == ys.drop i)) (fun i => [(5, I64 (i : Int)), (0, .sl (xs.map encR)), (1, .sl (ys.map encR))]) (fun _ => []) (fun i => xs.length - i) 0 [5, 0, 1] (fun _ => rfl) rfl ⟨by omega, by simp⟩ (by simp; omega) (by ((repeat (refine Hold.cons (by exact rfl) ?_)); exact Hold.nil)) rfl ?_
    rintro i ⟨hi, hz⟩
    by_cases hlt : i < xs.length
    · have e1 := at_map encR xs i hlt
      have e2 := at_map encR ys i (by omega)
      have HD := Lib.hid (drop_at xs i hlt)
      have HD2 := Lib.hid (drop_at ys i (by omega))
      have HZ := Lib.hid hz
      clear hz
      generalize xs[i] = p at e1 HD
      generalize ys[i] = q at e2 HD2
      obtain ⟨p1, p2⟩ := p
      obtain ⟨q1, q2⟩ := q
      by_cases hpq : p1 = q1 ∧ p2 = q2
      · obtain ⟨rfl, rfl⟩ := hpq
        have hb : negIf true (p1 == p1 && (p2 == p2 && true)) = false := by simp [negIf]
        repeat (first | apply ef_seq | (apply ef_mv; exact rfl; exact rfl) | (apply ef_bin; exact rfl; exact rfl; exact rfl; (first | exact cmp_t rfl (by first | exact rfl | (simp only [cmpP]; omega)) | ((with_reducible refine bin_add (wrap_of ?_ ?_)) <;> omega))) | (apply ef_len; exact rfl; exact rfl; (exact rfl)) | (apply ef_ldr; exact rfl; exact rfl; (exact rd_2 rfl rfl)) | (apply ef_ias; exact rfl; exact rfl; exact rfl; (omega); assumption; exact rfl) | (apply ef_eqa; exact rfl; exact rfl; exact rfl; exact rfl) | apply ef_nil | apply seqQ.normal | apply blockQ.normal | apply ef_block | apply ef_skip | (apply ef_condt; exact rfl; (exact (rfl : true = true))) | (apply ef_condf; exact rfl; (assumption)))
        (refine loopQ.normal _ _ ⟨i + 1, ⟨hlt, by rw [HZ.out, HD.out, HD2.out]; simp⟩, (by first | (simp only; omega) | omega), by ((repeat (refine Hold.cons (by exact rfl) ?_)); exact Hold.nil), .inl (Nat.le_refl _), (by first | exact List.take_length | exact rfl)⟩)
      · have hb : negIf true (p1 == q1 && (p2 == q2 && true)) = true := by
          have : (p1 == q1 && (p2 == q2 && true)) = false := by
            rw [Bool.and_true, Bool.and_eq_false_iff, beq_eq_false_iff_ne, beq_eq_false_iff_ne]
            omega
          rw [this]; rfl
        repeat (first | apply ef_seq | (apply ef_mv; exact rfl; exact rfl) | (apply ef_bin; exact rfl; exact rfl; exact rfl; (exact cmp_t rfl (by first | exact rfl | (simp only [cmpP]; omega)))) | (apply ef_len; exact rfl; exact rfl; (exact rfl)) | (apply ef_ldr; exact rfl; exact rfl; (exact rd_2 rfl rfl)) | (apply ef_ias; exact rfl; exact rfl; exact rfl; (omega); assumption; exact rfl) | (apply ef_eqa; exact rfl; exact rfl; exact rfl; exact rfl) | apply ef_nil | apply seqQ.normal | apply loopQ.ret | apply ef_ret | apply seqQ.ret | apply blockQ.ret | apply ef_block | apply ef_skip | (apply ef_condt; exact rfl; (first | exact (rfl : true = true) | assumption)))
        (refine fin1 rfl (by exact rfl) rfl ?_)
        rw [HZ.out, HD.out, HD2.out]
        have : ((p1, p2) :: xs.drop (i + 1) == (q1, q2) :: ys.drop (i + 1)) = false := by
          rw [beq_eq_false_iff_ne]
          intro e
          simp only [List.cons.injEq, Prod.mk.injEq] at e
          exact hpq e.1
        rw [this]
    · repeat (first | apply ef_seq | (apply ef_mv; exact rfl; exact rfl) | (apply ef_bin; exact rfl; exact rfl; exact rfl; (exact cmp_f rfl (by simp only [cmpP]; omega))) | (apply ef_len; exact rfl; exact rfl; (exact rfl)) | apply ef_nil | apply seqQ.normal | apply loopQ.exit | apply ef_ret | apply ef_exit | apply seqQ.exit | apply blockQ.here | (apply ef_condf; exact rfl; (exact (rfl : false = false))))
      (refine fin1 rfl (by exact rfl) rfl ?_)
      rw [hz, List.drop_eq_nil_of_le (by omega), List.drop_eq_nil_of_le (by omega)]; rfl
  · repeat (first | apply ef_seq | (apply ef_mv; exact rfl; exact rfl) | (apply ef_bin; exact rfl; exact rfl; exact rfl; (exact cmp_t rfl (by first | exact rfl | (simp only [cmpP]; omega)))) | (apply ef_len; exact rfl; exact rfl; (exact rfl)) | apply ef_nil | apply seqQ.normal | apply ef_ret | apply seqQ.ret | (apply ef_condt; exact rfl; (exact (rfl : true = true))))
    (refine fin1 rfl (by exact rfl) rfl ?_)
    have : (xs == ys) = false := by
      rw [beq_eq_false_iff_ne]; exact fun e => hlen (by rw [e])
    rw [this]
theorem bRanges_c (k : Nat) (xs ys : List (Int × Int)) (h : MHeap) {v w : MV} (hx : xs.length < 1000000) (hv : frz 0 [] h 8 v = some (.sl (xs.map encR))) (hw : frz 0 [] h 8 w = some (.sl (ys.map encR))) {t : Bool} (ht : (xs == ys) = t) : orA (k + 1) 16 [v, w] h = some (Bo t, h) :=
  callL (args' := [.sl (xs.map encR), .sl (ys.map encR)]) (by simp [List.mapM_cons, hv, hw]) rfl (by rw [← ht]; exact bRanges_z k xs ys hx)
end Go.Proofs.YtbdleggmdbihnaaGreat

/- The examples that every law begins with. -/
namespace Go.Proofs.YtbdleggmdbihnaaGreat
open Go.RowKit
theorem net_z (k : Nat) : runZ MT (orA k) (itA k) 4000000 40 [] [] = some (netX, []) := by kernel_rfl
theorem net_c (k : Nat) (h : MHeap) : orA (k + 1) 40 [] h = some (netX, h) := by
  have := callA (k := k) (h := h) (args := []) (args' := []) rfl rfl (net_z k) rfl rfl
  simpa [shV, sh1] using this
theorem bestX_c (h : MHeap) : orA 13 10 [netX] h = some (.tup [.arr h.length 0 4 0, I64 1, I64 0], h ++ [⟨0, false, 1, [I64 0, I64 (-2), I64 (-3), I64 (-6)]⟩]) := by
  have := callA (k := 12) (h := h) (args := [netX]) (args' := [netX]) (frzL_lt rfl) rfl (runL_ok mfW_ok (f := 10) (m := mfW_l10) (by kernel_rfl) best_f _) rfl rfl
  simpa [shV, sh1] using this
theorem rngX_c (h : MHeap) : orA 13 12 [netX] h = some (.tup [.arr h.length 0 4 0, I64 0], h ++ [⟨0, false, 2, [.agg [I64 0, I64 0], .agg [I64 (-2), I64 (-1)], .agg [I64 (-3), I64 (-2)], .agg [I64 (-6), I64 (-5)]]⟩]) := by
  have := callA (k := 12) (h := h) (args := [netX]) (args' := [netX]) (frzL_lt rfl) rfl (runL_ok mfW_ok (f := 12) (m := mfW_l12) (by kernel_rfl) rng_f _) rfl rfl
  simpa [shV, sh1] using this
theorem misX_c (h : MHeap) {v : MV} (hv : frz 0 [] h 8 v = some (.sl [I64 0, I64 2, I64 3, I64 1])) : orA 13 41 [netX, v] h = some (.tup [I64 1, I64 0], h) :=
  callTT (k := 12) (args' := [netX, .sl [I64 0, I64 2, I64 3, I64 1]]) (by simp [List.mapM_cons, hv, frz_lt (m := netX) rfl]) rfl (runL_ok mfW_ok (f := 41) (m := mfW_l41) (by kernel_rfl) mis_f _)
theorem keptX_c (h : MHeap) {v : MV} (hv : frz 0 [] h 8 v = some (.sl [I64 1, I64 1, I64 0, I64 0])) : orA 13 42 [netX, v] h = some (.tup [I64 0, I64 2, I64 0], h) := by
  have hf : [netX, v].mapM (frz 0 [] h 8) = some [netX, .sl [I64 1, I64 1, I64 0, I64 0]] := by simp [List.mapM_cons, hv, frz_lt (m := netX) rfl]
  have := callA (k := 12) (h := h) hf rfl (runL_ok mfW_ok (f := 42) (m := mfW_l42) (by kernel_rfl) kept_f _) (by simp [okV, ok1, MV.lt, MV.pure]) rfl
  simpa [shV, sh1] using this
theorem levX_c (h : MHeap) {v w : MV} (hv : frz 0 [] h 8 v = some (.sl [I64 0, I64 (-2), I64 (-3), I64 (-6)])) (hw : frz 0 [] h 8 w = some (.agg [I64 0, .sl [.agg [I64 15, I64 100]]])) : orA 13 19 [netX, v, w] h = some (.tup [.arr h.length 0 1 0, I64 0], h ++ [⟨0, false, 2, [.agg [I64 100, I64 101]]⟩]) := by
  have hf : [netX, v, w].mapM (frz 0 [] h 8) = some [netX, .sl [I64 0, I64 (-2), I64 (-3), I64 (-6)], .agg [I64 0, .sl [.agg [I64 15, I64 100]]]] := by simp [List.mapM_cons, hv, hw, frz_lt (m := netX) rfl]
  have := callA (k := 12) (h := h) hf rfl (runL_ok mfW_ok (f := 19) (m := mfW_l19) (by kernel_rfl) lev_f _) (by simp [okV, ok1, MV.lt, MV.pure]) (by simp [okH, ltL, MV.lt, pureL, MV.pure])
  simpa [shV, sh1] using this
theorem mf_awake : MT.mf 7 = some ⟨100, [(.tmp 0)], (.seq (.reg [⟨none, some 0, .mv (.c (.lit (.bool false)))⟩]) (.seq (.reg [⟨none, some 14, .call 40 []⟩, ⟨none, some 15, .call 10 [.s 14]⟩, ⟨none, some 13, .mv (.s 15)⟩, ⟨none, some 16, .ext (.s 13) 0⟩, ⟨none, some 17, .ext (.s 13) 1⟩, ⟨none, some 18, .ext (.s 13) 2⟩, ⟨none, some 1, .mv (.s 16)⟩, ⟨none, some 2, .mv (.s 17)⟩, ⟨none, some 3, .mv (.s 18)⟩]) (.seq (.reg [⟨none, some 20, .call 40 []⟩, ⟨none, some 21, .call 12 [.s 20]⟩, ⟨none, some 19, .mv (.s 21)⟩, ⟨none, some 22, .ext (.s 19) 0⟩, ⟨none, some 23, .ext (.s 19) 1⟩, ⟨none, some 4, .mv (.s 22)⟩, ⟨none, some 5, .mv (.s 23)⟩]) (.seq (.reg [⟨none, some 25, .call 40 []⟩, ⟨none, some 26, .bsl (.lit (.int .i64 0)) 1 4 [(0, (.c (.lit (.int .i64 0)))), (1, (.c (.lit (.int .i64 2)))), (2, (.c (.lit (.int .i64 3)))), (3, (.c (.lit (.int .i64 1))))]⟩, ⟨none, some 27, .call 41 [.s 25, .s 26]⟩, ⟨none, some 24, .mv (.s 27)⟩, ⟨none, some 28, .ext (.s 24) 0⟩, ⟨none, some 29, .ext (.s 24) 1⟩, ⟨none, some 6, .mv (.s 28)⟩, ⟨none, some 7, .mv (.s 29)⟩]) (.seq (.reg [⟨none, some 31, .call 40 []⟩, ⟨none, some 32, .bsl (.lit (.int .i64 0)) 1 4 [(0, (.c (.lit (.int .i64 1)))), (1, (.c (.lit (.int .i64 1)))), (2, (.c (.lit (.int .i64 0)))), (3, (.c (.lit (.int .i64 0))))]⟩, ⟨none, some 33, .call 42 [.s 31, .s 32]⟩, ⟨none, some 30, .mv (.s 33)⟩, ⟨none, some 34, .ext (.s 30) 0⟩, ⟨none, some 35, .ext (.s 30) 1⟩, ⟨none, some 36, .ext (.s 30) 2⟩, ⟨none, some 8, .mv (.s 34)⟩, ⟨none, some 9, .mv (.s 35)⟩, ⟨none, some 10, .mv (.s 36)⟩]) (.seq (.reg [⟨none, some 38, .call 40 []⟩, ⟨none, some 39, .bsl (.lit (.int .i64 0)) 1 4 [(0, (.c (.lit (.int .i64 0)))), (1, (.c (.lit (.int .i64 (-2))))), (2, (.c (.lit (.int .i64 (-3))))), (3, (.c (.lit (.int .i64 (-6)))))]⟩, ⟨none, some 40, .build [(.lit (.int .i64 0)), (.lit (.int .i64 0))] [(0, (1, (.c (.lit (.int .i64 15))))), (1, (1, (.c (.lit (.int .i64 100)))))]⟩, ⟨none, some 41, .bsl (.agg [(.lit (.int .i64 0)), (.lit (.int .i64 0))]) 2 1 [(0, (.s 40))]⟩, ⟨none, some 42, .build [(.lit (.int .i64 0)), (.lit (.slice none 0 0))] [(1, (1, (.s 41)))]⟩, ⟨none, some 43, .call 19 [.s 38, .s 39, .s 42]⟩, ⟨none, some 37, .mv (.s 43)⟩, ⟨none, some 44, .ext (.s 37) 0⟩, ⟨none, some 45, .ext (.s 37) 1⟩, ⟨none, some 11, .mv (.s 44)⟩, ⟨none, some 12, .mv (.s 45)⟩]) (.seq (.reg [⟨none, some 46, .mv (.s 3)⟩, ⟨none, some 47, .bin .eql (.s 46) (.c (.lit (.int .i64 0)))⟩, ⟨none, some 48, .mv (.s 47)⟩, ⟨some (48, true), some 49, .mv (.s 1)⟩, ⟨some (48, true), some 50, .bsl (.lit (.int .i64 0)) 1 4 [(0, (.c (.lit (.int .i64 0)))), (1, (.c (.lit (.int .i64 (-2))))), (2, (.c (.lit (.int .i64 (-3))))), (3, (.c (.lit (.int .i64 (-6)))))]⟩, ⟨some (48, true), some 51, .call 15 [.s 49, .s 50]⟩, ⟨none, some 52, .pick (.s 48) (.s 51) (.c (.lit (.bool false)))⟩, ⟨none, some 53, .mv (.s 52)⟩, ⟨some (53, true), some 54, .mv (.s 2)⟩, ⟨some (53, true), some 55, .bin .eql (.s 54) (.c (.lit (.int .i64 1)))⟩, ⟨none, some 56, .pick (.s 53) (.s 55) (.c (.lit (.bool false)))⟩, ⟨none, some 57, .mv (.s 56)⟩, ⟨some (57, true), some 58, .mv (.s 5)⟩, ⟨some (57, true), some 59, .bin .eql (.s 58) (.c (.lit (.int .i64 0)))⟩, ⟨none, some 60, .pick (.s 57) (.s 59) (.c (.lit (.bool false)))⟩, ⟨none, some 61, .mv (.s 60)⟩, ⟨some (61, true), some 62, .mv (.s 4)⟩, ⟨some (61, true), some 63, .build [(.lit (.int .i64 0)), (.lit (.int .i64 0))] []⟩, ⟨some (61, true), some 64, .build [(.lit (.int .i64 0)), (.lit (.int .i64 0))] [(0, (1, (.c (.lit (.int .i64 (-2)))))), (1, (1, (.c (.lit (.int .i64 (-1))))))]⟩, ⟨some (61, true), some 65, .build [(.lit (.int .i64 0)), (.lit (.int .i64 0))] [(0, (1, (.c (.lit (.int .i64 (-3)))))), (1, (1, (.c (.lit (.int .i64 (-2))))))]⟩, ⟨some (61, true), some 66, .build [(.lit (.int .i64 0)), (.lit (.int .i64 0))] [(0, (1, (.c (.lit (.int .i64 (-6)))))), (1, (1, (.c (.lit (.int .i64 (-5))))))]⟩, ⟨some (61, true), some 67, .bsl (.agg [(.lit (.int .i64 0)), (.lit (.int .i64 0))]) 2 4 [(0, (.s 63)), (1, (.s 64)), (2, (.s 65)), (3, (.s 66))]⟩, ⟨some (61, true), some 68, .call 16 [.s 62, .s 67]⟩, ⟨none, some 69, .pick (.s 61) (.s 68) (.c (.lit (.bool false)))⟩, ⟨none, some 70, .mv (.s 69)⟩, ⟨some (70, true), some 71, .mv (.s 7)⟩, ⟨some (70, true), some 72, .bin .eql (.s 71) (.c (.lit (.int .i64 0)))⟩, ⟨none, some 73, .pick (.s 70) (.s 72) (.c (.lit (.bool false)))⟩, ⟨none, some 74, .mv (.s 73)⟩, ⟨some (74, true), some 75, .mv (.s 6)⟩, ⟨some (74, true), some 76, .bin .eql (.s 75) (.c (.lit (.int .i64 1)))⟩, ⟨none, some 77, .pick (.s 74) (.s 76) (.c (.lit (.bool false)))⟩, ⟨none, some 78, .mv (.s 77)⟩, ⟨some (78, true), some 79, .mv (.s 10)⟩, ⟨some (78, true), some 80, .bin .eql (.s 79) (.c (.lit (.int .i64 0)))⟩, ⟨none, some 81, .pick (.s 78) (.s 80) (.c (.lit (.bool false)))⟩, ⟨none, some 82, .mv (.s 81)⟩, ⟨some (82, true), some 83, .mv (.s 8)⟩, ⟨some (82, true), some 84, .bin .eql (.s 83) (.c (.lit (.int .i64 0)))⟩, ⟨none, some 85, .pick (.s 82) (.s 84) (.c (.lit (.bool false)))⟩, ⟨none, some 86, .mv (.s 85)⟩, ⟨some (86, true), some 87, .mv (.s 9)⟩, ⟨some (86, true), some 88, .bin .eql (.s 87) (.c (.lit (.int .i64 2)))⟩, ⟨none, some 89, .pick (.s 86) (.s 88) (.c (.lit (.bool false)))⟩, ⟨none, some 90, .mv (.s 89)⟩, ⟨some (90, true), some 91, .mv (.s 12)⟩, ⟨some (90, true), some 92, .bin .eql (.s 91) (.c (.lit (.int .i64 0)))⟩, ⟨none, some 93, .pick (.s 90) (.s 92) (.c (.lit (.bool false)))⟩, ⟨none, some 94, .mv (.s 93)⟩, ⟨some (94, true), some 95, .mv (.s 11)⟩, ⟨some (94, true), some 96, .build [(.lit (.int .i64 0)), (.lit (.int .i64 0))] [(0, (1, (.c (.lit (.int .i64 100))))), (1, (1, (.c (.lit (.int .i64 101)))))]⟩, ⟨some (94, true), some 97, .bsl (.agg [(.lit (.int .i64 0)), (.lit (.int .i64 0))]) 2 1 [(0, (.s 96))]⟩, ⟨some (94, true), some 98, .call 16 [.s 95, .s 97]⟩, ⟨none, some 99, .pick (.s 94) (.s 98) (.c (.lit (.bool false)))⟩, ⟨none, some 0, .mv (.s 99)⟩]) .ret)))))))⟩ := by kernel_rfl
set_option maxHeartbeats 1000000 in
theorem awake_z : runZ MT (orA 13) (itA 13) 4000000 7 [] [] = some (Bo true, []) := by
  refine runZ_of mf_awake (by simp) ?_
  simp only [argsL]
  repeat (first | apply ef_seq | (apply ef_mv; exact rfl; exact rfl) | (apply ef_bin; exact rfl; exact rfl; exact rfl; (exact cmp_t rfl (by first | exact rfl | (simp only [cmpP]; omega)))) | (apply ef_gy; exact rfl; (exact (rfl : true = true))) | (apply ef_pick; exact rfl; exact rfl; exact rfl) | (apply ef_ext; exact rfl; exact rfl; exact rfl) | (apply ef_build; exact rfl; (repeat (apply XVs.cons; exact rfl)); exact XVs.nil; exact rfl; exact rfl) | (apply ef_bsl; exact rfl; (repeat (apply XVs.cons; exact rfl)); exact XVs.nil; exact rfl) | apply ef_nil | apply seqQ.normal | apply ef_ret | (apply ef_call; exact rfl; ((repeat (apply XVs.cons; exact rfl)); exact XVs.nil); (with_reducible first | exact net_c _ _ | exact bestX_c _ | exact rngX_c _ | exact misX_c _ rfl | exact keptX_c _ rfl | exact levX_c _ rfl rfl | exact bInts_c 12 [0, -2, -3, -6] [0, -2, -3, -6] _ (by simp) rfl rfl rfl | exact bRanges_c 12 [(0, 0), (-2, -1), (-3, -2), (-6, -5)] [(0, 0), (-2, -1), (-3, -2), (-6, -5)] _ (by simp) rfl rfl rfl | exact bRanges_c 12 [(100, 101)] [(100, 101)] _ (by simp) rfl rfl rfl)))
  (refine fin1 rfl (by exact rfl) rfl ?_)
  rfl
theorem awake_c (h : MHeap) : orA 14 7 [] h = some (Bo true, h) := callL (args' := []) rfl rfl awake_z
end Go.Proofs.YtbdleggmdbihnaaGreat

/- Contracts: corrections; copies; the limits of the statements. -/
namespace Go.Proofs.YtbdleggmdbihnaaGreat
open Go.RowKit
set_option linter.unusedVariables false
set_option linter.unusedSimpArgs false
theorem mf_IndexFuncI : MT.mf 118 = some mfW_l118 := mfW_q118
theorem IndexFuncI_z (k g : Nat) (caps : List MV) (P : Int → Bool) (zs : List Int) (hx : zs.length ≤ 1000) (hg : ∀ z ∈ zs, ∀ h, orA k g (I64 z :: caps) h = some (Bo (P z), h)) :
    runZ MT (orA k) (itA k) 4000000 118 [.sl (zs.map I64), .fn g 0 caps] [] = some (I64 (fIxG P zs 0), []) := by
  have hl : (MV.sl (zs.map I64)).slen = some zs.length := by simp [MV.slen]
  refine runZ_of mf_IndexFuncI (by simp) ?_
  simp only [argsL]
  repeat (first | apply ef_seq | (apply ef_mv; exact rfl; exact rfl) | (apply ef_len; exact rfl; exact rfl; (assumption)) | apply ef_nil | apply seqQ.normal | apply ef_block)
  refine ef_loop (α := Nat) (fun i => i ≤ zs.length ∧ fIxG P zs 0 = fIxG P (zs.drop i) i) (fun i => [(8, I64 (i : Int)), (7, I64 (zs.length : Int)), (1, .fn g 0 caps), (0, .sl (zs.map I64))]) (fun _ => []) (fun i => zs.length - i) 0 [8, 7, 1, 0] (fun _ => rfl) rfl ⟨by omega, rfl⟩ (by simp; omega) (by ((repeat (refine Hold.cons (by exact rfl) ?_)); exact Hold.nil)) rfl ?_
  rintro i ⟨hi, hz⟩
  by_cases hlt : i < zs.length
  · have e1 := at_map I64 zs i hlt
    have HD := Lib.hid (drop_at zs i hlt)
    have HZ := Lib.hid hz
    have hg1 := hg zs[i] (List.getElem_mem hlt)
    clear hz hg
    obtain ⟨t, ht⟩ : ∃ t, P zs[i] = t := ⟨_, rfl⟩
    have HT := Lib.hid ht
    rw [ht] at hg1
    clear ht
    generalize zs[i] = z at e1 HD hg1 HT
    cases t
    · repeat (first | apply ef_seq | (apply ef_mv; exact rfl; exact rfl) | (apply ef_bin; exact rfl; exact rfl; exact rfl; (exact cmp_t rfl (by first | exact rfl | (simp only [cmpP]; omega)))) | (apply ef_ldr; exact rfl; exact rfl; (exact rfl)) | (apply ef_ias; exact rfl; exact rfl; exact rfl; (omega); assumption; exact rfl) | apply ef_nil | apply seqQ.normal | apply ef_block | apply ef_skip | (apply ef_condt; exact rfl; (exact (rfl : true = true))))
      (apply ef_callv; exact rfl; exact rfl; ((repeat (apply XVs.cons; exact rfl)); exact XVs.nil); exact rfl; exact hg1 _)
      repeat (first | (apply ef_mv; exact rfl; exact rfl) | (apply ef_bin; exact rfl; exact rfl; exact rfl; (((with_reducible refine bin_add (wrap_of ?_ ?_)) <;> omega))) | apply ef_nil | apply seqQ.normal | apply blockQ.normal | apply ef_skip | (apply ef_condf; exact rfl; (exact (rfl : false = false))))
      (refine loopQ.normal _ _ ⟨i + 1, ⟨hlt, by rw [HZ.out, HD.out]; simp [fIxG, HT.out]⟩, (by first | (simp only; omega) | omega), by ((repeat (refine Hold.cons (by exact rfl) ?_)); exact Hold.nil), .inl (Nat.le_refl _), (by first | exact List.take_length | exact rfl)⟩)
    · repeat (first | apply ef_seq | (apply ef_mv; exact rfl; exact rfl) | (apply ef_bin; exact rfl; exact rfl; exact rfl; (exact cmp_t rfl (by first | exact rfl | (simp only [cmpP]; omega)))) | (apply ef_ldr; exact rfl; exact rfl; (exact rfl)) | (apply ef_ias; exact rfl; exact rfl; exact rfl; (omega); assumption; exact rfl) | apply ef_nil | apply seqQ.normal | apply ef_block | apply ef_skip | (apply ef_condt; exact rfl; (exact (rfl : true = true))))
      (apply ef_callv; exact rfl; exact rfl; ((repeat (apply XVs.cons; exact rfl)); exact XVs.nil); exact rfl; exact hg1 _)
      repeat (first | apply ef_seq | (apply ef_mv; exact rfl; exact rfl) | apply ef_nil | apply seqQ.normal | apply loopQ.ret | apply ef_ret | apply seqQ.ret | apply blockQ.ret | (apply ef_condt; exact rfl; (exact (rfl : true = true))))
      (refine fin1 rfl (by exact rfl) rfl ?_)
      rw [HZ.out, HD.out]; simp [fIxG, HT.out]
  · repeat (first | apply ef_seq | (apply ef_mv; exact rfl; exact rfl) | (apply ef_bin; exact rfl; exact rfl; exact rfl; (exact cmp_f rfl (by simp only [cmpP]; omega))) | apply ef_nil | apply seqQ.normal | apply loopQ.exit | apply ef_ret | apply ef_exit | apply seqQ.exit | apply blockQ.here | (apply ef_condf; exact rfl; (exact (rfl : false = false))))
    (refine fin1 rfl (by exact rfl) rfl ?_)
    rw [hz, List.drop_eq_nil_of_le (by omega)]; rfl
theorem IndexFuncI_c (k g : Nat) (caps : List MV) (P : Int → Bool) (zs : List Int) (h : MHeap) {v fv : MV} (hx : zs.length ≤ 1000) (hg : ∀ z ∈ zs, ∀ h, orA k g (I64 z :: caps) h = some (Bo (P z), h)) (hv : frz 0 [] h 8 v = some (.sl (zs.map I64))) (hf : frz 0 [] h 8 fv = some (.fn g 0 caps)) :
    orA (k + 1) 118 [v, fv] h = some (I64 (fIxG P zs 0), h) :=
  callL (args' := [.sl (zs.map I64), .fn g 0 caps]) (by simp [List.mapM_cons, hv, hf]) rfl (IndexFuncI_z k g caps P zs hx hg)
theorem mf_ContainsFuncI : MT.mf 79 = some mfW_l79 := mfW_q79
theorem ContainsFuncI_c (k g : Nat) (caps : List MV) (P : Int → Bool) (zs : List Int) (h : MHeap) {v fv : MV} {t : Bool} (hx : zs.length ≤ 1000) (hg : ∀ z ∈ zs, ∀ h, orA k g (I64 z :: caps) h = some (Bo (P z), h)) (hl : ltL 0 caps = true) (hv : frz 0 [] h 8 v = some (.sl (zs.map I64))) (hf : frz 0 [] h 8 fv = some (.fn g 0 caps))
    (ht : zs.any P = t) : orA (k + 2) 79 [v, fv] h = some (Bo t, h) := by
  refine callL (args' := [.sl (zs.map I64), .fn g 0 caps]) (by simp [List.mapM_cons, hv, hf]) rfl (runZ_of mf_ContainsFuncI (by simp) ?_)
  simp only [argsL]
  have hi := fun h => IndexFuncI_c k g caps P zs h (v := .sl (zs.map I64)) (fv := .fn g 0 caps) hx hg (frz_sl (ltL_lits (fun _ => by simp [MV.lt, ltL]) zs)) (by simp [frz, MV.lt, hl])
  repeat (first | apply ef_seq | (apply ef_mv; exact rfl; exact rfl) | (apply ef_bin; exact rfl; exact rfl; exact rfl; (exact rfl)) | apply ef_nil | apply seqQ.normal | apply ef_ret | (apply ef_call; exact rfl; ((repeat (apply XVs.cons; exact rfl)); exact XVs.nil); (with_reducible exact hi _)))
  (refine fin1 rfl (by exact rfl) rfl ?_)
  rw [← ht]
  exact fIxG_any P zs
theorem ltL_N (n : Nt) (m : Nat) : (encN n).lt m = true := by simp [MV.lt, ltL, ltL_Ln, ltL_Cr]
theorem mf_open : MT.mf 87 = some mfW_l87 := mfW_q87
theorem open_c (k : Nat) (n : Nt) (hb : BdN n) (h : MHeap) : orA (k + 6) 87 [encN n] h = some (.tup [encN n, I64 (netF n).2], h) := by
  have hc := fun h => CheckNet_c k n hb h
  have hz : runZ MT (orA (k + 5)) (itA (k + 5)) 4000000 87 [encN n] [] = some (.tup [encN n, I64 (netF n).2], []) := by
    refine runZ_of mf_open (by simp) ?_
    simp only [argsL]
    repeat (first | apply ef_seq | (apply ef_mv; exact rfl; exact rfl) | (apply ef_ldp; exact rfl; exact rfl; (exact rfl); exact rfl; (exact rfl); (exact rd_2 rfl rfl)) | (apply ef_ext; exact rfl; exact rfl; exact rfl) | (apply ef_box; exact rfl; exact rfl; exact rfl; exact rfl) | (apply ef_new; exact rfl) | (apply ef_build; exact rfl; (repeat (apply XVs.cons; exact rfl)); exact XVs.nil; exact rfl; exact rfl) | (apply ef_st; exact rfl; exact rfl; exact rfl; exact rfl; exact rfl; exact rfl; (exact rfl); exact rfl) | apply ef_nil | apply seqQ.normal | apply ef_ret | (apply ef_call; exact rfl; ((repeat (apply XVs.cons; exact rfl)); exact XVs.nil); (with_reducible exact hc _)))
    (apply fin_res2; (· exact rfl); (· exact ⟨1, 0, 0, 0, _, _, by exact rfl, by exact rfl, rfl, rfl, rd_2 rfl rfl⟩); (· exact rfl); (· exact ltL_N n 0); (· rfl))
  have := callA (k := k + 5) (h := h) (frzL_lt (ms := [encN n]) (by simp [ltL, ltL_N])) rfl hz (by simp [okV, ok1, MV.lt, ltL, ltL_Ln, ltL_Cr]) rfl
  simpa [shV, sh1] using this
def strB (z : Int) : Bool := !inB z (-1000000) 1000000
def corrE (m : Nat) (c : List Int) : Int :=
  if c.length = m then (if c.any strB then 2 else if c.getD 0 0 = 0 then 0 else 3) else 10
theorem mf_corr1 : MT.mf 124 = some mfW_l124 := mfW_q124
theorem corr1_c (k : Nat) (z : Int) (h : MHeap) : orA (k + 3) 124 [I64 z] h = some (Bo (strB z), h) := by
  refine callL (args' := [I64 z]) (frzL_lt rfl) rfl (runZ_of mf_corr1 (by simp) ?_)
  simp only [argsL]
  have hw := fun h => isSized_c k z 1000000 h (by omega) (by omega) rfl
  unfold strB
  have e : inB z (-1000000) 1000000 = inB z (-(1000000 : Int)) 1000000 := rfl
  rw [e]
  generalize inB z (-(1000000 : Int)) 1000000 = b at hw
  repeat (first | apply ef_seq | (apply ef_mv; exact rfl; exact rfl) | (apply ef_not; exact rfl; exact rfl; exact rfl) | apply ef_nil | apply seqQ.normal | apply ef_ret | (apply ef_call; exact rfl; ((repeat (apply XVs.cons; exact rfl)); exact XVs.nil); (with_reducible exact hw _)))
  (refine fin1 rfl (by exact rfl) rfl ?_)
  rfl
theorem hd_at {c : List Int} (h : 0 < c.length) : (c.map I64)[(0 : Int).toNat]? = some (I64 (c.getD 0 0)) := by
  rw [Int.toNat_zero, List.getElem?_map, List.getD_eq_getElem?_getD, List.getElem?_eq_getElem h]; rfl
theorem mf_corrErr : MT.mf 97 = some mfW_l97 := mfW_q97
theorem corrErr_c (k : Nat) (n : Nt) (c : List Int) (h0 : 0 < n.ls.length) (hn : n.ls.length ≤ 1000) (hc : c.length ≤ 1000) (h : MHeap) : orA (k + 6) 97 [encN n, .sl (c.map I64)] h = some (I64 (corrE n.ls.length c), h) := by
  refine callL (args' := [encN n, .sl (c.map I64)]) (frzL_lt (by simp [ltL, ltL_Ln, ltL_Cr, MV.lt, ltL_I])) rfl (runZ_of mf_corrErr (by simp) ?_)
  simp only [argsL]
  have hs1 : (MV.sl (n.ls.map encLn)).slen = some n.ls.length := by simp [MV.slen]
  have hs2 : (MV.sl (c.map I64)).slen = some c.length := by simp [MV.slen]
  have hun := fun b e h => unless_c (k + 4) b e h rfl
  have HC := Lib.hid (show corrE n.ls.length c = if c.length = n.ls.length then (if c.any strB then 2 else if c.getD 0 0 = 0 then 0 else 3) else 10 from rfl)
  have hcf := fun h => ContainsFuncI_c (k + 3) 124 [] strB c h (v := .sl (c.map I64)) (fv := .fn 124 0 []) hc (fun z _ h => corr1_c k z h) rfl (frz_sl (ltL_I 0 c)) (by simp [frz, MV.lt, ltL]) rfl
  generalize c.any strB = sb at hcf HC
  by_cases hl : c.length = n.ls.length
  · have e0 := hd_at (c := c) (by omega)
    generalize c.getD 0 0 = z at e0 HC
    cases sb
    · by_cases hz : z = 0
      · repeat (first | apply ef_seq | (apply ef_mv; exact rfl; exact rfl) | (apply ef_bin; exact rfl; exact rfl; exact rfl; (exact cmp_t rfl (by first | exact rfl | (simp only [cmpP]; omega)))) | (apply ef_len; exact rfl; exact rfl; (assumption)) | (apply ef_ldr; exact rfl; exact rfl; (exact rfl)) | (apply ef_ldp; exact rfl; exact rfl; (exact rfl); exact rfl; (exact rfl); (exact rfl)) | (apply ef_ias; exact rfl; exact rfl; exact rfl; (omega); assumption; exact rfl) | (apply ef_fap; exact rfl; exact rfl) | (apply ef_notF; exact rfl; exact rfl) | (apply ef_box; exact rfl; exact rfl; exact rfl; exact rfl) | (apply ef_bsl; exact rfl; (repeat (apply XVs.cons; exact rfl)); exact XVs.nil; exact rfl) | apply ef_nil | apply seqQ.normal | apply ef_ret | (apply ef_condt; exact rfl; (exact (rfl : true = true))) | (apply ef_call; exact rfl; ((repeat (apply XVs.cons; exact rfl)); exact XVs.nil); (with_reducible first | exact hcf _ | exact hun _ _ _)) | (apply ef_call; exact rfl; ((repeat (apply XVs.cons; exact rfl)); exact XVs.nil); (with_reducible apply first2_c); exact rfl; exact rfl; exact rfl; (exact rfl)))
        (refine fin1 rfl (by exact rfl) rfl ?_)
        rw [HC.out, if_pos hl, if_pos hz]; rfl
      · repeat (first | apply ef_seq | (apply ef_mv; exact rfl; exact rfl) | (apply ef_bin; exact rfl; exact rfl; exact rfl; (first | exact cmp_t rfl (by first | exact rfl | (simp only [cmpP]; omega)) | exact cmp_f rfl (by simp only [cmpP]; omega))) | (apply ef_len; exact rfl; exact rfl; (assumption)) | (apply ef_ldr; exact rfl; exact rfl; (exact rfl)) | (apply ef_ldp; exact rfl; exact rfl; (exact rfl); exact rfl; (exact rfl); (exact rfl)) | (apply ef_ias; exact rfl; exact rfl; exact rfl; (omega); assumption; exact rfl) | (apply ef_fap; exact rfl; exact rfl) | (apply ef_notF; exact rfl; exact rfl) | (apply ef_box; exact rfl; exact rfl; exact rfl; exact rfl) | (apply ef_bsl; exact rfl; (repeat (apply XVs.cons; exact rfl)); exact XVs.nil; exact rfl) | apply ef_nil | apply seqQ.normal | apply ef_ret | (apply ef_condt; exact rfl; (exact (rfl : true = true))) | (apply ef_call; exact rfl; ((repeat (apply XVs.cons; exact rfl)); exact XVs.nil); (with_reducible first | exact hcf _ | exact hun _ _ _)) | (apply ef_call; exact rfl; ((repeat (apply XVs.cons; exact rfl)); exact XVs.nil); (with_reducible apply first2_c); exact rfl; exact rfl; exact rfl; (exact rfl)))
        (refine fin1 rfl (by exact rfl) rfl ?_)
        rw [HC.out, if_pos hl, if_neg hz]; rfl
    · repeat (first | apply ef_seq | (apply ef_mv; exact rfl; exact rfl) | (apply ef_bin; exact rfl; exact rfl; exact rfl; (first | exact cmp_t rfl (by first | exact rfl | (simp only [cmpP]; omega)) | exact rfl)) | (apply ef_len; exact rfl; exact rfl; (assumption)) | (apply ef_ldp; exact rfl; exact rfl; (exact rfl); exact rfl; (exact rfl); (exact rfl)) | (apply ef_fap; exact rfl; exact rfl) | (apply ef_notT; exact rfl; exact rfl) | (apply ef_box; exact rfl; exact rfl; exact rfl; exact rfl) | (apply ef_bsl; exact rfl; (repeat (apply XVs.cons; exact rfl)); exact XVs.nil; exact rfl) | apply ef_nil | apply seqQ.normal | apply ef_ret | apply ef_skip | (apply ef_condf; exact rfl; (exact (rfl : false = false))) | (apply ef_call; exact rfl; ((repeat (apply XVs.cons; exact rfl)); exact XVs.nil); (with_reducible first | exact hcf _ | exact hun _ _ _)) | (apply ef_call; exact rfl; ((repeat (apply XVs.cons; exact rfl)); exact XVs.nil); (with_reducible apply first2_c); exact rfl; exact rfl; exact rfl; (exact rfl)))
      (refine fin1 rfl (by exact rfl) rfl ?_)
      rw [HC.out, if_pos hl]; rfl
  · have hl2 : ((c.length : Int) == (n.ls.length : Int)) = false := by rw [beq_eq_false_iff_ne]; omega
    cases sb
    all_goals repeat (first | apply ef_seq | (apply ef_mv; exact rfl; exact rfl) | (apply ef_bin; exact rfl; exact rfl; exact rfl; (first | exact cmp_f rfl (by simp only [cmpP]; omega) | exact rfl)) | (apply ef_len; exact rfl; exact rfl; (assumption)) | (apply ef_ldp; exact rfl; exact rfl; (exact rfl); exact rfl; (exact rfl); (exact rfl)) | (apply ef_fap; exact rfl; exact rfl) | (apply ef_notT; exact rfl; exact rfl) | (apply ef_notF; exact rfl; exact rfl) | (apply ef_box; exact rfl; exact rfl; exact rfl; exact rfl) | (apply ef_bsl; exact rfl; (repeat (apply XVs.cons; exact rfl)); exact XVs.nil; exact rfl) | apply ef_nil | apply seqQ.normal | apply ef_ret | apply ef_skip | (apply ef_condf; exact rfl; (exact (rfl : false = false))) | (apply ef_call; exact rfl; ((repeat (apply XVs.cons; exact rfl)); exact XVs.nil); (with_reducible first | exact hcf _ | exact hun _ _ _)) | (apply ef_call; exact rfl; ((repeat (apply XVs.cons; exact rfl)); exact XVs.nil); (with_reducible apply first2_c); exact rfl; exact rfl; exact rfl; (exact rfl)))
    all_goals (refine fin1 rfl (by exact rfl) rfl ?_)
    all_goals (rw [HC.out, if_neg hl]; rfl)
def bothE (n : Nt) (c : List Int) : Int := if (netF n).2 = 0 then corrE n.ls.length c else (netF n).2
theorem netF_pos {n : Nt} (h : (netF n).2 = 0) : 0 < n.ls.length ∧ n.ls.length ≤ 8 ∧ n.cs.length ≤ 16 := by
  unfold netF at h
  split at h
  · cases h
  · split at h
    · cases h
    · omega
theorem mf_openCorr : MT.mf 49 = some mfW_l49 := mfW_q49
theorem openCorr_c (k : Nat) (n : Nt) (hb : BdN n) (c : List Int) (hc : c.length ≤ 1000) (h : MHeap) : orA (k + 7) 49 [encN n, .sl (c.map I64)] h = some (.tup [encN n, I64 (bothE n c)], h) := by
  have ho := fun h => open_c k n hb h
  have hz : runZ MT (orA (k + 6)) (itA (k + 6)) 4000000 49 [encN n, .sl (c.map I64)] [] = some (.tup [encN n, I64 (bothE n c)], []) := by
    refine runZ_of mf_openCorr (by simp) ?_
    simp only [argsL]
    have HB := Lib.hid (show bothE n c = if (netF n).2 = 0 then corrE n.ls.length c else (netF n).2 from rfl)
    by_cases he : (netF n).2 = 0
    · obtain ⟨q1, q2, q3⟩ := netF_pos he
      have hce := fun h => corrErr_c k n c q1 (by omega) hc h
      rw [he] at ho HB
      clear he
      repeat (first | apply ef_seq | (apply ef_mv; exact rfl; exact rfl) | (apply ef_bin; exact rfl; exact rfl; exact rfl; (exact cmp_t rfl (by first | exact rfl | (simp only [cmpP]; omega)))) | (apply ef_ldp; exact rfl; exact rfl; (exact rfl); exact rfl; (exact rfl); (exact rd_2 rfl rfl)) | (apply ef_ext; exact rfl; exact rfl; exact rfl) | (apply ef_box; exact rfl; exact rfl; exact rfl; exact rfl) | (apply ef_new; exact rfl) | (apply ef_st; exact rfl; exact rfl; exact rfl; exact rfl; exact rfl; exact rfl; (exact rfl); exact rfl) | apply ef_nil | apply seqQ.normal | apply ef_ret | (apply ef_condt; exact rfl; (exact (rfl : true = true))) | (apply ef_call; exact rfl; ((repeat (apply XVs.cons; exact rfl)); exact XVs.nil); (with_reducible first | exact ho _ | exact hce _)))
      rw [HB.out, if_pos rfl]
      (apply fin_res2; (· exact rfl); (· exact ⟨1, 0, 0, 0, _, _, by exact rfl, by exact rfl, rfl, rfl, rd_2 rfl rfl⟩); (· exact rfl); (· exact ltL_N n 0); (· rfl))
    · generalize (netF n).2 = e at he ho HB
      repeat (first | apply ef_seq | (apply ef_mv; exact rfl; exact rfl) | (apply ef_bin; exact rfl; exact rfl; exact rfl; (exact cmp_f rfl (by simp only [cmpP]; omega))) | (apply ef_ldp; exact rfl; exact rfl; (exact rfl); exact rfl; (exact rfl); (exact rd_2 rfl rfl)) | (apply ef_ext; exact rfl; exact rfl; exact rfl) | (apply ef_box; exact rfl; exact rfl; exact rfl; exact rfl) | (apply ef_new; exact rfl) | (apply ef_st; exact rfl; exact rfl; exact rfl; exact rfl; exact rfl; exact rfl; (exact rfl); exact rfl) | apply ef_nil | apply seqQ.normal | apply ef_ret | apply ef_skip | (apply ef_condf; exact rfl; (exact (rfl : false = false))) | (apply ef_call; exact rfl; ((repeat (apply XVs.cons; exact rfl)); exact XVs.nil); (with_reducible exact ho _)))
      rw [HB.out, if_neg he]
      (apply fin_res2; (· exact rfl); (· exact ⟨1, 0, 0, 0, _, _, by exact rfl, by exact rfl, rfl, rfl, rd_2 rfl rfl⟩); (· exact rfl); (· exact ltL_N n 0); (· rfl))
  have := callA (k := k + 6) (h := h) (frzL_lt (ms := [encN n, .sl (c.map I64)]) (by simp [ltL, MV.lt, ltL_Ln, ltL_Cr, ltL_I])) rfl hz (by simp [okV, ok1, MV.lt, ltL, ltL_Ln, ltL_Cr, ltL_I]) rfl
  simpa [shV, sh1] using this
theorem mf_rCorr : MT.mf 30 = some ⟨28, [(.tmp 4)], (.seq (.reg [⟨none, some 2, .box 2 (.s 0)⟩, ⟨none, some 4, .mv (.c (.lit (.int .i64 0)))⟩]) (.seq (.seq (.reg [⟨none, some 6, .mv (.s 1)⟩, ⟨none, some 7, .len (.s 6)⟩, ⟨none, some 8, .fa 0 (.s 2)⟩, ⟨none, some 9, .ld none (.s 8)⟩, ⟨none, some 10, .len (.s 9)⟩, ⟨none, some 11, .bin .neq (.s 7) (.s 10)⟩]) (.cond (.s 11) (.seq (.reg [⟨none, some 4, .mv (.c (.lit (.int .i64 10)))⟩]) .ret) .skip)) (.seq (.seq (.reg [⟨none, some 5, .mv (.c (.lit (.int .i64 0)))⟩]) (.block 0 (.loop [5, 1] (.seq (.seq (.reg [⟨none, some 12, .mv (.s 5)⟩, ⟨none, some 13, .mv (.s 1)⟩, ⟨none, some 14, .len (.s 13)⟩, ⟨none, some 15, .bin .lss (.s 12) (.s 14)⟩]) (.cond (.s 15) .skip (.exit 0))) (.seq (.block 1 (.seq (.reg [⟨none, some 18, .mv (.s 1)⟩, ⟨none, some 19, .mv (.s 5)⟩, ⟨none, some 20, .ia 1 (.s 18) (.s 19)⟩, ⟨none, some 21, .ld none (.s 20)⟩, ⟨none, some 22, .call 65 [.s 21]⟩, ⟨none, some 23, .un .not (.s 22)⟩]) (.cond (.s 23) (.seq (.reg [⟨none, some 4, .mv (.c (.lit (.int .i64 2)))⟩]) .ret) .skip))) (.reg [⟨none, some 16, .mv (.s 5)⟩, ⟨none, some 17, .bin .add (.s 16) (.c (.lit (.int .i64 1)))⟩, ⟨none, some 5, .mv (.s 17)⟩])))))) (.seq (.seq (.reg [⟨none, some 24, .mv (.s 1)⟩, ⟨none, some 25, .ia 1 (.s 24) (.c (.lit (.int .i64 0)))⟩, ⟨none, some 26, .ld none (.s 25)⟩, ⟨none, some 27, .bin .neq (.s 26) (.c (.lit (.int .i64 0)))⟩]) (.cond (.s 27) (.seq (.reg [⟨none, some 4, .mv (.c (.lit (.int .i64 3)))⟩]) .ret) .skip)) (.seq (.reg [⟨none, some 4, .mv (.c (.lit (.int .i64 0)))⟩]) .ret)))))⟩ := by kernel_rfl
theorem rCorr_z (k : Nat) (n : Nt) (c : List Int) (h0 : 0 < n.ls.length) (hn : n.ls.length ≤ 1000) (hc : c.length ≤ 1000) : runZ MT (orA (k + 2)) (itA (k + 2)) 4000000 30 [encN n, .sl (c.map I64)] [] = some (I64 (corrE n.ls.length c), []) := by
  refine runZ_of mf_rCorr (by simp) ?_
  simp only [argsL]
  have hs1 : (MV.sl (n.ls.map encLn)).slen = some n.ls.length := by simp [MV.slen]
  have hs2 : (MV.sl (c.map I64)).slen = some c.length := by simp [MV.slen]
  have HC := Lib.hid (show corrE n.ls.length c = if c.length = n.ls.length then (if c.any strB then 2 else if c.getD 0 0 = 0 then 0 else 3) else 10 from rfl)
  by_cases hl : c.length = n.ls.length
  · have e0 := hd_at (c := c) (by omega)
    repeat (first | apply ef_seq | (apply ef_mv; exact rfl; exact rfl) | (apply ef_bin; exact rfl; exact rfl; exact rfl; (exact cmp_f rfl (by simp only [cmpP]; omega))) | (apply ef_len; exact rfl; exact rfl; (assumption)) | (apply ef_ldp; exact rfl; exact rfl; (exact rfl); exact rfl; (exact rfl); (exact rfl)) | (apply ef_fap; exact rfl; exact rfl) | (apply ef_box; exact rfl; exact rfl; exact rfl; exact rfl) | apply ef_nil | apply seqQ.normal | apply ef_block | apply ef_skip | (apply ef_condf; exact rfl; (exact (rfl : false = false))))
    refine ef_loopf (α := Nat) (fun i => i ≤ c.length ∧ c.any strB = (c.drop i).any strB) (fun i => [(5, I64 (i : Int))]) [(1, .sl (c.map I64))] (fun _ => [⟨0, false, 2, [encN n]⟩]) (fun i => c.length - i) 0 [5] (fun _ => rfl) (by ((repeat (refine Hold.cons (by exact rfl) ?_)); exact Hold.nil)) (by ((repeat (refine Hold.cons (by exact rfl) ?_)); exact Hold.nil)) rfl rfl ⟨by omega, rfl⟩ (by simp; omega) ?_
    rintro i ⟨hi, hz⟩
    try simp only at hi hz ⊢
    by_cases hlt : i < c.length
    · have e1 := at_map I64 c i hlt
      have HS := Lib.hid (drop_at c i hlt)
      have HZ := Lib.hid hz
      clear hz
      generalize c[i] = z at e1 HS
      obtain ⟨b, hb⟩ : ∃ b, inB z (-1000000) 1000000 = b := ⟨_, rfl⟩
      have hw := fun h => isValue_c k z h hb
      have HB := Lib.hid (show strB z = !b by unfold strB; rw [hb])
      clear hb
      cases b
      · repeat (first | apply ef_seq | (apply ef_mv; exact rfl; exact rfl) | (apply ef_bin; exact rfl; exact rfl; exact rfl; (exact cmp_t rfl (by first | exact rfl | (simp only [cmpP]; omega)))) | (apply ef_len; exact rfl; exact rfl; (assumption)) | (apply ef_ldr; exact rfl; exact rfl; (exact rfl)) | (apply ef_ias; exact rfl; exact rfl; exact rfl; (omega); assumption; exact rfl) | (apply ef_notF; exact rfl; exact rfl) | apply ef_nil | apply seqQ.normal | apply loopQ.ret | apply ef_ret | apply seqQ.ret | apply blockQ.ret | apply ef_block | apply ef_skip | (apply ef_condt; exact rfl; (exact (rfl : true = true))) | (apply ef_call; exact rfl; ((repeat (apply XVs.cons; exact rfl)); exact XVs.nil); (with_reducible exact hw _)))
        (refine fin1 rfl (by exact rfl) rfl ?_)
        rw [HC.out, if_pos hl, HZ.out, HS.out, List.any_cons, HB.out]; rfl
      · repeat (first | apply ef_seq | (apply ef_mv; exact rfl; exact rfl) | (apply ef_bin; exact rfl; exact rfl; exact rfl; (first | exact cmp_t rfl (by first | exact rfl | (simp only [cmpP]; omega)) | ((with_reducible refine bin_add (wrap_of ?_ ?_)) <;> omega))) | (apply ef_len; exact rfl; exact rfl; (assumption)) | (apply ef_ldr; exact rfl; exact rfl; (exact rfl)) | (apply ef_ias; exact rfl; exact rfl; exact rfl; (omega); assumption; exact rfl) | (apply ef_notT; exact rfl; exact rfl) | apply ef_nil | apply seqQ.normal | apply blockQ.normal | apply ef_block | apply ef_skip | (apply ef_condt; exact rfl; (exact (rfl : true = true))) | (apply ef_condf; exact rfl; (exact (rfl : false = false))) | (apply ef_call; exact rfl; ((repeat (apply XVs.cons; exact rfl)); exact XVs.nil); (with_reducible exact hw _)))
        (refine loopQ.normal _ _ ⟨i + 1, ⟨hlt, by rw [HZ.out, HS.out, List.any_cons, HB.out]; rfl⟩, (by first | (simp only; omega) | omega), ⟨by ((repeat (refine Hold.cons (by exact rfl) ?_)); exact Hold.nil), by ((repeat (refine Hold.cons (by exact rfl) ?_)); exact Hold.nil)⟩, .inl (Nat.le_refl _), (by first | exact List.take_length | exact rfl | exact takeF rfl rfl)⟩)
    · have HC := Lib.hid (show corrE n.ls.length c = if c.getD 0 0 = 0 then 0 else 3 by rw [HC.out, if_pos hl, hz, List.drop_eq_nil_of_le (by omega)]; rfl)
      generalize c.getD 0 0 = z at e0 HC
      by_cases h3 : z = 0
      · repeat (first | apply ef_seq | (apply ef_mv; exact rfl; exact rfl) | (apply ef_bin; exact rfl; exact rfl; exact rfl; (exact cmp_f rfl (by simp only [cmpP]; omega))) | (apply ef_len; exact rfl; exact rfl; (assumption)) | (apply ef_ldr; exact rfl; exact rfl; (exact rfl)) | (apply ef_ias; exact rfl; exact rfl; exact rfl; (omega); assumption; exact rfl) | apply ef_nil | apply seqQ.normal | apply loopQ.exit | apply ef_ret | apply ef_exit | apply seqQ.exit | apply blockQ.here | apply ef_skip | (apply ef_condf; exact rfl; (exact (rfl : false = false))))
        (refine fin1 rfl (by exact rfl) rfl ?_)
        rw [HC.out, if_pos h3]
      · repeat (first | apply ef_seq | (apply ef_mv; exact rfl; exact rfl) | (apply ef_bin; exact rfl; exact rfl; exact rfl; (first | exact cmp_t rfl (by first | exact rfl | (simp only [cmpP]; omega)) | exact cmp_f rfl (by simp only [cmpP]; omega))) | (apply ef_len; exact rfl; exact rfl; (assumption)) | (apply ef_ldr; exact rfl; exact rfl; (exact rfl)) | (apply ef_ias; exact rfl; exact rfl; exact rfl; (omega); assumption; exact rfl) | apply ef_nil | apply seqQ.normal | apply loopQ.exit | apply ef_ret | apply seqQ.ret | apply ef_exit | apply seqQ.exit | apply blockQ.here | (apply ef_condt; exact rfl; (exact (rfl : true = true))) | (apply ef_condf; exact rfl; (exact (rfl : false = false))))
        (refine fin1 rfl (by exact rfl) rfl ?_)
        rw [HC.out, if_neg h3]
  · repeat (first | apply ef_seq | (apply ef_mv; exact rfl; exact rfl) | (apply ef_bin; exact rfl; exact rfl; exact rfl; (exact cmp_t rfl (by first | exact rfl | (simp only [cmpP]; omega)))) | (apply ef_len; exact rfl; exact rfl; (assumption)) | (apply ef_ldp; exact rfl; exact rfl; (exact rfl); exact rfl; (exact rfl); (exact rfl)) | (apply ef_fap; exact rfl; exact rfl) | (apply ef_box; exact rfl; exact rfl; exact rfl; exact rfl) | apply ef_nil | apply seqQ.normal | apply ef_ret | apply seqQ.ret | (apply ef_condt; exact rfl; (exact (rfl : true = true))))
    (refine fin1 rfl (by exact rfl) rfl ?_)
    rw [HC.out, if_neg hl]
theorem rCorr_c (k : Nat) (n : Nt) (c : List Int) (h0 : 0 < n.ls.length) (hn : n.ls.length ≤ 1000) (hc : c.length ≤ 1000) (h : MHeap) {v : MV} (hv : frz 0 [] h 8 v = some (.sl (c.map I64))) : orA (k + 3) 30 [encN n, v] h = some (I64 (corrE n.ls.length c), h) :=
  callL (args' := [encN n, .sl (c.map I64)]) (by simp [List.mapM_cons, frz_lt (ltL_N n 0), hv]) rfl (rCorr_z k n c h0 hn hc)
theorem mf_Copy : MT.mf 11 = some ⟨12, [(.cello 2 (some 2))], (.seq (.reg [⟨none, some 1, .box 2 (.s 0)⟩, ⟨none, some 2, .new (.agg [(.lit (.slice none 0 0)), (.lit (.slice none 0 0))])⟩]) (.seq (.reg [⟨none, some 3, .vsl (.agg [(.lit (.string ⟨#[]⟩)), (.lit (.bool false))]) 2 0 []⟩, ⟨none, some 4, .fa 0 (.s 1)⟩, ⟨none, some 5, .ld none (.s 4)⟩, ⟨none, some 6, .app 2 (.s 3) (.s 5)⟩, ⟨none, some 7, .vsl (.agg [(.lit (.int .i64 0)), (.lit (.int .i64 0)), (.lit (.int .i64 0)), (.lit (.int .i64 0)), (.lit (.int .i64 0)), (.lit (.int .i64 0))]) 6 0 []⟩, ⟨none, some 8, .fa 1 (.s 1)⟩, ⟨none, some 9, .ld none (.s 8)⟩, ⟨none, some 10, .app 6 (.s 7) (.s 9)⟩, ⟨none, some 11, .build [(.lit (.slice none 0 0)), (.lit (.slice none 0 0))] [(0, (1, (.s 6))), (1, (1, (.s 10)))]⟩, ⟨none, none, .st 2 (.s 2) (.s 11)⟩]) .ret))⟩ := by kernel_rfl
theorem sOk_Ln (ls : List Ln) : (ls.map encLn).all (MV.sOk 2) = true := by
  rw [List.all_eq_true]; intro m hm; obtain ⟨l, _, rfl⟩ := List.mem_map.1 hm; rfl
theorem sOk_Cr (ls : List Cr) : (ls.map encCr).all (MV.sOk 6) = true := by
  rw [List.all_eq_true]; intro m hm; obtain ⟨l, _, rfl⟩ := List.mem_map.1 hm; rfl
theorem frzF_lt {f : Nat} {h : MHeap} {m : MV} (hl : m.lt 0 = true) : frz 0 [] h (f + 1) m = some m := by simp [frz, hl]
theorem frzF_arr {f : Nat} {h : MHeap} {id k g : Nat} {o : MObj} {es : List MV} (ho : h[id]? = some o) (hg : o.g = g) (hk : k = es.length) (hl : ltL 0 es = true) (he : o.es = es) : frz 0 [] h (f + 1) (.arr id 0 k g) = some (.sl es) := by
  subst he hk
  simp [frz, MV.lt, ho, hg, hl]
theorem frzF_agg2 {f : Nat} {h : MHeap} {a b a' b' : MV} (hl : (MV.agg [a, b]).lt 0 = false) (ha : frz 0 [] h f a = some a') (hb : frz 0 [] h f b = some b') : frz 0 [] h (f + 1) (.agg [a, b]) = some (.agg [a', b']) := by
  simp [frz, hl, List.mapM_cons, ha, hb]
theorem fin_cellz {x : MX2} {A : Sl} {h : MHeap} {r : MRes} {cs : List MV} {v' : MV} (hx : outX x = true) (hv : ResV A h r (.agg cs)) (hf : frz 0 [] h 8 (.agg cs) = some v') : FinF [r] v' [] x A h := by
  refine ⟨hx, [.agg cs], [v'], ⟨_, [], rfl, hv, rfl⟩, by simp [impIds], ?_, rfl⟩
  have hi : impIds 0 [MV.agg cs] = [] := by simp [impIds]
  rw [hi]
  simp [expL, hf]
def cpV (p : Nat) : List Ln → List Cr → MV
  | [], [] => .agg [.sl [], .sl []]
  | [], c :: cs => .agg [.sl [], .arr p 0 (c :: cs).length 0]
  | l :: ls, [] => .agg [.arr p 0 (l :: ls).length 0, .sl []]
  | l :: ls, c :: cs => .agg [.arr p 0 (l :: ls).length 0, .arr (1 + p) 0 (c :: cs).length 0]
def cpH : List Ln → List Cr → MHeap
  | [], [] => []
  | [], c :: cs => [⟨0, false, 6, (c :: cs).map encCr⟩]
  | l :: ls, [] => [⟨0, false, 2, (l :: ls).map encLn⟩]
  | l :: ls, c :: cs => [⟨0, false, 2, (l :: ls).map encLn⟩, ⟨0, false, 6, (c :: cs).map encCr⟩]
theorem fin_oaa {x : MX2} {A : Sl} {h : MHeap} {t id id' k k' g g' kk kk' : Nat} {ag : Option Nat} {o o' : MObj} {es es' : List MV} {sz sz' : Nat} {nl nl' : Bool} (hx : outX x = true) (hv : ResV A h (.cell t ag) (.agg [.arr id 0 k g, .arr id' 0 k' g'])) (hne : id ≠ id') (ho : h[id]? = some o) (ho' : h[id']? = some o') (hg : o.g = g) (hg' : o'.g = g') (hk : k = es.length) (hk' : k' = es'.length) (hl : ltL 0 es = true) (hl' : ltL 0 es' = true) (he : o.es = es) (he' : o'.es = es') (hz : o.sz = sz) (hz' : o'.sz = sz') (hn : o.nl = nl) (hn' : o'.nl = nl') (hq : es.length = kk) (hq' : es'.length = kk') :
    FinO t ag (.agg [.arr 0 0 kk 0, .arr 1 0 kk' 0]) [⟨0, nl, sz, es⟩, ⟨0, nl', sz', es'⟩] x A h := by
  subst hz hz' hn hn' hq hq' he he' hk hk'
  refine ⟨hx, _, [.arr 0 0 o.es.length 0, .arr 1 0 o'.es.length 0], hv, ?_, ?_, rfl⟩
  · simp [impIds, hne]
  · simp [expL, ho, ho', hg, hg', hl, hl', frz, MV.lt]
theorem fin_oae {x : MX2} {A : Sl} {h : MHeap} {t id k g kk : Nat} {ag : Option Nat} {o : MObj} {es : List MV} {sz : Nat} {nl : Bool} (hx : outX x = true) (hv : ResV A h (.cell t ag) (.agg [.arr id 0 k g, .emp])) (ho : h[id]? = some o) (hg : o.g = g) (hk : k = es.length) (hl : ltL 0 es = true) (he : o.es = es) (hz : o.sz = sz) (hn : o.nl = nl) (hq : es.length = kk) :
    FinO t ag (.agg [.arr 0 0 kk 0, .sl []]) [⟨0, nl, sz, es⟩] x A h := by
  subst hz hn hq he hk
  refine ⟨hx, _, [.arr 0 0 o.es.length 0, .sl []], hv, ?_, ?_, rfl⟩
  · simp [impIds]
  · simp [expL, ho, hg, hl, frz, MV.lt]
theorem fin_oea {x : MX2} {A : Sl} {h : MHeap} {t id k g kk : Nat} {ag : Option Nat} {o : MObj} {es : List MV} {sz : Nat} {nl : Bool} (hx : outX x = true) (hv : ResV A h (.cell t ag) (.agg [.emp, .arr id 0 k g])) (ho : h[id]? = some o) (hg : o.g = g) (hk : k = es.length) (hl : ltL 0 es = true) (he : o.es = es) (hz : o.sz = sz) (hn : o.nl = nl) (hq : es.length = kk) :
    FinO t ag (.agg [.sl [], .arr 0 0 kk 0]) [⟨0, nl, sz, es⟩] x A h := by
  subst hz hn hq he hk
  refine ⟨hx, _, [.sl [], .arr 0 0 o.es.length 0], hv, ?_, ?_, rfl⟩
  · simp [impIds]
  · simp [expL, ho, hg, hl, frz, MV.lt]
theorem fin_oee {x : MX2} {A : Sl} {h : MHeap} {t : Nat} {ag : Option Nat} (hx : outX x = true) (hv : ResV A h (.cell t ag) (.agg [.emp, .emp])) : FinO t ag (.agg [.sl [], .sl []]) [] x A h := by
  refine ⟨hx, _, [.sl [], .sl []], hv, ?_, ?_, rfl⟩
  · simp [impIds]
  · simp [expL, frz, MV.lt]
set_option maxHeartbeats 1000000 in
theorem Copy_z (k : Nat) (n : Nt) (hb : BdN n) : runZ MT (orA k) (itA k) 4000000 11 [encN n] [] = some (cpV 0 n.ls n.cs, cpH n.ls n.cs) := by
  obtain ⟨b1, b2, b3⟩ := hb
  obtain ⟨ls, cs⟩ := n
  refine runZ_ofO mf_Copy (by simp) ?_
  simp only [argsL]
  have q1 := sOk_Ln ls
  have q2 := sOk_Cr cs
  simp only at b1 b2
  repeat (first | apply ef_seq | (apply ef_ldp; exact rfl; exact rfl; (exact rfl); exact rfl; (exact rfl); (exact rfl)) | (apply ef_fap; exact rfl; exact rfl) | (apply ef_box; exact rfl; exact rfl; exact rfl; exact rfl) | (apply ef_new; exact rfl) | (apply ef_vse; exact rfl) | apply ef_nil | apply seqQ.normal)
  cases ls with
  | nil =>
    (apply ef_appe0; (· exact rfl); (· exact rfl); (· exact rfl); (· exact rfl))
    repeat (first | (apply ef_ldp; exact rfl; exact rfl; (exact rfl); exact rfl; (exact rfl); (exact rfl)) | (apply ef_fap; exact rfl; exact rfl) | (apply ef_vse; exact rfl))
    cases cs with
    | nil =>
      (apply ef_appe0; (· exact rfl); (· exact rfl); (· exact rfl); (· exact rfl))
      repeat (first | (apply ef_build; exact rfl; (repeat (apply XVs.cons; exact rfl)); exact XVs.nil; exact rfl; exact rfl) | (apply ef_st; exact rfl; exact rfl; exact rfl; exact rfl; exact rfl; exact rfl; (exact rfl); exact rfl) | apply ef_nil | apply seqQ.normal | apply ef_ret)
      (apply fin_oee; (· exact rfl); (· exact ⟨1, 0, 0, 0, _, _, by exact rfl, by exact rfl, rfl, rfl, rd_2 rfl rfl⟩))
    | cons c cs =>
      (apply ef_appe; (· exact rfl); (· exact rfl); (· exact rfl); (· exact rfl); (· simp at b2 ⊢; omega); (· exact q2))
      repeat (first | (apply ef_build; exact rfl; (repeat (apply XVs.cons; exact rfl)); exact XVs.nil; exact rfl; exact rfl) | (apply ef_st; exact rfl; exact rfl; exact rfl; exact rfl; exact rfl; exact rfl; (exact rfl); exact rfl) | apply ef_nil | apply seqQ.normal | apply ef_ret)
      (apply fin_oea; (· exact rfl); (· exact ⟨1, 0, 0, 0, _, _, by exact rfl, by exact rfl, rfl, rfl, rd_2 rfl rfl⟩); (· exact rfl); (· exact rfl); (· simp); (· exact ltL_Cr 0 (c :: cs)); (· exact rfl); (· exact rfl); (· exact rfl); (· simp))
  | cons l ls =>
    (apply ef_appe; (· exact rfl); (· exact rfl); (· exact rfl); (· exact rfl); (· simp at b1 ⊢; omega); (· exact q1))
    repeat (first | (apply ef_ldp; exact rfl; exact rfl; (exact rfl); exact rfl; (exact rfl); (exact rfl)) | (apply ef_fap; exact rfl; exact rfl) | (apply ef_vse; exact rfl))
    cases cs with
    | nil =>
      (apply ef_appe0; (· exact rfl); (· exact rfl); (· exact rfl); (· exact rfl))
      repeat (first | (apply ef_build; exact rfl; (repeat (apply XVs.cons; exact rfl)); exact XVs.nil; exact rfl; exact rfl) | (apply ef_st; exact rfl; exact rfl; exact rfl; exact rfl; exact rfl; exact rfl; (exact rfl); exact rfl) | apply ef_nil | apply seqQ.normal | apply ef_ret)
      (apply fin_oae; (· exact rfl); (· exact ⟨1, 0, 0, 0, _, _, by exact rfl, by exact rfl, rfl, rfl, rd_2 rfl rfl⟩); (· exact rfl); (· exact rfl); (· simp); (· exact ltL_Ln 0 (l :: ls)); (· exact rfl); (· exact rfl); (· exact rfl); (· simp))
    | cons c cs =>
      (apply ef_appe; (· exact rfl); (· exact rfl); (· exact rfl); (· exact rfl); (· simp at b2 ⊢; omega); (· exact q2))
      repeat (first | (apply ef_build; exact rfl; (repeat (apply XVs.cons; exact rfl)); exact XVs.nil; exact rfl; exact rfl) | (apply ef_st; exact rfl; exact rfl; exact rfl; exact rfl; exact rfl; exact rfl; (exact rfl); exact rfl) | apply ef_nil | apply seqQ.normal | apply ef_ret)
      (apply fin_oaa; (· exact rfl); (· exact ⟨1, 0, 0, 0, _, _, by exact rfl, by exact rfl, rfl, rfl, rd_2 rfl rfl⟩); (· show 2 ≠ 3; decide); (· exact rfl); (· exact rfl); (· exact rfl); (· exact rfl); (· simp); (· simp); (· exact ltL_Ln 0 (l :: ls)); (· exact ltL_Cr 0 (c :: cs)); (· exact rfl); (· exact rfl); (· exact rfl); (· exact rfl); (· exact rfl); (· exact rfl); (· simp); (· simp))
theorem Copy_c (k : Nat) (n : Nt) (hb : BdN n) (h : MHeap) : orA (k + 1) 11 [encN n] h = some (cpV h.length n.ls n.cs, h ++ cpH n.ls n.cs) := by
  have hz := Copy_z k n hb
  obtain ⟨ls, cs⟩ := n
  simp only at hz ⊢
  have h1 : [encN ⟨ls, cs⟩].mapM (frz 0 [] h 8) = some [encN ⟨ls, cs⟩] := frzL_lt (by simp [ltL, MV.lt, ltL_Ln, ltL_Cr])
  cases ls with
  | nil =>
    cases cs with
    | nil => exact callA (k := k) (h := h) h1 rfl hz rfl rfl
    | cons c cs =>
      have := callA (k := k) (h := h) h1 rfl hz (by simp [okV, ok1, cpV, MV.lt, MV.pure, ltL, pureL]) (by simp [okH, cpH, ltL, MV.lt, pureL, MV.pure, ltL_Cr, pureL_Cr])
      simpa [shV, sh1, cpV, cpH] using this
  | cons l ls =>
    cases cs with
    | nil =>
      have := callA (k := k) (h := h) h1 rfl hz (by simp [okV, ok1, cpV, MV.lt, MV.pure, ltL, pureL]) (by simp [okH, cpH, ltL, MV.lt, pureL, MV.pure, ltL_Ln, pureL_Ln])
      simpa [shV, sh1, cpV, cpH] using this
    | cons c cs =>
      have := callA (k := k) (h := h) h1 rfl hz (by simp [okV, ok1, cpV, MV.lt, MV.pure, ltL, pureL]) (by simp [okH, cpH, ltL, MV.lt, pureL, MV.pure, ltL_Cr, pureL_Cr, ltL_Ln, pureL_Ln])
      simpa [shV, sh1, cpV, cpH] using this
theorem mf_CopyInts : MT.mf 20 = some ⟨6, [(.tmp 2)], (.seq (.reg [⟨none, some 2, .nil0 1⟩]) (.seq (.reg [⟨none, some 3, .bsl (.lit (.int .i64 0)) 1 0 []⟩, ⟨none, some 4, .mv (.s 0)⟩, ⟨none, some 5, .app 1 (.s 3) (.s 4)⟩, ⟨none, some 2, .mv (.s 5)⟩]) .ret))⟩ := by kernel_rfl
theorem bCopyInts_z (k : Nat) (xs : List Int) (hx : xs.length ≤ 1000000) : runZ MT (orA k) (itA k) 4000000 20 [.sl (xs.map I64)] [] = some (.arr 0 0 xs.length 0, [⟨0, false, 1, xs.map I64⟩]) := by
  refine runZ_of mf_CopyInts (by simp) ?_
  simp only [argsL]
  cases xs with
  | nil =>
    repeat (first | apply ef_seq | (apply ef_mv; exact rfl; exact rfl) | (apply ef_nil0; exact rfl) | (apply ef_bsl; exact rfl; (repeat (apply XVs.cons; exact rfl)); exact XVs.nil; exact rfl) | apply ef_nil | apply seqQ.normal)
    (apply ef_app0; (· exact rfl); (· exact rfl); (· exact rfl); (· exact rfl); (· exact rfl); (· exact rfl); (· exact rfl); (· exact rfl))
    repeat (first | (apply ef_mv; exact rfl; exact rfl) | apply ef_nil | apply seqQ.normal | apply ef_ret)
    (apply fin_arr; (· exact rfl); (· exact rfl); (· exact rfl); (· exact rfl); (· simp); (· exact rfl); (· exact rfl); (· exact rfl); (· exact rfl); (· exact rfl))
  | cons x xs =>
    have hs : ((x :: xs).map I64).all (MV.sOk 1) = true := by
      rw [List.all_eq_true]
      intro m hm
      obtain ⟨a, _, rfl⟩ := List.mem_map.1 hm
      rfl
    repeat (first | apply ef_seq | (apply ef_mv; exact rfl; exact rfl) | (apply ef_nil0; exact rfl) | (apply ef_bsl; exact rfl; (repeat (apply XVs.cons; exact rfl)); exact XVs.nil; exact rfl) | apply ef_nil | apply seqQ.normal)
    (apply ef_app; (· exact rfl); (· exact rfl); (· exact rfl); (· exact rfl); (· exact rfl); (· exact rfl); (· exact rfl); (· exact rfl); (· (simp at hx ⊢; omega)); (· exact hs); (· exact rfl))
    repeat (first | (apply ef_mv; exact rfl; exact rfl) | apply ef_nil | apply seqQ.normal | apply ef_ret)
    (apply fin_arr; (· exact rfl); (· exact rfl); (· exact rfl); (· exact rfl); (· simp); (· (exact ltL_I 0 (x :: xs))); (· (simp; rw [List.take_of_length_le (by simp)])); (· exact rfl); (· exact rfl); (· (simp)))
theorem mf_fewNumbers : MT.mf 18 = some ⟨6, [(.tmp 2)], (.seq (.reg [⟨none, some 2, .mv (.c (.lit (.bool false)))⟩]) (.seq (.reg [⟨none, some 3, .mv (.s 0)⟩, ⟨none, some 4, .len (.s 3)⟩, ⟨none, some 5, .bin .leq (.s 4) (.c (.lit (.int .i64 40)))⟩, ⟨none, some 2, .mv (.s 5)⟩]) .ret))⟩ := by kernel_rfl
theorem fewNumbers_c (k : Nat) (c : List Int) (hc : c.length ≤ 9223372036854775807) (h : MHeap) : orA (k + 1) 18 [.sl (c.map I64)] h = some (Bo (decide (c.length ≤ 40)), h) := by
  refine callL (args' := [.sl (c.map I64)]) (frzL_lt (by simp [ltL, MV.lt, ltL_I])) rfl (runZ_of mf_fewNumbers (by simp) ?_)
  simp only [argsL]
  have hs2 : (MV.sl (c.map I64)).slen = some c.length := by simp [MV.slen]
  by_cases h4 : c.length ≤ 40
  all_goals repeat (first | apply ef_seq | (apply ef_mv; exact rfl; exact rfl) | (apply ef_bin; exact rfl; exact rfl; exact rfl; (first | exact cmp_t rfl (by first | exact rfl | (simp only [cmpP]; omega)) | exact cmp_f rfl (by simp only [cmpP]; omega))) | (apply ef_len; exact rfl; exact rfl; (assumption)) | apply ef_nil | apply seqQ.normal | apply ef_ret)
  all_goals (refine fin1 rfl (by exact rfl) rfl ?_)
  all_goals simp [h4]
def fewNt (n : Nt) : Bool := decide (n.ls.length ≤ 10) && (decide (n.cs.length ≤ 18) && n.ls.all fun l => decide (l.1.size ≤ 20))
theorem fewNt_bd {n : Nt} (h : fewNt n = true) : BdN n ∧ n.ls.length ≤ 10 ∧ n.cs.length ≤ 18 := by
  simp only [fewNt, Bool.and_eq_true, decide_eq_true_eq, List.all_eq_true] at h
  exact ⟨⟨by omega, by omega, fun l hl => by have := h.2.2 l hl; omega⟩, h.1, h.2.1⟩
theorem mf_Few : MT.mf 8 = some ⟨29, [(.tmp 2)], (.seq (.reg [⟨none, some 1, .box 2 (.s 0)⟩, ⟨none, some 2, .mv (.c (.lit (.bool false)))⟩]) (.seq (.seq (.reg [⟨none, some 4, .fa 0 (.s 1)⟩, ⟨none, some 5, .ld none (.s 4)⟩, ⟨none, some 6, .len (.s 5)⟩, ⟨none, some 7, .bin .gtr (.s 6) (.c (.lit (.int .i64 10)))⟩, ⟨none, some 8, .mv (.s 7)⟩, ⟨some (8, false), some 9, .fa 1 (.s 1)⟩, ⟨some (8, false), some 10, .ld none (.s 9)⟩, ⟨some (8, false), some 11, .len (.s 10)⟩, ⟨some (8, false), some 12, .bin .gtr (.s 11) (.c (.lit (.int .i64 18)))⟩, ⟨none, some 13, .pick (.s 8) (.c (.lit (.bool true))) (.s 12)⟩]) (.cond (.s 13) (.seq (.reg [⟨none, some 2, .mv (.c (.lit (.bool false)))⟩]) .ret) .skip)) (.seq (.seq (.reg [⟨none, some 3, .mv (.c (.lit (.int .i64 0)))⟩]) (.block 0 (.loop [3, 1] (.seq (.seq (.reg [⟨none, some 14, .mv (.s 3)⟩, ⟨none, some 15, .fa 0 (.s 1)⟩, ⟨none, some 16, .ld none (.s 15)⟩, ⟨none, some 17, .len (.s 16)⟩, ⟨none, some 18, .bin .lss (.s 14) (.s 17)⟩]) (.cond (.s 18) .skip (.exit 0))) (.seq (.block 1 (.seq (.reg [⟨none, some 21, .fa 0 (.s 1)⟩, ⟨none, some 22, .ld none (.s 21)⟩, ⟨none, some 23, .mv (.s 3)⟩, ⟨none, some 24, .ia 2 (.s 22) (.s 23)⟩, ⟨none, some 25, .fa 0 (.s 24)⟩, ⟨none, some 26, .ld none (.s 25)⟩, ⟨none, some 27, .sln (.s 26)⟩, ⟨none, some 28, .bin .gtr (.s 27) (.c (.lit (.int .i64 20)))⟩]) (.cond (.s 28) (.seq (.reg [⟨none, some 2, .mv (.c (.lit (.bool false)))⟩]) .ret) .skip))) (.reg [⟨none, some 19, .mv (.s 3)⟩, ⟨none, some 20, .bin .add (.s 19) (.c (.lit (.int .i64 1)))⟩, ⟨none, some 3, .mv (.s 20)⟩])))))) (.seq (.reg [⟨none, some 2, .mv (.c (.lit (.bool true)))⟩]) .ret))))⟩ := by kernel_rfl
theorem Few_c (k : Nat) (n : Nt) (m1 : n.ls.length ≤ 9223372036854775807) (m2 : n.cs.length ≤ 9223372036854775807) (h : MHeap) : orA (k + 1) 8 [encN n] h = some (Bo (fewNt n), h) := by
  refine callL (args' := [encN n]) (frzL_lt (by simp [ltL, MV.lt, ltL_Ln, ltL_Cr])) rfl (runZ_of mf_Few (by simp) ?_)
  simp only [argsL]
  have hs1 : (MV.sl (n.ls.map encLn)).slen = some n.ls.length := by simp [MV.slen]
  have hs2 : (MV.sl (n.cs.map encCr)).slen = some n.cs.length := by simp [MV.slen]
  have HF := Lib.hid (show fewNt n = (decide (n.ls.length ≤ 10) && (decide (n.cs.length ≤ 18) && n.ls.all fun l => decide (l.1.size ≤ 20))) from rfl)
  by_cases h1 : n.ls.length ≤ 10
  · by_cases h2 : n.cs.length ≤ 18
    · repeat (first | apply ef_seq | (apply ef_mv; exact rfl; exact rfl) | (apply ef_bin; exact rfl; exact rfl; exact rfl; (exact cmp_f rfl (by simp only [cmpP]; omega))) | (apply ef_gy; exact rfl; (exact (rfl : false = false))) | (apply ef_pick; exact rfl; exact rfl; exact rfl) | (apply ef_len; exact rfl; exact rfl; (assumption)) | (apply ef_ldp; exact rfl; exact rfl; (exact rfl); exact rfl; (exact rfl); (exact rfl)) | (apply ef_fap; exact rfl; exact rfl) | (apply ef_box; exact rfl; exact rfl; exact rfl; exact rfl) | apply ef_nil | apply seqQ.normal | apply ef_block | apply ef_skip | (apply ef_condf; exact rfl; (exact (rfl : false = false))))
      refine ef_loopf (α := Nat) (fun i => i ≤ n.ls.length ∧ (n.ls.all fun l => decide (l.1.size ≤ 20)) = ((n.ls.drop i).all fun l => decide (l.1.size ≤ 20))) (fun i => [(3, I64 (i : Int))]) [(1, .ptr 0 0 0 0)] (fun _ => [⟨0, false, 2, [encN n]⟩]) (fun i => n.ls.length - i) 0 [3] (fun _ => rfl) (by ((repeat (refine Hold.cons (by exact rfl) ?_)); exact Hold.nil)) (by ((repeat (refine Hold.cons (by exact rfl) ?_)); exact Hold.nil)) rfl rfl ⟨by omega, rfl⟩ (by simp; omega) ?_
      rintro i ⟨hi, hz⟩
      try simp only at hi hz ⊢
      by_cases hlt : i < n.ls.length
      · have e1 := at_map encLn n.ls i hlt
        have HS := Lib.hid (drop_at n.ls i hlt)
        have HZ := Lib.hid hz
        clear hz
        generalize n.ls[i] = l at e1 HS
        by_cases h3 : l.1.size ≤ 20
        · repeat (first | apply ef_seq | (apply ef_mv; exact rfl; exact rfl) | (apply ef_bin; exact rfl; exact rfl; exact rfl; (first | exact cmp_t rfl (by first | exact rfl | (simp only [cmpP]; omega)) | exact cmp_f rfl (by simp only [cmpP]; omega) | ((with_reducible refine bin_add (wrap_of ?_ ?_)) <;> omega))) | (apply ef_len; exact rfl; exact rfl; (assumption)) | (apply ef_ldr; exact rfl; exact rfl; (exact rfl)) | (apply ef_ldp; exact rfl; exact rfl; (exact rfl); exact rfl; (exact rfl); (exact rfl)) | (apply ef_ias; exact rfl; exact rfl; exact rfl; (omega); assumption; exact rfl) | (apply ef_fap; exact rfl; exact rfl) | (apply ef_far; exact rfl; exact rfl) | (apply ef_sln; exact rfl; exact rfl) | apply ef_nil | apply seqQ.normal | apply blockQ.normal | apply ef_block | apply ef_skip | (apply ef_condt; exact rfl; (exact (rfl : true = true))) | (apply ef_condf; exact rfl; (exact (rfl : false = false))))
          (refine loopQ.normal _ _ ⟨i + 1, ⟨hlt, by rw [HZ.out, HS.out, List.all_cons, decide_eq_true h3]; rfl⟩, (by first | (simp only; omega) | omega), ⟨by ((repeat (refine Hold.cons (by exact rfl) ?_)); exact Hold.nil), by ((repeat (refine Hold.cons (by exact rfl) ?_)); exact Hold.nil)⟩, .inl (Nat.le_refl _), (by first | exact List.take_length | exact rfl | exact takeF rfl rfl)⟩)
        · repeat (first | apply ef_seq | (apply ef_mv; exact rfl; exact rfl) | (apply ef_bin; exact rfl; exact rfl; exact rfl; (exact cmp_t rfl (by first | exact rfl | (simp only [cmpP]; omega)))) | (apply ef_len; exact rfl; exact rfl; (assumption)) | (apply ef_ldr; exact rfl; exact rfl; (exact rfl)) | (apply ef_ldp; exact rfl; exact rfl; (exact rfl); exact rfl; (exact rfl); (exact rfl)) | (apply ef_ias; exact rfl; exact rfl; exact rfl; (omega); assumption; exact rfl) | (apply ef_fap; exact rfl; exact rfl) | (apply ef_far; exact rfl; exact rfl) | (apply ef_sln; exact rfl; exact rfl) | apply ef_nil | apply seqQ.normal | apply loopQ.ret | apply ef_ret | apply seqQ.ret | apply blockQ.ret | apply ef_block | apply ef_skip | (apply ef_condt; exact rfl; (exact (rfl : true = true))))
          (refine fin1 rfl (by exact rfl) rfl ?_)
          rw [HF.out, HZ.out, HS.out, List.all_cons, decide_eq_false h3]; simp
      · repeat (first | apply ef_seq | (apply ef_mv; exact rfl; exact rfl) | (apply ef_bin; exact rfl; exact rfl; exact rfl; (exact cmp_f rfl (by simp only [cmpP]; omega))) | (apply ef_len; exact rfl; exact rfl; (assumption)) | (apply ef_ldp; exact rfl; exact rfl; (exact rfl); exact rfl; (exact rfl); (exact rfl)) | (apply ef_fap; exact rfl; exact rfl) | apply ef_nil | apply seqQ.normal | apply loopQ.exit | apply ef_ret | apply ef_exit | apply seqQ.exit | apply blockQ.here | (apply ef_condf; exact rfl; (exact (rfl : false = false))))
        (refine fin1 rfl (by exact rfl) rfl ?_)
        rw [HF.out, hz, List.drop_eq_nil_of_le (by omega)]; simp [h1, h2]
    · repeat (first | apply ef_seq | (apply ef_mv; exact rfl; exact rfl) | (apply ef_bin; exact rfl; exact rfl; exact rfl; (first | exact cmp_t rfl (by first | exact rfl | (simp only [cmpP]; omega)) | exact cmp_f rfl (by simp only [cmpP]; omega))) | (apply ef_gy; exact rfl; (exact (rfl : false = false))) | (apply ef_pick; exact rfl; exact rfl; exact rfl) | (apply ef_len; exact rfl; exact rfl; (assumption)) | (apply ef_ldp; exact rfl; exact rfl; (exact rfl); exact rfl; (exact rfl); (exact rfl)) | (apply ef_fap; exact rfl; exact rfl) | (apply ef_box; exact rfl; exact rfl; exact rfl; exact rfl) | apply ef_nil | apply seqQ.normal | apply ef_ret | apply seqQ.ret | (apply ef_condt; exact rfl; (exact (rfl : true = true))))
      (refine fin1 rfl (by exact rfl) rfl ?_)
      rw [HF.out]; simp [h2]
  · repeat (first | apply ef_seq | (apply ef_mv; exact rfl; exact rfl) | (apply ef_bin; exact rfl; exact rfl; exact rfl; (exact cmp_t rfl (by first | exact rfl | (simp only [cmpP]; omega)))) | (apply ef_gn; exact rfl; (exact (rfl : true = true)); exact rfl) | (apply ef_pick; exact rfl; exact rfl; exact rfl) | (apply ef_len; exact rfl; exact rfl; (assumption)) | (apply ef_ldp; exact rfl; exact rfl; (exact rfl); exact rfl; (exact rfl); (exact rfl)) | (apply ef_fap; exact rfl; exact rfl) | (apply ef_box; exact rfl; exact rfl; exact rfl; exact rfl) | apply ef_nil | apply seqQ.normal | apply ef_ret | apply seqQ.ret | (apply ef_condt; exact rfl; (exact (rfl : true = true))))
    (refine fin1 rfl (by exact rfl) rfl ?_)
    rw [HF.out]; simp [h1]
end Go.Proofs.YtbdleggmdbihnaaGreat

/- Valid nets; residuals. -/
namespace Go.Proofs.YtbdleggmdbihnaaGreat
open Go.RowKit
set_option linter.unusedVariables false
set_option linter.unusedSimpArgs false
structure OkX (m : Nat) (x : Cr) : Prop where
  l0 : 0 ≤ x.ln
  l1 : x.ln < (m : Int)
  t0 : 0 ≤ x.ti
  t1 : x.ti < (m : Int)
  pa : 0 ≤ x.pa ∧ x.pa ≤ 1000000
  pt : 0 ≤ x.pt ∧ x.pt ≤ 1000000
  df : -10000 ≤ x.df ∧ x.df ≤ 10000
  wt : 1 ≤ x.wt ∧ x.wt ≤ 10
structure OkN (n : Nt) : Prop where
  l1 : 0 < n.ls.length
  l8 : n.ls.length ≤ 8
  c16 : n.cs.length ≤ 16
  rg : ∀ x ∈ n.cs, OkX n.ls.length x
  kd : ∀ x ∈ n.cs, tieOf n.ls x.ln = false ∧ tieOf n.ls x.ti = true
  ds : ∀ (i j : Nat) (hi : i < n.cs.length) (hj : j < n.cs.length), j < i → dblB n.cs[i] n.cs[j] = false
theorem net_ok {n : Nt} (h : (netF n).2 = 0) : OkN n := by
  obtain ⟨q1, q2, q3⟩ := netF_pos h
  unfold netF at h
  rw [if_neg (by omega), if_neg (by omega)] at h
  split at h
  case isFalse h2 => exact absurd h h2
  rename_i hl
  obtain ⟨-, h2⟩ := scanE_ok h
  have key : ∀ (i : Nat) (hi : i < n.cs.length), (inB n.cs[i].ln 0 ((n.ls.length : Int) - 1) = true ∧ inB n.cs[i].ti 0 ((n.ls.length : Int) - 1) = true) ∧ (!tieOf n.ls n.cs[i].ln && tieOf n.ls n.cs[i].ti) = true ∧ rngB n.cs[i] = true ∧ (n.cs.take i).any (dblB n.cs[i]) = false := fun i hi => by
    have := h2 i hi
    rw [List.nil_append] at this
    unfold crossE at this
    split at this
    case isFalse => cases this
    rename_i hin
    rw [firstE_zero, firstE_zero, firstE_zero, unl_eq (by decide), unl_eq (by decide), unl_eq (by decide)] at this
    rw [Bool.and_eq_true] at hin
    exact ⟨hin, this.1, this.2.1, by simpa using this.2.2.1⟩
  refine ⟨q1, q2, q3, fun x hx => ?_, fun x hx => ?_, fun i j hi hj hji => ?_⟩
  · obtain ⟨i, hi, rfl⟩ := List.getElem_of_mem hx
    obtain ⟨⟨a1, a2⟩, -, a4, -⟩ := key i hi
    have b1 := inB_iff.1 a1
    have b2 := inB_iff.1 a2
    simp only [rngB, Bool.and_eq_true] at a4
    obtain ⟨r1, r2, r3, r4⟩ := a4
    exact ⟨b1.1, by omega, b2.1, by omega, inB_iff.1 r1, inB_iff.1 r2, inB_iff.1 r3, inB_iff.1 r4⟩
  · obtain ⟨i, hi, rfl⟩ := List.getElem_of_mem hx
    obtain ⟨-, a3, -, -⟩ := key i hi
    simpa using a3
  · obtain ⟨-, -, -, a5⟩ := key i hi
    rw [List.any_eq_false] at a5
    have := a5 n.cs[j] (List.mem_of_getElem? (i := j) (by rw [List.getElem?_take, if_pos hji, List.getElem?_eq_getElem hj]))
    simpa using this
structure OkC (m : Nat) (c : List Int) : Prop where
  len : c.length = m
  rg : ∀ z ∈ c, -1000000 ≤ z ∧ z ≤ 1000000
  z0 : c.getD 0 0 = 0
theorem corr_ok {m : Nat} {c : List Int} (h : corrE m c = 0) : OkC m c := by
  unfold corrE at h
  split at h
  case isFalse => cases h
  rename_i hl
  split at h
  · cases h
  · rename_i hs
    split at h
    · rename_i hz
      refine ⟨hl, fun z hz => ?_, hz⟩
      simp only [Bool.not_eq_true, List.any_eq_false] at hs
      have := hs z hz
      exact inB_iff.1 (by simpa [strB] using this)
    · cases h
theorem both_ok {n : Nt} {c : List Int} (h : bothE n c = 0) : OkN n ∧ OkC n.ls.length c ∧ (netF n).2 = 0 := by
  unfold bothE at h
  split at h
  · rename_i h0
    exact ⟨net_ok h0, corr_ok h, h0⟩
  · rename_i h0; exact absurd h h0
def cAt (c : List Int) (i : Int) : Int := c.getD i.toNat 0
theorem cAt_at {m : Nat} {c : List Int} (hl : c.length = m) {i : Int} (h0 : 0 ≤ i) (h1 : i < (m : Int)) : (c.map I64)[i.toNat]? = some (I64 (cAt c i)) := by
  have hlt : i.toNat < c.length := by omega
  unfold cAt
  rw [List.getElem?_map, List.getD_eq_getElem?_getD, List.getElem?_eq_getElem hlt]; rfl
theorem OkC.at {m : Nat} {c : List Int} (h : OkC m c) (i : Int) : -1000000 ≤ cAt c i ∧ cAt c i ≤ 1000000 := by
  unfold cAt
  rw [List.getD_eq_getElem?_getD]
  cases hh : c[i.toNat]? with
  | none => simp
  | some z => exact h.rg z (List.mem_of_getElem? hh)
def resI (c : List Int) (x : Cr) : Int := x.df - cAt c x.ln + cAt c x.ti
def resL (n : Nt) (c : List Int) : List Int := n.cs.map (resI c)
theorem resI_bd {m : Nat} {c : List Int} (hc : OkC m c) {x : Cr} (hx : OkX m x) : -2010000 ≤ resI c x ∧ resI c x ≤ 2010000 := by
  have h1 := hc.at x.ln
  have h2 := hc.at x.ti
  have h3 := hx.df
  unfold resI
  omega
def rowL (xs : List Int) (i : Nat) : List MV := (xs.take i).map I64
theorem rowL_len {xs : List Int} {i : Nat} (h : i ≤ xs.length) : (rowL xs i).length = i := by simp [rowL]; omega
theorem ltL_row (m : Nat) (xs : List Int) (i : Nat) : ltL m (rowL xs i) = true := ltL_I m _
theorem row_next {xs : List Int} {i : Nat} {z : Int} (h : xs[i]? = some z) : rowL xs (i + 1) = rowL xs i ++ [I64 z] := by
  unfold rowL; rw [List.take_add_one, h]; simp
theorem row_all (xs : List Int) : rowL xs xs.length = xs.map I64 := by simp [rowL]
abbrev rowO (xs : List Int) (i : Nat) : MObj := ⟨i, decide (i = 0), 1, rowL xs i⟩
theorem mf_residuals : MT.mf 57 = some mfW_l57 := mfW_q57
set_option maxHeartbeats 1000000 in
theorem residuals_z (k : Nat) (n : Nt) (c : List Int) (hn : n.cs.length ≤ 1000) (hx : ∀ x ∈ n.cs, OkX n.ls.length x) (hc : OkC n.ls.length c) (hl : n.ls.length ≤ 1000) :
    runZ MT (orA k) (itA k) 4000000 57 [encN n, .sl (c.map I64)] [] = some (.arr 0 0 n.cs.length 0, [⟨0, decide (n.cs.length = 0), 1, (resL n c).map I64⟩]) := by
  have hs2 : (MV.sl (n.cs.map encCr)).slen = some n.cs.length := by simp [MV.slen]
  have hrl : (resL n c).length = n.cs.length := by simp [resL]
  refine runZ_of mf_residuals (by simp) ?_
  simp only [argsL]
  repeat (first | apply ef_seq | (apply ef_mv; exact rfl; exact rfl) | (apply ef_len; exact rfl; exact rfl; (assumption)) | (apply ef_ldp; exact rfl; exact rfl; (exact rfl); exact rfl; (exact rfl); (exact rfl)) | (apply ef_fap; exact rfl; exact rfl) | (apply ef_box; exact rfl; exact rfl; exact rfl; exact rfl) | (apply ef_nil0; exact rfl) | apply ef_nil | apply seqQ.normal | apply ef_block)
  refine ef_loopf (α := Nat) (fun i => i ≤ n.cs.length) (fun i => [(12, I64 (i : Int)), (5, .arr 2 0 i i)]) [(11, I64 (n.cs.length : Int)), (10, .sl (n.cs.map encCr)), (1, .sl (c.map I64))] (fun i => [⟨0, false, 2, [encN n]⟩, ⟨0, true, 1, []⟩, rowO (resL n c) i]) (fun i => n.cs.length - i) 0 [12, 5] (fun _ => rfl) (by ((repeat (refine Hold.cons (by exact rfl) ?_)); exact Hold.nil)) (by ((repeat (refine Hold.cons (by exact rfl) ?_)); exact Hold.nil)) rfl rfl (by omega) (by simp; omega) ?_
  intro i hi
  try simp only at hi ⊢
  by_cases hlt : i < n.cs.length
  · have e1 := at_map encCr n.cs i hlt
    have hxx := hx n.cs[i] (List.getElem_mem hlt)
    have HT := row_next (xs := resL n c) (i := i) (z := resI c n.cs[i]) (by simp [resL, hlt])
    have hrb := resI_bd hc hxx
    have hri : resI c n.cs[i] = n.cs[i].df - cAt c n.cs[i].ln + cAt c n.cs[i].ti := rfl
    generalize n.cs[i] = x at e1 hxx HT hrb hri
    have f1 := cAt_at hc.len hxx.l0 hxx.l1
    have f2 := cAt_at hc.len hxx.t0 hxx.t1
    have g1 := hc.at x.ln
    have g2 := hc.at x.ti
    have g3 := hxx.df
    have g4 := hxx.l0
    have g5 := hxx.t0
    generalize cAt c x.ln = u at *
    generalize cAt c x.ti = w at *
    rw [hri] at HT
    repeat (first | apply ef_seq | (apply ef_mv; exact rfl; exact rfl) | (apply ef_bin; exact rfl; exact rfl; exact rfl; (first | exact cmp_t rfl (by first | exact rfl | (simp only [cmpP]; omega)) | ((with_reducible refine bin_add (wrap_of ?_ ?_)) <;> omega) | ((with_reducible refine bin_sub (wrap_of ?_ ?_)) <;> omega))) | (apply ef_ldr; exact rfl; exact rfl; (first | exact rd_6 rfl rfl rfl rfl rfl rfl | exact rfl)) | (apply ef_ldp; exact rfl; exact rfl; (exact rfl); exact rfl; (exact rfl); (exact rfl)) | (apply ef_ias; exact rfl; exact rfl; exact rfl; (omega); assumption; exact rfl) | (apply ef_fap; exact rfl; exact rfl) | (apply ef_new; exact rfl) | (apply ef_bsl; exact rfl; (repeat (apply XVs.cons; exact rfl)); exact XVs.nil; exact rfl) | (apply ef_st; exact rfl; exact rfl; exact rfl; exact rfl; exact rfl; exact rfl; (exact rfl); exact rfl) | apply ef_nil | apply seqQ.normal | apply ef_block | apply ef_skip | (apply ef_condt; exact rfl; (exact (rfl : true = true))))
    (apply ef_app; (· exact rfl); (· exact rfl); (· exact rfl); (· exact rfl); (· exact rfl); (· exact rfl); (· (simp [rowL_len (xs := resL n c) (i := i) (by omega)])); (· exact rfl); (· (simp [rowL_len (xs := resL n c) (i := i) (by omega)]; omega)); (· (simp [MV.sOk, MV.cells, MV.one, Value.oneCell'])); (· exact rfl))
    repeat (first | (apply ef_mv; exact rfl; exact rfl) | (apply ef_bin; exact rfl; exact rfl; exact rfl; (((with_reducible refine bin_add (wrap_of ?_ ?_)) <;> omega))) | apply ef_nil | apply seqQ.normal | apply blockQ.normal)
    (refine loopQ.normal _ _ ⟨i + 1, hlt, (by first | (simp only; omega) | omega), ⟨by ((repeat (refine Hold.cons (by exact rfl) ?_)); exact Hold.nil), by ((repeat (refine Hold.cons (by exact rfl) ?_)); exact Hold.nil)⟩, .inr ⟨by ((repeat (refine hdl_cons rfl (by first | rfl | (simp [MV.lt, ltL, ltL_Ln, ltL_Cr, ltL_I, ltL_row, ltL_app2])) ?_)); exact hdl_nil), by (simp [hltL, ltL, MV.lt, ltL, ltL_Ln, ltL_Cr, ltL_I, ltL_row, ltL_app2])⟩, by (show _ = ([⟨0, false, 2, [encN n]⟩, ⟨0, true, 1, []⟩, (⟨i + 1, decide (i + 1 = 0), 1, rowL (resL n c) (i + 1)⟩ : MObj)] : MHeap); rw [HT]; exact rfl)⟩)
  · obtain rfl : i = n.cs.length := by omega
    have hra := row_all (resL n c)
    rw [hrl] at hra
    repeat (first | apply ef_seq | (apply ef_mv; exact rfl; exact rfl) | (apply ef_bin; exact rfl; exact rfl; exact rfl; (exact cmp_f rfl (by simp only [cmpP]; omega))) | apply ef_nil | apply seqQ.normal | apply loopQ.exit | apply ef_ret | apply ef_exit | apply seqQ.exit | apply blockQ.here | (apply ef_condf; exact rfl; (exact (rfl : false = false))))
    (apply fin_arr; (· exact rfl); (· exact rfl); (· exact rfl); (· exact rfl); (· (show 0 + n.cs.length ≤ (rowL (resL n c) n.cs.length).length; rw [hra]; simp [hrl])); (· (exact ltL_row 0 _ _)); (· (show ((rowL (resL n c) n.cs.length).drop 0).take n.cs.length = _; rw [hra, List.drop_zero, List.take_of_length_le (by simp [hrl])])); (· exact rfl); (· exact rfl); (· rfl))
theorem residuals_c (k : Nat) (n : Nt) (c : List Int) (hn : n.cs.length ≤ 1000) (hx : ∀ x ∈ n.cs, OkX n.ls.length x) (hc : OkC n.ls.length c) (hl : n.ls.length ≤ 1000) (h : MHeap) :
    orA (k + 1) 57 [encN n, .sl (c.map I64)] h = some (.arr h.length 0 n.cs.length 0, h ++ [⟨0, decide (n.cs.length = 0), 1, (resL n c).map I64⟩]) := by
  have := callA (k := k) (h := h) (frzL_lt (ms := [encN n, .sl (c.map I64)]) (by simp [ltL, MV.lt, ltL_Ln, ltL_Cr, ltL_I])) rfl (residuals_z k n c hn hx hc hl) rfl (by simp [okH, ltL_I, pureL_I])
  simpa [shV, sh1] using this
end Go.Proofs.YtbdleggmdbihnaaGreat

/- Longest paths: rounds of relaxations; what holds of them, without a program. -/
namespace Go.Proofs.YtbdleggmdbihnaaGreat
set_option linter.unusedVariables false
structure Ac where
  fr : Int
  tv : Int
  ln : Int
  cr : Int
  sg : Int
instance : Inhabited Ac := ⟨⟨0, 0, 0, 0, 0⟩⟩
structure LgS where
  L : List Int
  P : List Int
  ch : Int
def rlx (k : Nat) (a : Ac) (s : LgS) : LgS :=
  if cAt s.L a.fr > -549755813888 ∧ cAt s.L a.fr + a.ln > cAt s.L a.tv then ⟨s.L.set a.tv.toNat (cAt s.L a.fr + a.ln), s.P.set a.tv.toNat k, a.tv⟩ else s
def rndA : List Ac → Nat → LgS → LgS
  | [], _, s => s
  | a :: ar, k, s => rndA ar (k + 1) (rlx k a s)
def arcP (ar : List Ac) (P : List Int) (v : Int) : Ac := ar.getD (cAt P v).toNat default
def bkN (ar : List Ac) (P : List Int) : Nat → Int → Int
  | 0, v => v
  | j + 1, v => (arcP ar P (bkN ar P j v)).fr
theorem cAt_set {L : List Int} {i j x : Int} (h0 : 0 ≤ i) (h1 : i < (L.length : Int)) (h2 : 0 ≤ j) : cAt (L.set i.toNat x) j = if j = i then x else cAt L j := by
  unfold cAt
  rw [List.getD_eq_getElem?_getD, List.getD_eq_getElem?_getD, List.getElem?_set]
  by_cases h : j = i
  · subst h
    rw [if_pos rfl, if_pos rfl, if_pos (by omega)]; rfl
  · rw [if_neg (by omega), if_neg h]
structure OkA (m : Nat) (B : Int) (a : Ac) : Prop where
  f0 : 0 ≤ a.fr
  f1 : a.fr < (m : Int)
  t0 : 0 ≤ a.tv
  t1 : a.tv < (m : Int)
  l0 : -B ≤ a.ln
  l1 : a.ln ≤ B
  ne : a.fr ≠ a.tv
def sig (n r k j : Nat) : Nat := if j < k then r * n + j + 1 else if r = 0 then 0 else (r - 1) * n + j + 1
def sumW (ar : List Ac) (P : List Int) (w : Nat → Int) : Nat → Int
  | 0 => 0
  | p + 1 => sumW ar P w p + (arcP ar P (w p)).ln
structure LgI (ar : List Ac) (m : Nat) (B : Int) (L0 : List Int) (r k : Nat) (t : Int → Nat) (s : LgS) : Prop where
  lenL : s.L.length = m
  lenP : s.P.length = m
  pg : ∀ v, 0 ≤ cAt s.P v ∧ (0 < ar.length → cAt s.P v < (ar.length : Int))
  bd : ∀ v, -1099511627776 ≤ cAt s.L v ∧ cAt s.L v ≤ B * ((r * ar.length + k : Nat) : Int)
  mon : ∀ v, cAt L0 v ≤ cAt s.L v
  low : ∀ f : Int → Int, (∀ a ∈ ar, f a.tv ≥ f a.fr + a.ln) → (∀ v, 0 ≤ v → v < (m : Int) → cAt L0 v ≤ f v) → ∀ v, 0 ≤ v → v < (m : Int) → cAt s.L v ≤ f v
  sat : ∀ (j : Nat) (h : j < ar.length), 0 < sig ar.length r k j → t ar[j].fr < sig ar.length r k j → cAt s.L ar[j].fr > -549755813888 → cAt s.L ar[j].fr + ar[j].ln ≤ cAt s.L ar[j].tv
  prd : ∀ v, 0 ≤ v → v < (m : Int) → 0 < t v → (arcP ar s.P v ∈ ar ∧ (arcP ar s.P v).tv = v) ∧ cAt s.L v ≤ cAt s.L (arcP ar s.P v).fr + (arcP ar s.P v).ln ∧ t v ≤ t (arcP ar s.P v).fr + ar.length
  pos : ∀ (p : Nat) (w : Nat → Int), 0 < p → w p = w 0 → (∀ i, i < p → (0 ≤ w i ∧ w i < (m : Int)) ∧ 0 < t (w i) ∧ (arcP ar s.P (w i)).fr = w (i + 1)) → 0 < sumW ar s.P w p
  tm : ∀ v, t v ≤ r * ar.length + k
  chg : (s.ch = -1 ∧ ∀ v, t v ≤ r * ar.length) ∨ ((0 ≤ s.ch ∧ s.ch < (m : Int)) ∧ r * ar.length < t s.ch)
theorem sig_next {n r k j : Nat} (h : j ≠ k) : sig n r (k + 1) j = sig n r k j := by
  unfold sig
  by_cases h1 : j < k
  · rw [if_pos (by omega), if_pos h1]
  · rw [if_neg (by omega), if_neg h1]
theorem sig_was {n r k : Nat} (h : 0 < r) : sig n r k k + n = r * n + k + 1 := by
  unfold sig
  rw [if_neg (by omega), if_neg (by omega)]
  obtain ⟨q, rfl⟩ : ∃ q, r = q + 1 := ⟨r - 1, by omega⟩
  simp [Nat.add_mul]; omega
theorem sig_le {n r k j : Nat} (hj : j < n) : sig n r k j ≤ r * n + k := by
  unfold sig
  split
  · omega
  · split
    · omega
    · obtain ⟨q, rfl⟩ : ∃ q, r = q + 1 := ⟨r - 1, by omega⟩
      simp [Nat.add_mul]; omega
theorem LgI.skip {ar : List Ac} {m : Nat} {B : Int} {L0 : List Int} {r k : Nat} {t : Int → Nat} {s : LgS} (H : LgI ar m B L0 r k t s) (hB : 0 ≤ B) (hk : k < ar.length) (hn : ¬ (cAt s.L ar[k].fr > -549755813888 ∧ cAt s.L ar[k].fr + ar[k].ln > cAt s.L ar[k].tv)) : LgI ar m B L0 r (k + 1) t s where
  lenL := H.lenL
  lenP := H.lenP
  pg := H.pg
  bd v := by
    have := H.bd v
    have e : B * ((r * ar.length + (k + 1) : Nat) : Int) = B * ((r * ar.length + k : Nat) : Int) + B := by
      rw [show r * ar.length + (k + 1) = (r * ar.length + k) + 1 by omega, Int.natCast_add, Int.mul_add]; simp
    omega
  mon := H.mon
  low := H.low
  sat j h h1 h2 h3 := by
    by_cases e : j = k
    · subst e; omega
    · rw [sig_next e] at h1 h2; exact H.sat j h h1 h2 h3
  prd := H.prd
  pos := H.pos
  tm v := by have := H.tm v; omega
  chg := H.chg
end Go.Proofs.YtbdleggmdbihnaaGreat

/- Longest paths: a change; rounds; the end; the cycle. -/
namespace Go.Proofs.YtbdleggmdbihnaaGreat
set_option linter.unusedVariables false
set_option linter.unusedSimpArgs false
theorem cAt_put (L : List Int) (i x v : Int) : cAt (L.set i.toNat x) v = if v.toNat = i.toNat ∧ i.toNat < L.length then x else cAt L v := by
  unfold cAt
  rw [List.getD_eq_getElem?_getD, List.getD_eq_getElem?_getD, List.getElem?_set]
  by_cases h : i.toNat = v.toNat
  · rw [if_pos h]
    by_cases h2 : i.toNat < L.length
    · rw [if_pos h2, if_pos ⟨h.symm, h2⟩]; rfl
    · rw [if_neg h2, if_neg (fun q => h2 q.2), List.getElem?_eq_none (by omega)]
  · rw [if_neg h, if_neg (fun q => h q.1.symm)]
theorem cAt_nat (L : List Int) {u v : Int} (h : u.toNat = v.toNat) : cAt L u = cAt L v := by unfold cAt; rw [h]
theorem arcP_put {ar : List Ac} {P : List Int} {i : Int} {k : Nat} {v : Int} (h0 : 0 ≤ i) (h1 : i < (P.length : Int)) (h2 : 0 ≤ v) (hk : k < ar.length) : arcP ar (P.set i.toNat (k : Int)) v = if v = i then ar[k] else arcP ar P v := by
  unfold arcP
  rw [cAt_set h0 h1 h2]
  by_cases h : v = i
  · rw [if_pos h, if_pos h, Int.toNat_natCast, List.getD_eq_getElem?_getD, List.getElem?_eq_getElem hk]; rfl
  · rw [if_neg h, if_neg h]
section
variable {ar : List Ac} {m : Nat} {B : Int} {L0 : List Int} {r k : Nat} {t : Int → Nat} {s : LgS}
theorem LgI.step (H : LgI ar m B L0 r k t s) (hB : 0 ≤ B) (hk : k < ar.length) (hO : ∀ a ∈ ar, OkA m B a) (h1 : cAt s.L ar[k].fr > -549755813888) (h2 : cAt s.L ar[k].fr + ar[k].ln > cAt s.L ar[k].tv) :
    LgI ar m B L0 r (k + 1) (fun v => if v = ar[k].tv then r * ar.length + k + 1 else t v) ⟨s.L.set ar[k].tv.toNat (cAt s.L ar[k].fr + ar[k].ln), s.P.set ar[k].tv.toNat (k : Int), ar[k].tv⟩ := by
  have hlL := H.lenL
  have hlP := H.lenP
  have ho := hO ar[k] (List.getElem_mem hk)
  have o1 := ho.f0
  have o2 := ho.f1
  have o3 := ho.t0
  have o4 := ho.t1
  have o5 := ho.ne
  have o6 := ho.l1
  have hx : ar[k] ∈ ar := List.getElem_mem hk
  have hsat := H.sat k hk
  have hset : ∀ v, 0 ≤ v → cAt (s.L.set ar[k].tv.toNat (cAt s.L ar[k].fr + ar[k].ln)) v = if v = ar[k].tv then cAt s.L ar[k].fr + ar[k].ln else cAt s.L v := fun v hv => cAt_set o3 (by omega) hv
  have hmono : ∀ v, cAt s.L v ≤ cAt (s.L.set ar[k].tv.toNat (cAt s.L ar[k].fr + ar[k].ln)) v := fun v => by
    rw [cAt_put]
    split
    · rename_i e
      rw [cAt_nat s.L e.1]; omega
    · omega
  have hpset : ∀ v, 0 ≤ v → arcP ar (s.P.set ar[k].tv.toNat (k : Int)) v = if v = ar[k].tv then ar[k] else arcP ar s.P v := fun v hv => arcP_put o3 (by omega) hv hk
  have htm := H.tm
  have hold : ∀ v, 0 ≤ v → v < (m : Int) → 0 < t v → cAt s.L v ≤ cAt s.L (arcP ar s.P v).fr + (arcP ar s.P v).ln := fun v a b c => (H.prd v a b c).2.1
  refine ⟨by simpa using hlL, by simpa using hlP, fun v => ?_, fun v => ?_, fun v => ?_, fun f hf hf0 v v0 v1 => ?_, fun j hj q1 q2 q3 => ?_, fun v v0 v1 hv => ?_, fun p w hp hw hc => ?_, fun v => ?_, ?_⟩
  · simp only
    rw [cAt_put]
    split
    · omega
    · exact H.pg v
  · have hb := H.bd v
    have hbf := H.bd ar[k].fr
    have e : B * ((r * ar.length + (k + 1) : Nat) : Int) = B * ((r * ar.length + k : Nat) : Int) + B := by
      rw [show r * ar.length + (k + 1) = (r * ar.length + k) + 1 by omega, Int.natCast_add, Int.mul_add]; simp
    simp only
    rw [cAt_put]
    have ht := H.bd ar[k].tv
    split <;> omega
  · exact Int.le_trans (H.mon v) (hmono v)
  · simp only
    rw [hset v v0]
    have l1 := H.low f hf hf0
    split
    · rename_i e
      rw [e]
      have := hf _ hx
      have := l1 ar[k].fr o1 o2
      omega
    · exact l1 v v0 v1
  · simp only at q1 q2 q3 ⊢
    by_cases e : j = k
    · subst e
      rw [hset _ o1, if_neg o5, hset _ o3, if_pos rfl]
      omega
    · rw [sig_next e] at q1 q2
      have hsl := sig_le (n := ar.length) (r := r) (k := k) hj
      by_cases e2 : ar[j].fr = ar[k].tv
      · rw [if_pos e2] at q2; omega
      · rw [if_neg e2] at q2
        have hj0 := (hO ar[j] (List.getElem_mem hj)).f0
        rw [hset _ hj0, if_neg e2] at q3 ⊢
        have := hmono ar[j].tv
        have := H.sat j hj q1 q2 q3
        omega
  · simp only at hv ⊢
    rw [hpset v v0]
    by_cases e : v = ar[k].tv
    · rw [if_pos e] at hv
      rw [if_pos e, if_pos e, hset v v0, if_pos e, hset _ o1, if_neg o5, if_neg o5]
      refine ⟨⟨hx, e.symm⟩, Int.le_refl _, ?_⟩
      rcases Nat.eq_zero_or_pos r with rfl | hr
      · simp; omega
      · have hw := sig_was (n := ar.length) (k := k) hr
        rcases Nat.lt_or_ge (t ar[k].fr) (sig ar.length r k k) with h3 | h3
        · have := hsat (by omega) h3 h1
          omega
        · omega
    · rw [if_neg e] at hv
      rw [if_neg e, if_neg e, hset v v0, if_neg e]
      obtain ⟨a1, a2, a3⟩ := H.prd v v0 v1 hv
      have := hmono (arcP ar s.P v).fr
      refine ⟨a1, by omega, ?_⟩
      have := htm (arcP ar s.P v).fr
      split <;> omega
  · simp only at hc ⊢
    by_cases hex : ∃ i, i < p ∧ w i = ar[k].tv
    · have key : ∀ i, i ≤ p → cAt s.L (w 0) - cAt s.L (w i) ≤ sumW ar (s.P.set ar[k].tv.toNat (k : Int)) w i ∧ ((∃ j, j < i ∧ w j = ar[k].tv) → cAt s.L (w 0) - cAt s.L (w i) < sumW ar (s.P.set ar[k].tv.toNat (k : Int)) w i) := by
        intro i
        induction i with
        | zero => intro _; exact ⟨by simp [sumW], fun ⟨j, hj, _⟩ => by omega⟩
        | succ i ih =>
          intro hi
          obtain ⟨ih1, ih2⟩ := ih (by omega)
          obtain ⟨⟨w0, w1⟩, ht, hfr⟩ := hc i (by omega)
          rw [sumW]
          rw [hpset _ w0] at hfr ⊢
          by_cases e : w i = ar[k].tv
          · rw [if_pos e] at hfr
            rw [if_pos e, ← hfr]
            rw [e] at ih1
            exact ⟨by omega, fun _ => by omega⟩
          · rw [if_neg e] at hfr ht
            rw [if_neg e]
            have := hold (w i) w0 w1 ht
            rw [hfr] at this
            refine ⟨by omega, fun ⟨j, hj, hj2⟩ => ?_⟩
            have : j < i := by
              rcases Nat.lt_or_ge j i with h | h
              · exact h
              · obtain rfl : j = i := by omega
                exact absurd hj2 e
            have := ih2 ⟨j, this, hj2⟩
            omega
      have := (key p (Nat.le_refl _)).2 hex
      rw [hw] at this
      omega
    · have hno : ∀ i, i < p → w i ≠ ar[k].tv := fun i hi e => hex ⟨i, hi, e⟩
      have heq : ∀ i, i ≤ p → sumW ar (s.P.set ar[k].tv.toNat (k : Int)) w i = sumW ar s.P w i := by
        intro i
        induction i with
        | zero => intro _; rfl
        | succ i ih =>
          intro hi
          have w0 := (hc i (by omega)).1.1
          rw [sumW, sumW, ih (by omega), hpset _ w0, if_neg (hno i (by omega))]
      rw [heq p (Nat.le_refl _)]
      refine H.pos p w hp hw fun i hi => ?_
      obtain ⟨a1, a2, a3⟩ := hc i hi
      rw [if_neg (hno i hi)] at a2
      rw [hpset _ a1.1, if_neg (hno i hi)] at a3
      exact ⟨a1, a2, a3⟩
  · have := htm v
    split <;> omega
  · refine .inr ⟨⟨o3, o4⟩, ?_⟩
    rw [if_pos rfl]; omega
theorem LgI.one (H : LgI ar m B L0 r k t s) (hB : 0 ≤ B) (hk : k < ar.length) (hO : ∀ a ∈ ar, OkA m B a) : ∃ t', LgI ar m B L0 r (k + 1) t' (rlx k ar[k] s) := by
  unfold rlx
  split
  · rename_i h
    exact ⟨_, H.step hB hk hO h.1 h.2⟩
  · rename_i h
    exact ⟨t, H.skip hB hk h⟩
theorem rndA_at {k : Nat} (hk : k < ar.length) (s : LgS) : rndA (ar.drop k) k s = rndA (ar.drop (k + 1)) (k + 1) (rlx k ar[k] s) := by
  rw [List.drop_eq_getElem_cons hk, rndA]
theorem LgI.round : ∀ (d k : Nat) (t : Int → Nat) (s : LgS), d + k = ar.length → LgI ar m B L0 r k t s → 0 ≤ B → (∀ a ∈ ar, OkA m B a) → ∃ t', LgI ar m B L0 r ar.length t' (rndA (ar.drop k) k s)
  | 0, k, t, s, hd, H, _, _ => by
    obtain rfl : k = ar.length := by omega
    rw [List.drop_length]
    exact ⟨t, H⟩
  | d + 1, k, t, s, hd, H, hB, hO => by
    obtain ⟨t', H'⟩ := H.one hB (by omega) hO
    rw [rndA_at (by omega)]
    exact LgI.round d (k + 1) t' _ (by omega) H' hB hO
end
end Go.Proofs.YtbdleggmdbihnaaGreat

/- Longest paths: the cycle. -/
namespace Go.Proofs.YtbdleggmdbihnaaGreat
set_option linter.unusedVariables false
section
variable {ar : List Ac} {m : Nat} {B : Int} {L0 : List Int} {r k : Nat} {t : Int → Nat} {s : LgS}
structure CycOk (ar : List Ac) (m : Nat) (P : List Int) (c : Int) (p : Nat) : Prop where
  p0 : 0 < p
  pm : p ≤ m
  ret : bkN ar P p c = c
  fst : ∀ j, 0 < j → j < p → bkN ar P j c ≠ c
  inn : ∀ i, i < p → (0 ≤ bkN ar P i c ∧ bkN ar P i c < (m : Int)) ∧ arcP ar P (bkN ar P i c) ∈ ar ∧ (arcP ar P (bkN ar P i c)).tv = bkN ar P i c
  pos : 0 < sumW ar P (fun i => bkN ar P i c) p
end
end Go.Proofs.YtbdleggmdbihnaaGreat

/- Repeat, for the numbers of lines that a net may have. -/
namespace Go.Proofs.YtbdleggmdbihnaaGreat
open Go.RowKit
set_option linter.unusedVariables false
end Go.Proofs.YtbdleggmdbihnaaGreat

/- Contracts: the piece of a line at a position; quotients rounded down and up. -/
namespace Go.Proofs.YtbdleggmdbihnaaGreat
open Go.RowKit
set_option linter.unusedVariables false
end Go.Proofs.YtbdleggmdbihnaaGreat

/- Contracts: the piece of a line; rounding. -/
namespace Go.Proofs.YtbdleggmdbihnaaGreat
open Go.RowKit
set_option linter.unusedVariables false
set_option linter.unusedSimpArgs false
theorem mul_bd {a b A B : Int} (h1 : -A ≤ a) (h2 : a ≤ A) (h3 : -B ≤ b) (h4 : b ≤ B) : -(A * B) ≤ a * b ∧ a * b ≤ A * B := by
  have p1 := Int.mul_nonneg (a := A - a) (b := B + b) (by omega) (by omega)
  have p2 := Int.mul_nonneg (a := A + a) (b := B - b) (by omega) (by omega)
  have p3 := Int.mul_nonneg (a := A - a) (b := B - b) (by omega) (by omega)
  have p4 := Int.mul_nonneg (a := A + a) (b := B + b) (by omega) (by omega)
  simp only [Int.sub_mul, Int.mul_sub, Int.add_mul, Int.mul_add] at p1 p2 p3 p4
  omega
theorem mul_w {a b : Int} (A B : Int) (h1 : -A ≤ a) (h2 : a ≤ A) (h3 : -B ≤ b) (h4 : b ≤ B) (h5 : A * B ≤ 1000000000000000000) : IntKind.i64.wrap (a * b) = a * b := by
  have := mul_bd h1 h2 h3 h4
  exact wrap_of (by omega) (by omega)
end Go.Proofs.YtbdleggmdbihnaaGreat

/- Contracts: the arcs of a flow, all lines, the value of a flow. -/
namespace Go.Proofs.YtbdleggmdbihnaaGreat
open Go.RowKit
set_option linter.unusedVariables false
set_option linter.unusedSimpArgs false
end Go.Proofs.YtbdleggmdbihnaaGreat

/- longest: the walk. -/
namespace Go.Proofs.YtbdleggmdbihnaaGreat
open Go.RowKit
set_option linter.unusedVariables false
set_option linter.unusedSimpArgs false
theorem ltL_set {n : Nat} {v : MV} : ∀ {rs : List MV} {i : Nat}, ltL n rs = true → v.lt n = true → ltL n (rs.set i v) = true
  | [], i, h, _ => h
  | r :: rs, 0, h, hv => by
    simp only [ltL, Bool.and_eq_true] at h
    simp [List.set, ltL, h.2, hv]
  | r :: rs, i + 1, h, hv => by
    simp only [ltL, Bool.and_eq_true] at h
    simp [List.set, ltL, h.1, ltL_set h.2 hv]
end Go.Proofs.YtbdleggmdbihnaaGreat

/- Flows: a change along a cycle; without a program. -/
namespace Go.Proofs.YtbdleggmdbihnaaGreat
set_option linter.unusedVariables false
set_option linter.unusedSimpArgs false
def att (x : Cr) (v f : Int) : Int := (if x.ln = v then f else 0) + (if x.ti = v then f else 0)
def sumV (cs : List Cr) (fl : List Int) (v : Int) : Nat → Int
  | 0 => 0
  | i + 1 => sumV cs fl v i + att (cs.getD i default) v (cAt fl i)
structure FlOk (n : Nt) (fl : List Int) : Prop where
  len : fl.length = n.cs.length
  bd : ∀ (i : Nat) (h : i < n.cs.length), -n.cs[i].wt ≤ cAt fl i ∧ cAt fl i ≤ n.cs[i].wt
  sum : ∀ v, sumV n.cs fl v n.cs.length = 0
structure ArcOk (n : Nt) (fl : List Int) (a : Ac) : Prop where
  c0 : 0 ≤ a.cr
  c1 : a.cr < (n.cs.length : Int)
  dir : (a.sg = 1 ∧ a.fr = (n.cs.getD a.cr.toNat default).ti ∧ a.tv = (n.cs.getD a.cr.toNat default).ln ∧ a.ln = (n.cs.getD a.cr.toNat default).df ∧ cAt fl a.cr < (n.cs.getD a.cr.toNat default).wt) ∨
    (a.sg = -1 ∧ a.fr = (n.cs.getD a.cr.toNat default).ln ∧ a.tv = (n.cs.getD a.cr.toNat default).ti ∧ a.ln = 0 - (n.cs.getD a.cr.toNat default).df ∧ 0 - (n.cs.getD a.cr.toNat default).wt < cAt fl a.cr)
section
variable {n : Nt} {fl : List Int} {P : List Int} {c : Int} {p : Nat}
end
end Go.Proofs.YtbdleggmdbihnaaGreat

/- The flow of a net: the walk. -/
namespace Go.Proofs.YtbdleggmdbihnaaGreat
open Go.RowKit
set_option linter.unusedVariables false
set_option linter.unusedSimpArgs false
end Go.Proofs.YtbdleggmdbihnaaGreat

/- Flows and corrections: no flow has a greater value than corrections cost; the program's flow has that of its potentials. Without a program. -/
namespace Go.Proofs.YtbdleggmdbihnaaGreat
set_option linter.unusedVariables false
set_option linter.unusedSimpArgs false
def absI (z : Int) : Int := if z < 0 then 0 - z else z
end Go.Proofs.YtbdleggmdbihnaaGreat

/- The cost of corrections is convex along sets of lines: where no set of lines can be moved by 1, nothing is cheaper; without a program. -/
namespace Go.Proofs.YtbdleggmdbihnaaGreat
set_option linter.unusedVariables false
set_option linter.unusedSimpArgs false
end Go.Proofs.YtbdleggmdbihnaaGreat

/- Contracts: sizes, sums of weights times sizes, clones, other differences. -/
namespace Go.Proofs.YtbdleggmdbihnaaGreat
open Go.RowKit
set_option linter.unusedVariables false
set_option linter.unusedSimpArgs false
theorem mx_abs (z : Int) : mx z (0 - z) = absI z := by unfold mx absI; split <;> split <;> omega
theorem absI_bd {z B : Int} (h1 : -B ≤ z) (h2 : z ≤ B) : 0 ≤ absI z ∧ absI z ≤ B := by unfold absI; split <;> omega
theorem mf_size : MT.mf 117 = some mfW_l117 := mfW_q117
theorem size_c (k : Nat) (z : Int) (h1 : -1000000000000 ≤ z) (h2 : z ≤ 1000000000000) (h : MHeap) : orA (k + 1) 117 [I64 z] h = some (I64 (absI z), h) := by
  refine callL (args' := [I64 z]) (frzL_lt rfl) rfl (runZ_of mf_size (by simp) ?_)
  simp only [argsL]
  repeat (first | apply ef_seq | (apply ef_mv; exact rfl; exact rfl) | (apply ef_neg; exact rfl; exact rfl; exact wrap_of (by omega) (by omega)) | (apply ef_mx; exact rfl; exact rfl; exact rfl) | apply ef_nil | apply seqQ.normal | apply ef_ret)
  (refine fin1 rfl (by exact rfl) rfl ?_)
  rw [mx_abs]
theorem mf_bSize : MT.mf 121 = some mfW_l117 := by kernel_rfl
theorem bSize_c (k : Nat) (z : Int) (h1 : -1000000000000 ≤ z) (h2 : z ≤ 1000000000000) (h : MHeap) : orA (k + 1) 121 [I64 z] h = some (I64 (absI z), h) := by
  refine callL (args' := [I64 z]) (frzL_lt rfl) rfl (runZ_of mf_bSize (by simp) ?_)
  simp only [argsL]
  repeat (first | apply ef_seq | (apply ef_mv; exact rfl; exact rfl) | (apply ef_neg; exact rfl; exact rfl; exact wrap_of (by omega) (by omega)) | (apply ef_mx; exact rfl; exact rfl; exact rfl) | apply ef_nil | apply seqQ.normal | apply ef_ret)
  (refine fin1 rfl (by exact rfl) rfl ?_)
  rw [mx_abs]
def wsU (cs : List Cr) (ds : List Int) : Nat → Int
  | 0 => 0
  | i + 1 => wsU cs ds i + (cs.getD i default).wt * absI (cAt ds i)
theorem wsU_next {cs : List Cr} {ds : List Int} {i : Nat} {x : Cr} (h : cs[i]? = some x) : wsU cs ds (i + 1) = wsU cs ds i + x.wt * absI (cAt ds i) := by
  rw [wsU, List.getD_eq_getElem?_getD, h]; rfl
theorem wsU_bd {n : Nt} (ok : OkN n) {ds : List Int} (hb : ∀ v, -1000000000000 ≤ cAt ds v ∧ cAt ds v ≤ 1000000000000) : ∀ i, i ≤ n.cs.length → 0 ≤ wsU n.cs ds i ∧ wsU n.cs ds i ≤ 10000000000000 * (i : Int)
  | 0, _ => by simp [wsU]
  | i + 1, hi => by
    have ih := wsU_bd ok hb i (by omega)
    have hx := (ok.rg n.cs[i] (List.getElem_mem (by omega))).wt
    rw [wsU_next (List.getElem?_eq_getElem (by omega))]
    have ha := absI_bd (hb (i : Int)).1 (hb (i : Int)).2
    have := mul_bd (a := n.cs[i].wt) (b := absI (cAt ds i)) (A := 10) (B := 1000000000000) (by omega) (by omega) (by omega) (by omega)
    have := Int.mul_nonneg (show 0 ≤ n.cs[i].wt by omega) ha.1
    omega
theorem mf_cost : MT.mf 78 = some mfW_l78 := mfW_q78
set_option maxHeartbeats 1000000 in
theorem cost_z (k : Nat) (n : Nt) (ok : OkN n) (ds : List Int) (hl : ds.length = n.cs.length) (hb : ∀ v, -1000000000000 ≤ cAt ds v ∧ cAt ds v ≤ 1000000000000) :
    runZ MT (orA (k + 1)) (itA (k + 1)) 4000000 78 [encN n, .sl (ds.map I64)] [] = some (I64 (wsU n.cs ds n.cs.length), []) := by
  have hs2 : (MV.sl (n.cs.map encCr)).slen = some n.cs.length := by simp [MV.slen]
  have c16 := ok.c16
  refine runZ_of mf_cost (by simp) ?_
  simp only [argsL]
  repeat (first | apply ef_seq | (apply ef_mv; exact rfl; exact rfl) | (apply ef_len; exact rfl; exact rfl; (assumption)) | (apply ef_ldp; exact rfl; exact rfl; (exact rfl); exact rfl; (exact rfl); (exact rfl)) | (apply ef_fap; exact rfl; exact rfl) | (apply ef_box; exact rfl; exact rfl; exact rfl; exact rfl) | apply ef_nil | apply seqQ.normal | apply ef_block)
  refine ef_loopf (α := Nat × Int) (fun p => p.1 ≤ n.cs.length ∧ p.2 = wsU n.cs ds p.1) (fun p => [(12, I64 (p.1 : Int)), (5, I64 p.2)]) [(11, I64 (n.cs.length : Int)), (10, .sl (n.cs.map encCr)), (1, .sl (ds.map I64))] (fun _ => [⟨0, false, 2, [encN n]⟩]) (fun p => n.cs.length - p.1) (0, 0) [12, 5] (fun _ => rfl) (by ((repeat (refine Hold.cons (by exact rfl) ?_)); exact Hold.nil)) (by ((repeat (refine Hold.cons (by exact rfl) ?_)); exact Hold.nil)) rfl rfl ⟨by omega, rfl⟩ (by simp; omega) ?_
  rintro ⟨i, q⟩ ⟨hi, hq⟩
  try simp only at hi hq ⊢
  by_cases hlt : i < n.cs.length
  · have e1 := at_map encCr n.cs i hlt
    have hat : n.cs[i]? = some n.cs[i] := List.getElem?_eq_getElem hlt
    have hx := ok.rg n.cs[i] (List.getElem_mem hlt)
    have e2 := cAt_at hl (i := (i : Int)) (by omega) (by omega)
    have hv := wsU_bd ok hb i hi
    have hvn := wsU_bd ok hb (i + 1) hlt
    have hbi := hb (i : Int)
    generalize n.cs[i] = x at e1 hat hx
    have HN := Lib.hid (wsU_next (ds := ds) hat)
    rw [HN.out] at hvn
    have w2 := hx.wt
    rw [← hq] at hv hvn
    generalize cAt ds i = f at e2 HN hvn hbi
    have ha := absI_bd hbi.1 hbi.2
    have w3 := fun h => size_c k f (by omega) (by omega) h
    generalize absI f = g at *
    have m1 := mul_w (a := x.wt) (b := g) 10 1000000000000 (by omega) (by omega) (by omega) (by omega) (by omega)
    repeat (first | apply ef_seq | (apply ef_mv; exact rfl; exact rfl) | (apply ef_bin; exact rfl; exact rfl; exact rfl; (first | exact cmp_t rfl (by first | exact rfl | (simp only [cmpP]; omega)) | ((with_reducible refine bin_add (wrap_of ?_ ?_)) <;> omega) | ((with_reducible refine bin_mul (wrap_of ?_ ?_)) <;> omega))) | (apply ef_ldr; exact rfl; exact rfl; (first | exact rd_6 rfl rfl rfl rfl rfl rfl | exact rfl)) | (apply ef_ldp; exact rfl; exact rfl; (exact rfl); exact rfl; (exact rfl); (exact rfl)) | (apply ef_ias; exact rfl; exact rfl; exact rfl; (omega); assumption; exact rfl) | (apply ef_fap; exact rfl; exact rfl) | (apply ef_new; exact rfl) | (apply ef_st; exact rfl; exact rfl; exact rfl; exact rfl; exact rfl; exact rfl; (exact rfl); exact rfl) | apply ef_nil | apply seqQ.normal | apply blockQ.normal | apply ef_block | apply ef_skip | (apply ef_condt; exact rfl; (exact (rfl : true = true))) | (apply ef_call; exact rfl; ((repeat (apply XVs.cons; exact rfl)); exact XVs.nil); (with_reducible exact w3 _)))
    (refine loopQ.normal _ _ ⟨(i + 1, q + x.wt * g), ⟨hlt, by rw [HN.out, hq]⟩, (by first | (simp only; omega) | omega), ⟨by ((repeat (refine Hold.cons (by exact rfl) ?_)); exact Hold.nil), by ((repeat (refine Hold.cons (by exact rfl) ?_)); exact Hold.nil)⟩, .inr ⟨by ((repeat (refine hdl_cons rfl (by first | rfl | (simp [MV.lt, ltL, ltL_Ln, ltL_Cr, ltL_I, splice, MV.cells])) ?_)); exact hdl_nil), by (simp [hltL, ltL, MV.lt, ltL, ltL_Ln, ltL_Cr, ltL_I, splice, MV.cells])⟩, by exact rfl⟩)
  · obtain rfl : i = n.cs.length := by omega
    repeat (first | apply ef_seq | (apply ef_mv; exact rfl; exact rfl) | (apply ef_bin; exact rfl; exact rfl; exact rfl; (exact cmp_f rfl (by simp only [cmpP]; omega))) | apply ef_nil | apply seqQ.normal | apply loopQ.exit | apply ef_ret | apply ef_exit | apply seqQ.exit | apply blockQ.here | (apply ef_condf; exact rfl; (exact (rfl : false = false))))
    (refine fin1 rfl (by exact rfl) rfl ?_)
    rw [hq]
theorem cost_c (k : Nat) (n : Nt) (ok : OkN n) (ds : List Int) (hl : ds.length = n.cs.length) (hb : ∀ v, -1000000000000 ≤ cAt ds v ∧ cAt ds v ≤ 1000000000000) (h : MHeap) {v : MV} (hv : frz 0 [] h 8 v = some (.sl (ds.map I64))) :
    orA (k + 2) 78 [encN n, v] h = some (I64 (wsU n.cs ds n.cs.length), h) :=
  callL (args' := [encN n, .sl (ds.map I64)]) (by simp [List.mapM_cons, hv, frz_lt (ltL_N n 0)]) rfl (cost_z k n ok ds hl hb)
theorem mf_SumOf : MT.mf 86 = some ⟨28, [(.tmp 4)], (.seq (.reg [⟨none, some 2, .box 2 (.s 0)⟩, ⟨none, some 4, .mv (.c (.lit (.int .i64 0)))⟩]) (.seq (.reg [⟨none, some 5, .mv (.c (.lit (.int .i64 0)))⟩]) (.seq (.seq (.reg [⟨none, some 6, .mv (.c (.lit (.int .i64 0)))⟩]) (.block 0 (.loop [6, 1, 5, 2] (.seq (.seq (.reg [⟨none, some 7, .mv (.s 6)⟩, ⟨none, some 8, .mv (.s 1)⟩, ⟨none, some 9, .len (.s 8)⟩, ⟨none, some 10, .bin .lss (.s 7) (.s 9)⟩]) (.cond (.s 10) .skip (.exit 0))) (.seq (.block 1 (.reg [⟨none, some 13, .mv (.s 5)⟩, ⟨none, some 14, .fa 1 (.s 2)⟩, ⟨none, some 15, .ld none (.s 14)⟩, ⟨none, some 16, .mv (.s 6)⟩, ⟨none, some 17, .ia 6 (.s 15) (.s 16)⟩, ⟨none, some 18, .fa 5 (.s 17)⟩, ⟨none, some 19, .ld none (.s 18)⟩, ⟨none, some 20, .mv (.s 1)⟩, ⟨none, some 21, .mv (.s 6)⟩, ⟨none, some 22, .ia 1 (.s 20) (.s 21)⟩, ⟨none, some 23, .ld none (.s 22)⟩, ⟨none, some 24, .call 121 [.s 23]⟩, ⟨none, some 25, .bin .mul (.s 19) (.s 24)⟩, ⟨none, some 26, .bin .add (.s 13) (.s 25)⟩, ⟨none, some 5, .mv (.s 26)⟩])) (.reg [⟨none, some 11, .mv (.s 6)⟩, ⟨none, some 12, .bin .add (.s 11) (.c (.lit (.int .i64 1)))⟩, ⟨none, some 6, .mv (.s 12)⟩])))))) (.seq (.reg [⟨none, some 27, .mv (.s 5)⟩, ⟨none, some 4, .mv (.s 27)⟩]) .ret))))⟩ := by kernel_rfl
set_option maxHeartbeats 1000000 in
theorem SumOf_z (k : Nat) (n : Nt) (ok : OkN n) (ds : List Int) (hl : ds.length = n.cs.length) (hb : ∀ v, -1000000000000 ≤ cAt ds v ∧ cAt ds v ≤ 1000000000000) :
    runZ MT (orA (k + 1)) (itA (k + 1)) 4000000 86 [encN n, .sl (ds.map I64)] [] = some (I64 (wsU n.cs ds n.cs.length), []) := by
  have hs3 : (MV.sl (ds.map I64)).slen = some ds.length := by simp [MV.slen]
  have c16 := ok.c16
  refine runZ_of mf_SumOf (by simp) ?_
  simp only [argsL]
  repeat (first | apply ef_seq | (apply ef_mv; exact rfl; exact rfl) | (apply ef_box; exact rfl; exact rfl; exact rfl; exact rfl) | apply ef_nil | apply seqQ.normal | apply ef_block)
  refine ef_loopf (α := Nat × Int) (fun p => p.1 ≤ n.cs.length ∧ p.2 = wsU n.cs ds p.1) (fun p => [(6, I64 (p.1 : Int)), (5, I64 p.2)]) [(1, .sl (ds.map I64)), (2, .ptr 0 0 0 0)] (fun _ => [⟨0, false, 2, [encN n]⟩]) (fun p => n.cs.length - p.1) (0, 0) [6, 5] (fun _ => rfl) (by ((repeat (refine Hold.cons (by exact rfl) ?_)); exact Hold.nil)) (by ((repeat (refine Hold.cons (by exact rfl) ?_)); exact Hold.nil)) rfl rfl ⟨by omega, rfl⟩ (by simp; omega) ?_
  rintro ⟨i, q⟩ ⟨hi, hq⟩
  try simp only at hi hq ⊢
  by_cases hlt : i < n.cs.length
  · have e1 := at_map encCr n.cs i hlt
    have hat : n.cs[i]? = some n.cs[i] := List.getElem?_eq_getElem hlt
    have hx := ok.rg n.cs[i] (List.getElem_mem hlt)
    have e2 := cAt_at hl (i := (i : Int)) (by omega) (by omega)
    have hv := wsU_bd ok hb i hi
    have hvn := wsU_bd ok hb (i + 1) hlt
    have hbi := hb (i : Int)
    generalize n.cs[i] = x at e1 hat hx
    have HN := Lib.hid (wsU_next (ds := ds) hat)
    rw [HN.out] at hvn
    have w2 := hx.wt
    rw [← hq] at hv hvn
    generalize cAt ds i = f at e2 HN hvn hbi
    have ha := absI_bd hbi.1 hbi.2
    have w3 := fun h => bSize_c k f (by omega) (by omega) h
    generalize absI f = g at *
    have m1 := mul_w (a := x.wt) (b := g) 10 1000000000000 (by omega) (by omega) (by omega) (by omega) (by omega)
    repeat (first | apply ef_seq | (apply ef_mv; exact rfl; exact rfl) | (apply ef_bin; exact rfl; exact rfl; exact rfl; (first | exact cmp_t rfl (by first | exact rfl | (simp only [cmpP]; omega)) | ((with_reducible refine bin_add (wrap_of ?_ ?_)) <;> omega) | ((with_reducible refine bin_mul (wrap_of ?_ ?_)) <;> omega))) | (apply ef_len; exact rfl; exact rfl; (assumption)) | (apply ef_ldr; exact rfl; exact rfl; (exact rfl)) | (apply ef_ldp; exact rfl; exact rfl; (exact rfl); exact rfl; (exact rfl); (exact rfl)) | (apply ef_ias; exact rfl; exact rfl; exact rfl; (omega); assumption; exact rfl) | (apply ef_fap; exact rfl; exact rfl) | (apply ef_far; exact rfl; exact rfl) | apply ef_nil | apply seqQ.normal | apply blockQ.normal | apply ef_block | apply ef_skip | (apply ef_condt; exact rfl; (exact (rfl : true = true))) | (apply ef_call; exact rfl; ((repeat (apply XVs.cons; exact rfl)); exact XVs.nil); (with_reducible exact w3 _)))
    (refine loopQ.normal _ _ ⟨(i + 1, q + x.wt * g), ⟨hlt, by rw [HN.out, hq]⟩, (by first | (simp only; omega) | omega), ⟨by ((repeat (refine Hold.cons (by exact rfl) ?_)); exact Hold.nil), by ((repeat (refine Hold.cons (by exact rfl) ?_)); exact Hold.nil)⟩, .inr ⟨by ((repeat (refine hdl_cons rfl (by first | rfl | (simp [MV.lt, ltL, ltL_Ln, ltL_Cr, ltL_I, splice, MV.cells])) ?_)); exact hdl_nil), by (simp [hltL, ltL, MV.lt, ltL, ltL_Ln, ltL_Cr, ltL_I, splice, MV.cells])⟩, by exact rfl⟩)
  · obtain rfl : i = n.cs.length := by omega
    repeat (first | apply ef_seq | (apply ef_mv; exact rfl; exact rfl) | (apply ef_bin; exact rfl; exact rfl; exact rfl; (exact cmp_f rfl (by simp only [cmpP]; omega))) | (apply ef_len; exact rfl; exact rfl; (assumption)) | apply ef_nil | apply seqQ.normal | apply loopQ.exit | apply ef_ret | apply ef_exit | apply seqQ.exit | apply blockQ.here | (apply ef_condf; exact rfl; (exact (rfl : false = false))))
    (refine fin1 rfl (by exact rfl) rfl ?_)
    rw [hq]
theorem SumOf_c (k : Nat) (n : Nt) (ok : OkN n) (ds : List Int) (hl : ds.length = n.cs.length) (hb : ∀ v, -1000000000000 ≤ cAt ds v ∧ cAt ds v ≤ 1000000000000) (h : MHeap) {v : MV} (hv : frz 0 [] h 8 v = some (.sl (ds.map I64))) :
    orA (k + 2) 86 [encN n, v] h = some (I64 (wsU n.cs ds n.cs.length), h) :=
  callL (args' := [encN n, .sl (ds.map I64)]) (by simp [List.mapM_cons, hv, frz_lt (ltL_N n 0)]) rfl (SumOf_z k n ok ds hl hb)
def anB (z : Int) : Bool := !inB z (-10000) 10000
end Go.Proofs.YtbdleggmdbihnaaGreat

/- Contracts: clones; a net with other differences. -/
namespace Go.Proofs.YtbdleggmdbihnaaGreat
open Go.RowKit
set_option linter.unusedVariables false
set_option linter.unusedSimpArgs false
theorem ef_eqns {O : Oracle} {I : Iter} {N n : Nat} {lk : Nat → Bool} {A : Sl} {h : MHeap} {Q : MX2 → Sl → MHeap → Prop} {os : List GO} {t : Nat} {neg : Bool} {x : MX} {e : MV} {es : List MV} (ht : Nat.blt t n = true) (hx : XV A x (.sl (e :: es))) (hE : Ef O I N n lk (.reg os) ((t, .lit (.bool neg)) :: A) h Q) : Ef O I N n lk (.reg (⟨none, some t, .eqn neg x⟩ :: os)) A h Q :=
  ef_op (fun S HS => by simp only [evO, HS.x hx]) ht hE
theorem mf_CloneL : MT.mf 119 = some mfW_l119 := mfW_q119
theorem mf_CloneC : MT.mf 120 = some mfW_l120 := mfW_q120
theorem CloneL_z (k : Nat) (l : Ln) (ls : List Ln) (hl : (l :: ls).length ≤ 1000) : runZ MT (orA k) (itA k) 4000000 119 [.sl ((l :: ls).map encLn)] [] = some (.arr 0 0 (l :: ls).length 0, [⟨0, false, 2, (l :: ls).map encLn⟩]) := by
  have q1 := sOk_Ln (l :: ls)
  refine runZ_of mf_CloneL (by simp) ?_
  simp only [argsL]
  repeat (first | apply ef_seq | (apply ef_mv; exact rfl; exact rfl) | (apply ef_nil0; exact rfl) | apply ef_nil | apply seqQ.normal)
  refine ef_eqns (by exact rfl) (by exact rfl) ?_
  repeat (first | apply ef_seq | (apply ef_mv; exact rfl; exact rfl) | (apply ef_bsl; exact rfl; (repeat (apply XVs.cons; exact rfl)); exact XVs.nil; exact rfl) | apply ef_nil | apply seqQ.normal | apply ef_skip | (apply ef_condf; exact rfl; (exact (rfl : false = false))))
  (apply ef_app; (· exact rfl); (· exact rfl); (· exact rfl); (· exact rfl); (· exact rfl); (· exact rfl); (· exact rfl); (· exact rfl); (· (simp at hl ⊢; omega)); (· exact q1); (· exact rfl))
  repeat (first | (apply ef_mv; exact rfl; exact rfl) | apply ef_nil | apply seqQ.normal | apply ef_ret)
  (apply fin_arr; (· exact rfl); (· exact rfl); (· exact rfl); (· exact rfl); (· simp); (· (exact ltL_Ln 0 (l :: ls))); (· (simp; rw [List.take_of_length_le (by simp)])); (· exact rfl); (· exact rfl); (· (simp)))
theorem CloneC_z (k : Nat) (l : Cr) (ls : List Cr) (hl : (l :: ls).length ≤ 1000) : runZ MT (orA k) (itA k) 4000000 120 [.sl ((l :: ls).map encCr)] [] = some (.arr 0 0 (l :: ls).length 0, [⟨0, false, 6, (l :: ls).map encCr⟩]) := by
  have q1 := sOk_Cr (l :: ls)
  refine runZ_of mf_CloneC (by simp) ?_
  simp only [argsL]
  repeat (first | apply ef_seq | (apply ef_mv; exact rfl; exact rfl) | (apply ef_nil0; exact rfl) | apply ef_nil | apply seqQ.normal)
  refine ef_eqns (by exact rfl) (by exact rfl) ?_
  repeat (first | apply ef_seq | (apply ef_mv; exact rfl; exact rfl) | (apply ef_bsl; exact rfl; (repeat (apply XVs.cons; exact rfl)); exact XVs.nil; exact rfl) | apply ef_nil | apply seqQ.normal | apply ef_skip | (apply ef_condf; exact rfl; (exact (rfl : false = false))))
  (apply ef_app; (· exact rfl); (· exact rfl); (· exact rfl); (· exact rfl); (· exact rfl); (· exact rfl); (· exact rfl); (· exact rfl); (· (simp at hl ⊢; omega)); (· exact q1); (· exact rfl))
  repeat (first | (apply ef_mv; exact rfl; exact rfl) | apply ef_nil | apply seqQ.normal | apply ef_ret)
  (apply fin_arr; (· exact rfl); (· exact rfl); (· exact rfl); (· exact rfl); (· simp); (· (exact ltL_Cr 0 (l :: ls))); (· (simp; rw [List.take_of_length_le (by simp)])); (· exact rfl); (· exact rfl); (· (simp)))
theorem CloneL_c (k : Nat) (l : Ln) (ls : List Ln) (hl : (l :: ls).length ≤ 1000) (h : MHeap) : orA (k + 1) 119 [.sl ((l :: ls).map encLn)] h = some (.arr h.length 0 (l :: ls).length 0, h ++ [⟨0, false, 2, (l :: ls).map encLn⟩]) := by
  have := callA (k := k) (h := h) (args := [.sl ((l :: ls).map encLn)]) (frzL_lt (by simp [ltL, MV.lt, ltL_Ln])) rfl (CloneL_z k l ls hl) rfl (by simp [okH, ltL, MV.lt, ltL_Ln, pureL, MV.pure, pureL_Ln])
  simpa [shV, sh1] using this
theorem CloneC_c (k : Nat) (l : Cr) (ls : List Cr) (hl : (l :: ls).length ≤ 1000) (h : MHeap) : orA (k + 1) 120 [.sl ((l :: ls).map encCr)] h = some (.arr h.length 0 (l :: ls).length 0, h ++ [⟨0, false, 6, (l :: ls).map encCr⟩]) := by
  have := callA (k := k) (h := h) (args := [.sl ((l :: ls).map encCr)]) (frzL_lt (by simp [ltL, MV.lt, ltL_Cr])) rfl (CloneC_z k l ls hl) rfl (by simp [okH, ltL, MV.lt, ltL_Cr, pureL, MV.pure, pureL_Cr])
  simpa [shV, sh1] using this
theorem CloneC_e (k : Nat) (h : MHeap) : orA (k + 1) 120 [.sl []] h = some (.sl [], h) := by
  have := callT (f := 120) (k := k) (h := h) (args := [.sl []]) (args' := [.sl []]) (m := .sl []) (news := []) rfl rfl rfl rfl
  simpa [shV, sh1] using this
end Go.Proofs.YtbdleggmdbihnaaGreat

/- Contracts: a net with other differences. -/
namespace Go.Proofs.YtbdleggmdbihnaaGreat
open Go.RowKit
set_option linter.unusedVariables false
set_option linter.unusedSimpArgs false
def setD (x : Cr) (d : Int) : Cr := ⟨x.ln, x.ti, x.pa, x.pt, d, x.wt⟩
def wiU (cs : List Cr) (ds : List Int) : Nat → List Cr
  | 0 => cs
  | i + 1 => (wiU cs ds i).set i (setD (cs.getD i default) (cAt ds i))
def nW (n : Nt) (ds : List Int) : Nt := ⟨n.ls, wiU n.cs ds n.cs.length⟩
theorem wiU_len (cs : List Cr) (ds : List Int) : ∀ i, (wiU cs ds i).length = cs.length
  | 0 => rfl
  | i + 1 => by rw [wiU, List.length_set, wiU_len cs ds i]
theorem wiU_at (cs : List Cr) (ds : List Int) : ∀ i j, i ≤ j → (wiU cs ds i)[j]? = cs[j]?
  | 0, j, _ => rfl
  | i + 1, j, h => by rw [wiU, List.getElem?_set_ne (by omega)]; exact wiU_at cs ds i j (by omega)
theorem wiU_next {cs : List Cr} {ds : List Int} {i : Nat} {x : Cr} (h : cs[i]? = some x) : wiU cs ds (i + 1) = (wiU cs ds i).set i (setD x (cAt ds i)) := by
  rw [wiU, List.getD_eq_getElem?_getD, h]; rfl
theorem mf_with : MT.mf 81 = some mfW_l81 := mfW_q81
set_option maxHeartbeats 2000000 in
theorem with_z (k : Nat) (l : Ln) (ls : List Ln) (c : Cr) (cs : List Cr) (h1 : (l :: ls).length ≤ 1000) (h2 : (c :: cs).length ≤ 1000) (ds : List Int) (hd : ds.length = (c :: cs).length) :
    runZ MT (orA (k + 1)) (itA (k + 1)) 4000000 81 [encN ⟨l :: ls, c :: cs⟩, .sl (ds.map I64)] [] = some (encN (nW ⟨l :: ls, c :: cs⟩ ds), []) := by
  have hs3 : (MV.sl (ds.map I64)).slen = some ds.length := by simp [MV.slen]
  have w1 := fun h => CloneL_c k l ls h1 h
  have w2 := fun h => CloneC_c k c cs h2 h
  refine runZ_of mf_with (by simp) ?_
  simp only [argsL]
  generalize hL : l :: ls = L at *
  generalize hC : c :: cs = C at *
  repeat (first | apply ef_seq | (apply ef_mv; exact rfl; exact rfl) | (apply ef_len; exact rfl; exact rfl; (assumption)) | (apply ef_ldp; exact rfl; exact rfl; (exact rfl); exact rfl; (exact rfl); (exact rfl)) | (apply ef_fap; exact rfl; exact rfl) | (apply ef_box; exact rfl; exact rfl; exact rfl; exact rfl) | (apply ef_new; exact rfl) | (apply ef_build; exact rfl; (repeat (apply XVs.cons; exact rfl)); exact XVs.nil; exact rfl; exact rfl) | (apply ef_nilck; exact rfl; exact rfl; exact rfl) | (apply ef_st; exact rfl; exact rfl; exact rfl; exact rfl; exact rfl; exact rfl; (exact rfl); exact rfl) | apply ef_nil | apply seqQ.normal | apply ef_block | (apply ef_call; exact rfl; ((repeat (apply XVs.cons; exact rfl)); exact XVs.nil); (with_reducible first | exact w1 _ | exact w2 _)))
  refine ef_loopf (α := Nat × List MV) (fun p => p.1 ≤ C.length ∧ p.2 = (wiU C ds p.1).map encCr) (fun p => [(20, I64 (p.1 : Int))]) [(19, I64 (ds.length : Int)), (18, .sl (ds.map I64)), (5, .ptr 2 0 0 0), (4, .ptr 1 0 0 0)] (fun p => [⟨0, false, 2, [encN ⟨L, C⟩]⟩, ⟨0, false, 2, [.agg [.lit (.slice none 0 0), .lit (.slice none 0 0)]]⟩, ⟨0, false, 2, [.agg [.arr 3 0 L.length 0, .arr 4 0 C.length 0]]⟩, ⟨0, false, 2, L.map encLn⟩, ⟨0, false, 6, p.2⟩]) (fun p => C.length - p.1) (0, C.map encCr) [20] (fun _ => rfl) (by ((repeat (refine Hold.cons (by exact rfl) ?_)); exact Hold.nil)) (by ((repeat (refine Hold.cons (by exact rfl) ?_)); exact Hold.nil)) rfl rfl ⟨by omega, rfl⟩ (by simp; omega) ?_
  rintro ⟨i, rs⟩ ⟨hi, hrs⟩
  try simp only at hi hrs ⊢
  have hrl : rs.length = C.length := by rw [hrs]; simp [wiU_len]
  by_cases hlt : i < C.length
  · have e1 := at_map I64 ds i (by omega)
    have hat : C[i]? = some C[i] := List.getElem?_eq_getElem hlt
    have e2 : rs[0 + ((i : Nat) : Int).toNat]? = some (encCr C[i]) := by
      rw [hrs, Nat.zero_add, Int.toNat_natCast, List.getElem?_map, wiU_at C ds i i (Nat.le_refl _), hat]; rfl
    have hcd : cAt ds (i : Int) = ds[i] := by unfold cAt; rw [Int.toNat_natCast, List.getD_eq_getElem?_getD, List.getElem?_eq_getElem (by omega)]; rfl
    have HN := Lib.hid (wiU_next (ds := ds) hat)
    rw [hcd] at HN
    generalize C[i] = x at e2 HN
    generalize ds[i] = d at e1 HN
    have hls : ∀ (j i : Nat) (a b c d e f : Int), ltL j (rs.set i (.agg [I64 a, I64 b, I64 c, I64 d, I64 e, I64 f])) = true := fun j i a b c d e f => ltL_set (by rw [hrs]; exact ltL_Cr j _) rfl
    repeat (first | apply ef_seq | (apply ef_mv; exact rfl; exact rfl) | (apply ef_bin; exact rfl; exact rfl; exact rfl; (first | exact cmp_t rfl (by first | exact rfl | (simp only [cmpP]; omega)) | ((with_reducible refine bin_add (wrap_of ?_ ?_)) <;> omega))) | (apply ef_ldr; exact rfl; exact rfl; (exact rfl)) | (apply ef_ldp; exact rfl; exact rfl; (exact rfl); exact rfl; (exact rfl); (exact rfl)) | (apply ef_ias; exact rfl; exact rfl; exact rfl; (omega); assumption; exact rfl) | (apply ef_iaa; exact rfl; exact rfl; exact rfl; (omega); (omega); (exact rfl)) | (apply ef_fap; exact rfl; exact rfl) | (apply ef_st; exact rfl; exact rfl; exact rfl; exact rfl; exact rfl; exact rfl; (assumption); exact rfl) | apply ef_nil | apply seqQ.normal | apply blockQ.normal | apply ef_block | apply ef_skip | (apply ef_condt; exact rfl; (exact (rfl : true = true))))
    (refine loopQ.normal _ _ ⟨(i + 1, rs.set (0 + ((i : Nat) : Int).toNat) (encCr (setD x d))), ⟨hlt, by rw [HN.out, hrs, Nat.zero_add, Int.toNat_natCast, List.map_set]⟩, (by first | (simp only; omega) | omega), ⟨by ((repeat (refine Hold.cons (by exact rfl) ?_)); exact Hold.nil), by ((repeat (refine Hold.cons (by exact rfl) ?_)); exact Hold.nil)⟩, .inr ⟨by ((repeat (refine hdl_cons rfl (by first | rfl | (simp [MV.lt, ltL, ltL_Ln, ltL_Cr, ltL_I, hls, splice, MV.cells])) ?_)); exact hdl_nil), by (simp [hltL, ltL, MV.lt, ltL, ltL_Ln, ltL_Cr, ltL_I, hls, splice, MV.cells])⟩, by exact rfl⟩)
  · obtain rfl : i = C.length := by omega
    repeat (first | apply ef_seq | (apply ef_bin; exact rfl; exact rfl; exact rfl; (exact cmp_f rfl (by simp only [cmpP]; omega))) | (apply ef_ldp; exact rfl; exact rfl; (exact rfl); exact rfl; (exact rfl); (exact rd_2 rfl rfl)) | (apply ef_st; exact rfl; exact rfl; exact rfl; exact rfl; exact rfl; exact rfl; (exact rfl); exact rfl) | apply ef_nil | apply seqQ.normal | apply loopQ.exit | apply ef_ret | apply ef_exit | apply seqQ.exit | apply blockQ.here | (apply ef_condf; exact rfl; (exact (rfl : false = false))))
    (apply fin_cellz; (· exact rfl); (· exact ⟨1, 0, 0, 0, _, _, by exact rfl, by exact rfl, rfl, rfl, rd_2 rfl rfl⟩))
    exact frzF_agg2 rfl (frzF_arr (o := ⟨0, false, 2, L.map encLn⟩) rfl rfl (by simp [nW]) (ltL_Ln 0 _) rfl) (frzF_arr (o := ⟨0, false, 6, rs⟩) rfl rfl (by simp [nW, wiU_len]) (ltL_Cr 0 _) hrs)
theorem with0_z (k : Nat) (l : Ln) (ls : List Ln) (h1 : (l :: ls).length ≤ 1000) :
    runZ MT (orA (k + 1)) (itA (k + 1)) 4000000 81 [encN ⟨l :: ls, []⟩, .sl []] [] = some (encN ⟨l :: ls, []⟩, []) := by
  have w1 := fun h => CloneL_c k l ls h1 h
  have w2 : ∀ h, orA (k + 1) 120 [.sl (([] : List Cr).map encCr)] h = some (.sl [], h) := fun h => CloneC_e k h
  refine runZ_of mf_with (by simp) ?_
  simp only [argsL]
  generalize hL : l :: ls = L at *
  repeat (first | apply ef_seq | (apply ef_mv; exact rfl; exact rfl) | (apply ef_len; exact rfl; exact rfl; (exact rfl)) | (apply ef_ldp; exact rfl; exact rfl; (exact rfl); exact rfl; (exact rfl); (exact rfl)) | (apply ef_fap; exact rfl; exact rfl) | (apply ef_box; exact rfl; exact rfl; exact rfl; exact rfl) | (apply ef_new; exact rfl) | (apply ef_build; exact rfl; (repeat (apply XVs.cons; exact rfl)); exact XVs.nil; exact rfl; exact rfl) | (apply ef_nilck; exact rfl; exact rfl; exact rfl) | (apply ef_st; exact rfl; exact rfl; exact rfl; exact rfl; exact rfl; exact rfl; (exact rfl); exact rfl) | apply ef_nil | apply seqQ.normal | apply ef_block | (apply ef_call; exact rfl; ((repeat (apply XVs.cons; exact rfl)); exact XVs.nil); (with_reducible first | exact w1 _ | exact w2 _)))
  refine ef_loop (α := Unit) (fun _ => True) (fun _ => [(20, I64 0), (19, I64 0), (5, .ptr 2 0 0 0), (4, .ptr 1 0 0 0)]) (fun _ => [⟨0, false, 2, [encN ⟨L, []⟩]⟩, ⟨0, false, 2, [.agg [.lit (.slice none 0 0), .lit (.slice none 0 0)]]⟩, ⟨0, false, 2, [.agg [.arr 3 0 L.length 0, .sl []]]⟩, ⟨0, false, 2, L.map encLn⟩]) (fun _ => 0) () [20, 19, 5, 4] (fun _ => rfl) rfl trivial (by simp) (by ((repeat (refine Hold.cons (by exact rfl) ?_)); exact Hold.nil)) rfl ?_
  rintro ⟨⟩ -
  repeat (first | apply ef_seq | (apply ef_bin; exact rfl; exact rfl; exact rfl; (exact cmp_f rfl (by simp only [cmpP]; omega))) | (apply ef_ldp; exact rfl; exact rfl; (exact rfl); exact rfl; (exact rfl); (exact rd_2 rfl rfl)) | (apply ef_st; exact rfl; exact rfl; exact rfl; exact rfl; exact rfl; exact rfl; (exact rfl); exact rfl) | apply ef_nil | apply seqQ.normal | apply loopQ.exit | apply ef_ret | apply ef_exit | apply seqQ.exit | apply blockQ.here | (apply ef_condf; exact rfl; (exact (rfl : false = false))))
  (apply fin_cellz; (· exact rfl); (· exact ⟨1, 0, 0, 0, _, _, by exact rfl, by exact rfl, rfl, rfl, rd_2 rfl rfl⟩))
  exact frzF_agg2 rfl (frzF_arr (o := ⟨0, false, 2, L.map encLn⟩) rfl rfl (by simp) (ltL_Ln 0 _) rfl) (frzF_lt rfl)
theorem withN_z (k : Nat) (n : Nt) (h0 : 0 < n.ls.length) (h1 : n.ls.length ≤ 1000) (h2 : n.cs.length ≤ 1000) (ds : List Int) (hd : ds.length = n.cs.length) :
    runZ MT (orA (k + 1)) (itA (k + 1)) 4000000 81 [encN n, .sl (ds.map I64)] [] = some (encN (nW n ds), []) := by
  obtain ⟨ls, cs⟩ := n
  cases ls with
  | nil => simp at h0
  | cons l ls =>
    cases cs with
    | nil =>
      obtain rfl : ds = [] := List.length_eq_zero_iff.1 hd
      exact with0_z k l ls h1
    | cons c cs => exact with_z k l ls c cs h1 h2 ds hd
theorem withN_c (k : Nat) (n : Nt) (h0 : 0 < n.ls.length) (h1 : n.ls.length ≤ 1000) (h2 : n.cs.length ≤ 1000) (ds : List Int) (hd : ds.length = n.cs.length) (h : MHeap) :
    orA (k + 2) 81 [encN n, .sl (ds.map I64)] h = some (encN (nW n ds), h) := by
  have := callA (k := k + 1) (h := h) (args := [encN n, .sl (ds.map I64)]) (args' := [encN n, .sl (ds.map I64)]) (frzL_lt (by simp [ltL, MV.lt, ltL_Ln, ltL_Cr, ltL_I])) rfl (withN_z k n h0 h1 h2 ds hd) (by simp [okV, ok1, MV.lt, ltL, ltL_Ln, ltL_Cr, ltL_I]) rfl
  simpa [shV, sh1] using this
end Go.Proofs.YtbdleggmdbihnaaGreat

/- Contracts: the document's net with other differences. -/
namespace Go.Proofs.YtbdleggmdbihnaaGreat
open Go.RowKit
set_option linter.unusedVariables false
set_option linter.unusedSimpArgs false
theorem mf_rWith : MT.mf 85 = some ⟨25, [(.cell 4 (some 2))], (.seq (.reg [⟨none, some 2, .box 2 (.s 0)⟩, ⟨none, some 4, .new (.agg [(.lit (.slice none 0 0)), (.lit (.slice none 0 0))])⟩]) (.seq (.reg [⟨none, some 7, .ld (some 2) (.s 2)⟩, ⟨none, some 8, .call 11 [.s 7]⟩, ⟨none, some 5, .new (.agg [(.lit (.slice none 0 0)), (.lit (.slice none 0 0))])⟩, ⟨none, none, .st 2 (.s 5) (.s 8)⟩]) (.seq (.seq (.reg [⟨none, some 6, .mv (.c (.lit (.int .i64 0)))⟩]) (.block 0 (.loop [6, 1, 5, 4] (.seq (.seq (.reg [⟨none, some 9, .mv (.s 6)⟩, ⟨none, some 10, .mv (.s 1)⟩, ⟨none, some 11, .len (.s 10)⟩, ⟨none, some 12, .bin .lss (.s 9) (.s 11)⟩]) (.cond (.s 12) .skip (.exit 0))) (.seq (.block 1 (.reg [⟨none, some 15, .fa 1 (.s 5)⟩, ⟨none, some 16, .ld none (.s 15)⟩, ⟨none, some 17, .mv (.s 6)⟩, ⟨none, some 18, .mv (.s 1)⟩, ⟨none, some 19, .mv (.s 6)⟩, ⟨none, some 20, .ia 1 (.s 18) (.s 19)⟩, ⟨none, some 21, .ld none (.s 20)⟩, ⟨none, some 22, .ia 6 (.s 16) (.s 17)⟩, ⟨none, some 23, .fa 4 (.s 22)⟩, ⟨none, none, .st 1 (.s 23) (.s 21)⟩])) (.reg [⟨none, some 13, .mv (.s 6)⟩, ⟨none, some 14, .bin .add (.s 13) (.c (.lit (.int .i64 1)))⟩, ⟨none, some 6, .mv (.s 14)⟩])))))) (.seq (.reg [⟨none, some 24, .ld (some 2) (.s 5)⟩, ⟨none, none, .st 2 (.s 4) (.s 24)⟩]) .ret))))⟩ := by kernel_rfl
set_option maxHeartbeats 2000000 in
theorem rWith_z (k : Nat) (l : Ln) (ls : List Ln) (c : Cr) (cs : List Cr) (hb : BdN ⟨l :: ls, c :: cs⟩) (h2 : (c :: cs).length ≤ 1000) (ds : List Int) (hd : ds.length = (c :: cs).length) :
    runZ MT (orA (k + 1)) (itA (k + 1)) 4000000 85 [encN ⟨l :: ls, c :: cs⟩, .sl (ds.map I64)] [] = some (encN (nW ⟨l :: ls, c :: cs⟩ ds), []) := by
  have hs3 : (MV.sl (ds.map I64)).slen = some ds.length := by simp [MV.slen]
  have w1 := fun h => Copy_c k ⟨l :: ls, c :: cs⟩ hb h
  simp only [cpV, cpH] at w1
  refine runZ_of mf_rWith (by simp) ?_
  simp only [argsL]
  generalize hL : l :: ls = L at *
  generalize hC : c :: cs = C at *
  repeat (first | apply ef_seq | (apply ef_mv; exact rfl; exact rfl) | (apply ef_ldp; exact rfl; exact rfl; (exact rfl); exact rfl; (exact rfl); (exact rd_2 rfl rfl)) | (apply ef_box; exact rfl; exact rfl; exact rfl; exact rfl) | (apply ef_new; exact rfl) | (apply ef_st; exact rfl; exact rfl; exact rfl; exact rfl; exact rfl; exact rfl; (exact rfl); exact rfl) | apply ef_nil | apply seqQ.normal | apply ef_block | (apply ef_call; exact rfl; ((repeat (apply XVs.cons; exact rfl)); exact XVs.nil); (with_reducible exact w1 _)))
  refine ef_loopf (α := Nat × List MV) (fun p => p.1 ≤ C.length ∧ p.2 = (wiU C ds p.1).map encCr) (fun p => [(6, I64 (p.1 : Int))]) [(1, .sl (ds.map I64)), (5, .ptr 4 0 0 0), (4, .ptr 1 0 0 0)] (fun p => [⟨0, false, 2, [encN ⟨L, C⟩]⟩, ⟨0, false, 2, [.agg [.lit (.slice none 0 0), .lit (.slice none 0 0)]]⟩, ⟨0, false, 2, L.map encLn⟩, ⟨0, false, 6, p.2⟩, ⟨0, false, 2, [.agg [.arr 2 0 L.length 0, .arr 3 0 C.length 0]]⟩]) (fun p => C.length - p.1) (0, C.map encCr) [6] (fun _ => rfl) (by ((repeat (refine Hold.cons (by exact rfl) ?_)); exact Hold.nil)) (by ((repeat (refine Hold.cons (by exact rfl) ?_)); exact Hold.nil)) rfl rfl ⟨by omega, rfl⟩ (by simp; omega) ?_
  rintro ⟨i, rs⟩ ⟨hi, hrs⟩
  try simp only at hi hrs ⊢
  have hrl : rs.length = C.length := by rw [hrs]; simp [wiU_len]
  by_cases hlt : i < C.length
  · have e1 := at_map I64 ds i (by omega)
    have hat : C[i]? = some C[i] := List.getElem?_eq_getElem hlt
    have e2 : rs[0 + ((i : Nat) : Int).toNat]? = some (encCr C[i]) := by
      rw [hrs, Nat.zero_add, Int.toNat_natCast, List.getElem?_map, wiU_at C ds i i (Nat.le_refl _), hat]; rfl
    have hcd : cAt ds (i : Int) = ds[i] := by unfold cAt; rw [Int.toNat_natCast, List.getD_eq_getElem?_getD, List.getElem?_eq_getElem (by omega)]; rfl
    have HN := Lib.hid (wiU_next (ds := ds) hat)
    rw [hcd] at HN
    generalize C[i] = x at e2 HN
    generalize ds[i] = d at e1 HN
    have hls : ∀ (j i : Nat) (a b c d e f : Int), ltL j (rs.set i (.agg [I64 a, I64 b, I64 c, I64 d, I64 e, I64 f])) = true := fun j i a b c d e f => ltL_set (by rw [hrs]; exact ltL_Cr j _) rfl
    repeat (first | apply ef_seq | (apply ef_mv; exact rfl; exact rfl) | (apply ef_bin; exact rfl; exact rfl; exact rfl; (first | exact cmp_t rfl (by first | exact rfl | (simp only [cmpP]; omega)) | ((with_reducible refine bin_add (wrap_of ?_ ?_)) <;> omega))) | (apply ef_len; exact rfl; exact rfl; (assumption)) | (apply ef_ldr; exact rfl; exact rfl; (exact rfl)) | (apply ef_ldp; exact rfl; exact rfl; (exact rfl); exact rfl; (exact rfl); (exact rfl)) | (apply ef_ias; exact rfl; exact rfl; exact rfl; (omega); assumption; exact rfl) | (apply ef_iaa; exact rfl; exact rfl; exact rfl; (omega); (omega); (exact rfl)) | (apply ef_fap; exact rfl; exact rfl) | (apply ef_st; exact rfl; exact rfl; exact rfl; exact rfl; exact rfl; exact rfl; (assumption); exact rfl) | apply ef_nil | apply seqQ.normal | apply blockQ.normal | apply ef_block | apply ef_skip | (apply ef_condt; exact rfl; (exact (rfl : true = true))))
    (refine loopQ.normal _ _ ⟨(i + 1, rs.set (0 + ((i : Nat) : Int).toNat) (encCr (setD x d))), ⟨hlt, by rw [HN.out, hrs, Nat.zero_add, Int.toNat_natCast, List.map_set]⟩, (by first | (simp only; omega) | omega), ⟨by ((repeat (refine Hold.cons (by exact rfl) ?_)); exact Hold.nil), by ((repeat (refine Hold.cons (by exact rfl) ?_)); exact Hold.nil)⟩, .inr ⟨by ((repeat (refine hdl_cons rfl (by first | rfl | (simp [MV.lt, ltL, ltL_Ln, ltL_Cr, ltL_I, hls, splice, MV.cells])) ?_)); exact hdl_nil), by (simp [hltL, ltL, MV.lt, ltL, ltL_Ln, ltL_Cr, ltL_I, hls, splice, MV.cells])⟩, by exact rfl⟩)
  · obtain rfl : i = C.length := by omega
    repeat (first | apply ef_seq | (apply ef_mv; exact rfl; exact rfl) | (apply ef_bin; exact rfl; exact rfl; exact rfl; (exact cmp_f rfl (by simp only [cmpP]; omega))) | (apply ef_len; exact rfl; exact rfl; (assumption)) | (apply ef_ldp; exact rfl; exact rfl; (exact rfl); exact rfl; (exact rfl); (exact rd_2 rfl rfl)) | (apply ef_st; exact rfl; exact rfl; exact rfl; exact rfl; exact rfl; exact rfl; (exact rfl); exact rfl) | apply ef_nil | apply seqQ.normal | apply loopQ.exit | apply ef_ret | apply ef_exit | apply seqQ.exit | apply blockQ.here | (apply ef_condf; exact rfl; (exact (rfl : false = false))))
    (apply fin_cellz; (· exact rfl); (· exact ⟨1, 0, 0, 0, _, _, by exact rfl, by exact rfl, rfl, rfl, rd_2 rfl rfl⟩))
    exact frzF_agg2 rfl (frzF_arr (o := ⟨0, false, 2, L.map encLn⟩) rfl rfl (by simp [nW]) (ltL_Ln 0 _) rfl) (frzF_arr (o := ⟨0, false, 6, rs⟩) rfl rfl (by simp [nW, wiU_len]) (ltL_Cr 0 _) hrs)
theorem rWith0_z (k : Nat) (l : Ln) (ls : List Ln) (hb : BdN ⟨l :: ls, []⟩) :
    runZ MT (orA (k + 1)) (itA (k + 1)) 4000000 85 [encN ⟨l :: ls, []⟩, .sl []] [] = some (encN ⟨l :: ls, []⟩, []) := by
  have w1 := fun h => Copy_c k ⟨l :: ls, []⟩ hb h
  simp only [cpV, cpH] at w1
  refine runZ_of mf_rWith (by simp) ?_
  simp only [argsL]
  generalize hL : l :: ls = L at *
  repeat (first | apply ef_seq | (apply ef_mv; exact rfl; exact rfl) | (apply ef_ldp; exact rfl; exact rfl; (exact rfl); exact rfl; (exact rfl); (exact rd_2 rfl rfl)) | (apply ef_box; exact rfl; exact rfl; exact rfl; exact rfl) | (apply ef_new; exact rfl) | (apply ef_st; exact rfl; exact rfl; exact rfl; exact rfl; exact rfl; exact rfl; (exact rfl); exact rfl) | apply ef_nil | apply seqQ.normal | apply ef_block | (apply ef_call; exact rfl; ((repeat (apply XVs.cons; exact rfl)); exact XVs.nil); (with_reducible exact w1 _)))
  refine ef_loop (α := Unit) (fun _ => True) (fun _ => [(6, I64 0), (1, .sl []), (4, .ptr 1 0 0 0), (5, .ptr 3 0 0 0)]) (fun _ => [⟨0, false, 2, [encN ⟨L, []⟩]⟩, ⟨0, false, 2, [.agg [.lit (.slice none 0 0), .lit (.slice none 0 0)]]⟩, ⟨0, false, 2, L.map encLn⟩, ⟨0, false, 2, [.agg [.arr 2 0 L.length 0, .sl []]]⟩]) (fun _ => 0) () [6, 1, 4, 5] (fun _ => rfl) rfl trivial (by simp) (by ((repeat (refine Hold.cons (by exact rfl) ?_)); exact Hold.nil)) rfl ?_
  rintro ⟨⟩ -
  repeat (first | apply ef_seq | (apply ef_mv; exact rfl; exact rfl) | (apply ef_bin; exact rfl; exact rfl; exact rfl; (exact rfl)) | (apply ef_len; exact rfl; exact rfl; (exact rfl)) | (apply ef_ldp; exact rfl; exact rfl; (exact rfl); exact rfl; (exact rfl); (exact rd_2 rfl rfl)) | (apply ef_st; exact rfl; exact rfl; exact rfl; exact rfl; exact rfl; exact rfl; (exact rfl); exact rfl) | apply ef_nil | apply seqQ.normal | apply loopQ.exit | apply ef_ret | apply ef_exit | apply seqQ.exit | apply blockQ.here | (apply ef_condf; exact rfl; (exact (rfl : false = false))))
  (apply fin_cellz; (· exact rfl); (· exact ⟨1, 0, 0, 0, _, _, by exact rfl, by exact rfl, rfl, rfl, rd_2 rfl rfl⟩))
  exact frzF_agg2 rfl (frzF_arr (o := ⟨0, false, 2, L.map encLn⟩) rfl rfl (by simp) (ltL_Ln 0 _) rfl) (frzF_lt rfl)
theorem rWithN_z (k : Nat) (n : Nt) (hb : BdN n) (h0 : 0 < n.ls.length) (h2 : n.cs.length ≤ 1000) (ds : List Int) (hd : ds.length = n.cs.length) :
    runZ MT (orA (k + 1)) (itA (k + 1)) 4000000 85 [encN n, .sl (ds.map I64)] [] = some (encN (nW n ds), []) := by
  obtain ⟨ls, cs⟩ := n
  cases ls with
  | nil => simp at h0
  | cons l ls =>
    cases cs with
    | nil =>
      obtain rfl : ds = [] := List.length_eq_zero_iff.1 hd
      exact rWith0_z k l ls hb
    | cons c cs => exact rWith_z k l ls c cs hb h2 ds hd
theorem rWithN_c (k : Nat) (n : Nt) (hb : BdN n) (h0 : 0 < n.ls.length) (h2 : n.cs.length ≤ 1000) (ds : List Int) (hd : ds.length = n.cs.length) (h : MHeap) :
    orA (k + 2) 85 [encN n, .sl (ds.map I64)] h = some (encN (nW n ds), h) := by
  have := callA (k := k + 1) (h := h) (args := [encN n, .sl (ds.map I64)]) (args' := [encN n, .sl (ds.map I64)]) (frzL_lt (by simp [ltL, MV.lt, ltL_Ln, ltL_Cr, ltL_I])) rfl (rWithN_z k n hb h0 h2 ds hd) (by simp [okV, ok1, MV.lt, ltL, ltL_Ln, ltL_Cr, ltL_I]) rfl
  simpa [shV, sh1] using this
end Go.Proofs.YtbdleggmdbihnaaGreat

/- Calls whose answer is frozen: what a copy hands back speaks of no memory. -/
namespace Go.Proofs.YtbdleggmdbihnaaGreat
open Go.RowKit
set_option linter.unusedVariables false
def frzRun (run : List MV → Option (MV × MHeap)) (args : List MV) : Option (MV × MHeap) :=
  match run args with
  | some (m, news) => match frz 0 [] news 8 m with
    | some m' => some (m', [])
    | none => none
  | none => none
theorem post_frz {E : Env} {w : World} {m m' : MV} {news : MHeap} {e : Ending} {w' : World} (hr : HRel E [] w) (hf : frz 0 [] news 8 m = some m') (hP : Post E w m news e w') : Post E w m' [] e w' := by
  obtain ⟨v, E', rfl, h1, h2, h3⟩ := hP
  obtain ⟨S0, hS0⟩ : ∃ S0 : Nat → Prop, S0 = fun b => E'.S b ∨ ∃ id, E'.K id ∧ 0 < E'.cp id ∧ E'.ρ id = b := ⟨_, rfl⟩
  have hK : ∀ id, ¬ E.K id := fun id hk => absurd (hr.klt id hk) (by simp)
  have ht : E'.top = 0 := by rw [h3.top]; exact Nat.le_zero.1 hr.top
  refine ⟨v, { E' with K := fun _ => False, S := S0 }, rfl, ?_, ?_, ?_⟩
  · refine frz_okG (Es := { E' with K := fun _ => False, S := S0 }) h2 (fun m v hv hl => V.env (E := E'.res 0) (E2 := { E' with K := fun _ => False, S := S0 }) ⟨fun b hb => (by rw [hS0]; exact .inl hb : S0 b), fun id hk => absurd hk.2 (by omega), rfl⟩ (hv.res hl)) (fun b hb => ?_) (fun id hk _ _ hc0 => ?_) 8 _ _ _ h1 hf
    · show S0 b
      rw [hS0]; exact .inl hb
    · show S0 (E'.ρ id)
      rw [hS0]; exact .inr ⟨id, hk, hc0, rfl⟩
  · refine ⟨fun _ hk => hk.elim, by rw [show ({ E' with K := fun _ => False, S := S0 } : Env).top = E'.top from rfl, ht]; exact Nat.zero_le _, fun _ hk => hk.elim, fun _ _ hk => hk.elim, fun _ hk => hk.elim, fun b hb => ?_⟩
    have hb : S0 b := hb
    rw [hS0] at hb
    rcases hb with hb | ⟨id, hk, hc, rfl⟩
    · exact h2.slt b hb
    · exact h2.lt hk hc
  · refine ⟨h3.os, h3.tape, h3.output, h3.size, h3.keep, fun b hb => (by rw [hS0]; exact .inl (h3.S b hb) : S0 b), fun id hk => absurd hk (hK id), fun id hk => absurd hk (hK id), fun id hk => absurd hk (hK id), fun id hk => hk.elim, h3.top, fun id hk => hk.elim, h3.yl, fun b hb => ?_⟩
    have hb : S0 b := hb
    rw [hS0] at hb
    rcases hb with hb | ⟨id, hk, hc, rfl⟩
    · exact h3.srcS b hb
    · rcases h3.src id hk hc with ⟨q, _⟩ | q
      · exact absurd q (hK id)
      · exact .inr (.inr q)
noncomputable def orC (L : List Nat) (k : Nat) : Oracle := fun f args h =>
  if L.contains f then frzCall (frzRun (tabZ MT tA (orA k) (itA k) 4000000 f)) args h else orA (k + 1) f args h
theorem orC_ok (L : List Nat) (k : Nat) : SoundO Tryz.prog (orC L k) ∧ AppO (orC L k) := by
  have hz := fun k => orZ_ok (N := 4000000) (P := Tryz.prog) (by kernel_rfl) (tabOf_ok Tryz.prog) tA_ok tI_ok k
  have hI : SoundI Tryz.prog (itA k) := orI_ok (by kernel_rfl) (tabOf_ok Tryz.prog) tI_ok (hz k).1 (hz k).2
  have hrun : ∀ f args' m news, frzRun (tabZ MT tA (orA k) (itA k) 4000000 f) args' = some (m, news) → hasBody Tryz.prog f = true ∧ ∀ E w vs, HRel E [] w → Vs E w args' vs → Calls Tryz.prog f vs.toArray w (Post E w m news) := fun f args' m news he => by
    unfold frzRun at he
    split at he
    case h_2 => cases he
    rename_i m0 n0 h0
    split at he
    case h_2 => cases he
    rename_i m1 h1
    cases he
    obtain ⟨hb, hc⟩ := tabZ_ok (by kernel_rfl) (tabOf_ok Tryz.prog) tA_ok (hz k).1 (hz k).2 hI h0
    exact ⟨hb, fun E w vs hr hv => (hc E w vs hr hv).mono fun e w' hP => post_frz hr h1 hP⟩
  refine ⟨⟨fun f args h m h' he => ?_, tA_ok.2⟩, fun f args h m h' he => ?_⟩
  · unfold orC at he
    split at he
    · have hb : hasBody Tryz.prog f = true := by
        unfold frzCall at he
        split at he
        case h_2 => cases he
        split at he
        case h_2 => cases he
        rename_i hr
        exact (hrun _ _ _ _ hr).1
      exact ⟨hb, fun E w vs hr hv => frzCall_ok (fun args' m news hq => (hrun f args' m news hq).2) he hr hv⟩
    · exact (hz (k + 1)).1.1 f args h m h' he
  · unfold orC at he
    split at he
    · exact frzCall_app he
    · exact (hz (k + 1)).2 f args h m h' he
theorem orC_of {L : List Nat} {k f : Nat} {args : List MV} {h : MHeap} {r : MV × MHeap} (hf : L.contains f = false) (h1 : orA (k + 1) f args h = some r) : orC L k f args h = some r := by
  unfold orC
  rw [hf]
  exact h1
theorem orC_frz {L : List Nat} {k f : Nat} {args args' : List MV} {h : MHeap} {m m' : MV} {news : MHeap} (hf : L.contains f = true) (h1 : args.mapM (frz 0 [] h 8) = some args') (hT : tA f args' [] = none) (h2 : runZ MT (orA k) (itA k) 4000000 f args' [] = some (m, news))
    (h3 : frz 0 [] news 8 m = some m') (h4 : okV (ltL 0 args) m' = true) (h5 : shV h.length m' = m') : orC L k f args h = some (m', h) := by
  unfold orC
  rw [hf]
  have e : tabZ MT tA (orA k) (itA k) 4000000 f args' = some (m, news) := by unfold tabZ; rw [hT]; exact h2
  simp only [if_true, frzCall, h1, frzRun, e, h3, h4, okH, List.all_nil, Bool.and_self, h5, List.append_nil]
end Go.Proofs.YtbdleggmdbihnaaGreat

/- Small helpers about memory. -/
namespace Go.Proofs.YtbdleggmdbihnaaGreat
open Go.RowKit
set_option linter.unusedVariables false
structure Bx (p : Prop) : Prop where
  out : p
end Go.Proofs.YtbdleggmdbihnaaGreat

/- Copies of nets that are frozen; whether a slice has a number. -/
namespace Go.Proofs.YtbdleggmdbihnaaGreat
open Go.RowKit
set_option linter.unusedVariables false
set_option linter.unusedSimpArgs false
theorem frz_cp (ls : List Ln) (cs : List Cr) : frz 0 [] (cpH ls cs) 8 (cpV 0 ls cs) = some (encN ⟨ls, cs⟩) := by
  cases ls with
  | nil =>
    cases cs with
    | nil => rfl
    | cons c cs => exact frzF_agg2 rfl (frzF_lt rfl) (frzF_arr (o := ⟨0, false, 6, (c :: cs).map encCr⟩) rfl rfl (by simp) (ltL_Cr 0 _) rfl)
  | cons l ls =>
    cases cs with
    | nil => exact frzF_agg2 rfl (frzF_arr (o := ⟨0, false, 2, (l :: ls).map encLn⟩) rfl rfl (by simp) (ltL_Ln 0 _) rfl) (frzF_lt rfl)
    | cons c cs => exact frzF_agg2 rfl (frzF_arr (o := ⟨0, false, 2, (l :: ls).map encLn⟩) rfl rfl (by simp) (ltL_Ln 0 _) rfl) (frzF_arr (o := ⟨0, false, 6, (c :: cs).map encCr⟩) rfl rfl (by simp) (ltL_Cr 0 _) rfl)
end Go.Proofs.YtbdleggmdbihnaaGreat

/- Contracts of the document: residuals and the cost; corrections of which a set of lines is moved. -/
namespace Go.Proofs.YtbdleggmdbihnaaGreat
open Go.RowKit
set_option linter.unusedVariables false
set_option linter.unusedSimpArgs false
structure OkB (m : Nat) (c : List Int) : Prop where
  len : c.length = m
  bd : ∀ v, -40000000000 ≤ cAt c v ∧ cAt c v ≤ 40000000000
theorem resL_bd {n : Nt} (ok : OkN n) {c : List Int} (hc : OkB n.ls.length c) (v : Int) : -1000000000000 ≤ cAt (resL n c) v ∧ cAt (resL n c) v ≤ 1000000000000 := by
  unfold cAt resL
  rw [List.getD_eq_getElem?_getD, List.getElem?_map]
  cases hh : n.cs[v.toNat]? with
  | none => simp
  | some x =>
    have hx := (ok.rg x (List.mem_of_getElem? hh)).df
    have h1 := hc.bd x.ln
    have h2 := hc.bd x.ti
    simp only [Option.map_some, Option.getD_some, resI]
    omega
def costL (n : Nt) (c : List Int) : Int := wsU n.cs (resL n c) n.cs.length
theorem mf_rRes : MT.mf 33 = some ⟨38, [(.tmp 4)], (.seq (.reg [⟨none, some 2, .box 2 (.s 0)⟩, ⟨none, some 4, .nil0 1⟩]) (.seq (.reg [⟨none, some 5, .nil0 1⟩]) (.seq (.seq (.reg [⟨none, some 6, .mv (.c (.lit (.int .i64 0)))⟩]) (.block 0 (.loop [6, 2, 5, 1] (.seq (.seq (.reg [⟨none, some 8, .mv (.s 6)⟩, ⟨none, some 9, .fa 1 (.s 2)⟩, ⟨none, some 10, .ld none (.s 9)⟩, ⟨none, some 11, .len (.s 10)⟩, ⟨none, some 12, .bin .lss (.s 8) (.s 11)⟩]) (.cond (.s 12) .skip (.exit 0))) (.seq (.block 1 (.seq (.reg [⟨none, some 15, .fa 1 (.s 2)⟩, ⟨none, some 16, .ld none (.s 15)⟩, ⟨none, some 17, .mv (.s 6)⟩, ⟨none, some 18, .ia 6 (.s 16) (.s 17)⟩, ⟨none, some 19, .ld (some 6) (.s 18)⟩, ⟨none, some 7, .new (.agg [(.lit (.int .i64 0)), (.lit (.int .i64 0)), (.lit (.int .i64 0)), (.lit (.int .i64 0)), (.lit (.int .i64 0)), (.lit (.int .i64 0))])⟩, ⟨none, none, .st 6 (.s 7) (.s 19)⟩]) (.reg [⟨none, some 20, .mv (.s 5)⟩, ⟨none, some 21, .fa 4 (.s 7)⟩, ⟨none, some 22, .ld none (.s 21)⟩, ⟨none, some 23, .mv (.s 1)⟩, ⟨none, some 24, .fa 0 (.s 7)⟩, ⟨none, some 25, .ld none (.s 24)⟩, ⟨none, some 26, .ia 1 (.s 23) (.s 25)⟩, ⟨none, some 27, .ld none (.s 26)⟩, ⟨none, some 28, .bin .sub (.s 22) (.s 27)⟩, ⟨none, some 29, .mv (.s 1)⟩, ⟨none, some 30, .fa 1 (.s 7)⟩, ⟨none, some 31, .ld none (.s 30)⟩, ⟨none, some 32, .ia 1 (.s 29) (.s 31)⟩, ⟨none, some 33, .ld none (.s 32)⟩, ⟨none, some 34, .bin .add (.s 28) (.s 33)⟩, ⟨none, some 35, .bsl (.lit (.int .i64 0)) 1 1 [(0, (.s 34))]⟩, ⟨none, some 36, .app 1 (.s 20) (.s 35)⟩, ⟨none, some 5, .mv (.s 36)⟩]))) (.reg [⟨none, some 13, .mv (.s 6)⟩, ⟨none, some 14, .bin .add (.s 13) (.c (.lit (.int .i64 1)))⟩, ⟨none, some 6, .mv (.s 14)⟩])))))) (.seq (.reg [⟨none, some 37, .mv (.s 5)⟩, ⟨none, some 4, .mv (.s 37)⟩]) .ret))))⟩ := by kernel_rfl
set_option maxHeartbeats 1000000 in
theorem rRes_z (k : Nat) (n : Nt) (ok : OkN n) (c : List Int) (hc : OkB n.ls.length c) :
    runZ MT (orA k) (itA k) 4000000 33 [encN n, .sl (c.map I64)] [] = some (.arr 0 0 n.cs.length 0, [⟨0, decide (n.cs.length = 0), 1, (resL n c).map I64⟩]) := by
  have hs2 : (MV.sl (n.cs.map encCr)).slen = some n.cs.length := by simp [MV.slen]
  have hrl : (resL n c).length = n.cs.length := by simp [resL]
  have c16 := ok.c16
  refine runZ_of mf_rRes (by simp) ?_
  simp only [argsL]
  repeat (first | apply ef_seq | (apply ef_mv; exact rfl; exact rfl) | (apply ef_box; exact rfl; exact rfl; exact rfl; exact rfl) | (apply ef_nil0; exact rfl) | apply ef_nil | apply seqQ.normal | apply ef_block)
  refine ef_loopf (α := Nat) (fun i => i ≤ n.cs.length) (fun i => [(6, I64 (i : Int)), (5, .arr 2 0 i i)]) [(2, .ptr 0 0 0 0), (1, .sl (c.map I64))] (fun i => [⟨0, false, 2, [encN n]⟩, ⟨0, true, 1, []⟩, rowO (resL n c) i]) (fun i => n.cs.length - i) 0 [6, 5] (fun _ => rfl) (by ((repeat (refine Hold.cons (by exact rfl) ?_)); exact Hold.nil)) (by ((repeat (refine Hold.cons (by exact rfl) ?_)); exact Hold.nil)) rfl rfl (by omega) (by simp; omega) ?_
  intro i hi
  try simp only at hi ⊢
  by_cases hlt : i < n.cs.length
  · have e1 := at_map encCr n.cs i hlt
    have hxx := ok.rg n.cs[i] (List.getElem_mem hlt)
    have HT := row_next (xs := resL n c) (i := i) (z := resI c n.cs[i]) (by simp [resL, hlt])
    have hri : resI c n.cs[i] = n.cs[i].df - cAt c n.cs[i].ln + cAt c n.cs[i].ti := rfl
    generalize n.cs[i] = x at e1 hxx HT hri
    have f1 := cAt_at hc.len hxx.l0 hxx.l1
    have f2 := cAt_at hc.len hxx.t0 hxx.t1
    have g1 := hc.bd x.ln
    have g2 := hc.bd x.ti
    have g3 := hxx.df
    have g4 := hxx.l0
    have g5 := hxx.t0
    have g6 := hxx.l1
    have g7 := hxx.t1
    have hcl := hc.len
    generalize cAt c x.ln = u at *
    generalize cAt c x.ti = w at *
    rw [hri] at HT
    repeat (first | apply ef_seq | (apply ef_mv; exact rfl; exact rfl) | (apply ef_bin; exact rfl; exact rfl; exact rfl; (first | exact cmp_t rfl (by first | exact rfl | (simp only [cmpP]; omega)) | ((with_reducible refine bin_add (wrap_of ?_ ?_)) <;> omega) | ((with_reducible refine bin_sub (wrap_of ?_ ?_)) <;> omega))) | (apply ef_len; exact rfl; exact rfl; (assumption)) | (apply ef_ldr; exact rfl; exact rfl; (first | exact rd_6 rfl rfl rfl rfl rfl rfl | exact rfl)) | (apply ef_ldp; exact rfl; exact rfl; (exact rfl); exact rfl; (exact rfl); (exact rfl)) | (apply ef_ias; exact rfl; exact rfl; exact rfl; (omega); assumption; exact rfl) | (apply ef_fap; exact rfl; exact rfl) | (apply ef_new; exact rfl) | (apply ef_bsl; exact rfl; (repeat (apply XVs.cons; exact rfl)); exact XVs.nil; exact rfl) | (apply ef_st; exact rfl; exact rfl; exact rfl; exact rfl; exact rfl; exact rfl; (exact rfl); exact rfl) | apply ef_nil | apply seqQ.normal | apply ef_block | apply ef_skip | (apply ef_condt; exact rfl; (exact (rfl : true = true))))
    (apply ef_app; (· exact rfl); (· exact rfl); (· exact rfl); (· exact rfl); (· exact rfl); (· exact rfl); (· (simp [rowL_len (xs := resL n c) (i := i) (by omega)])); (· exact rfl); (· (simp [rowL_len (xs := resL n c) (i := i) (by omega)]; omega)); (· (simp [MV.sOk, MV.cells, MV.one, Value.oneCell'])); (· exact rfl))
    repeat (first | (apply ef_mv; exact rfl; exact rfl) | (apply ef_bin; exact rfl; exact rfl; exact rfl; (((with_reducible refine bin_add (wrap_of ?_ ?_)) <;> omega))) | apply ef_nil | apply seqQ.normal | apply blockQ.normal)
    (refine loopQ.normal _ _ ⟨i + 1, hlt, (by first | (simp only; omega) | omega), ⟨by ((repeat (refine Hold.cons (by exact rfl) ?_)); exact Hold.nil), by ((repeat (refine Hold.cons (by exact rfl) ?_)); exact Hold.nil)⟩, .inr ⟨by ((repeat (refine hdl_cons rfl (by first | rfl | (simp [MV.lt, ltL, ltL_Ln, ltL_Cr, ltL_I, ltL_row, ltL_app2])) ?_)); exact hdl_nil), by (simp [hltL, ltL, MV.lt, ltL, ltL_Ln, ltL_Cr, ltL_I, ltL_row, ltL_app2])⟩, by (show _ = ([⟨0, false, 2, [encN n]⟩, ⟨0, true, 1, []⟩, (⟨i + 1, decide (i + 1 = 0), 1, rowL (resL n c) (i + 1)⟩ : MObj)] : MHeap); rw [HT]; exact rfl)⟩)
  · obtain rfl : i = n.cs.length := by omega
    have hra := row_all (resL n c)
    rw [hrl] at hra
    repeat (first | apply ef_seq | (apply ef_mv; exact rfl; exact rfl) | (apply ef_bin; exact rfl; exact rfl; exact rfl; (exact cmp_f rfl (by simp only [cmpP]; omega))) | (apply ef_len; exact rfl; exact rfl; (assumption)) | (apply ef_ldp; exact rfl; exact rfl; (exact rfl); exact rfl; (exact rfl); (exact rfl)) | (apply ef_fap; exact rfl; exact rfl) | apply ef_nil | apply seqQ.normal | apply loopQ.exit | apply ef_ret | apply ef_exit | apply seqQ.exit | apply blockQ.here | (apply ef_condf; exact rfl; (exact (rfl : false = false))))
    (apply fin_arr; (· exact rfl); (· exact rfl); (· exact rfl); (· exact rfl); (· (show 0 + n.cs.length ≤ (rowL (resL n c) n.cs.length).length; rw [hra]; simp [hrl])); (· (exact ltL_row 0 _ _)); (· (show ((rowL (resL n c) n.cs.length).drop 0).take n.cs.length = _; rw [hra, List.drop_zero, List.take_of_length_le (by simp [hrl])])); (· exact rfl); (· exact rfl); (· rfl))
theorem rRes_c (k : Nat) (n : Nt) (ok : OkN n) (c : List Int) (hc : OkB n.ls.length c) (h : MHeap) {v : MV} (hv : frz 0 [] h 8 v = some (.sl (c.map I64))) :
    orA (k + 1) 33 [encN n, v] h = some (.arr h.length 0 n.cs.length 0, h ++ [⟨0, decide (n.cs.length = 0), 1, (resL n c).map I64⟩]) := by
  have := callA (k := k) (h := h) (args := [encN n, v]) (args' := [encN n, .sl (c.map I64)]) (by simp [List.mapM_cons, hv, frz_lt (ltL_N n 0)]) rfl (rRes_z k n ok c hc) rfl (by simp [okH, ltL_I, pureL_I])
  simpa [shV, sh1] using this
theorem mf_rCost : MT.mf 34 = some ⟨10, [(.tmp 4)], (.seq (.reg [⟨none, some 2, .box 2 (.s 0)⟩, ⟨none, some 4, .mv (.c (.lit (.int .i64 0)))⟩]) (.seq (.reg [⟨none, some 5, .ld (some 2) (.s 2)⟩, ⟨none, some 6, .ld (some 2) (.s 2)⟩, ⟨none, some 7, .mv (.s 1)⟩, ⟨none, some 8, .call 33 [.s 6, .s 7]⟩, ⟨none, some 9, .call 86 [.s 5, .s 8]⟩, ⟨none, some 4, .mv (.s 9)⟩]) .ret))⟩ := by kernel_rfl
theorem rCost_c (k : Nat) (n : Nt) (ok : OkN n) (c : List Int) (hc : OkB n.ls.length c) (h : MHeap) {v : MV} (hv : frz 0 [] h 8 v = some (.sl (c.map I64))) :
    orA (k + 3) 34 [encN n, v] h = some (I64 (costL n c), h) := by
  refine callL (args' := [encN n, .sl (c.map I64)]) (by simp [List.mapM_cons, hv, frz_lt (ltL_N n 0)]) rfl (runZ_of mf_rCost (by simp) ?_)
  simp only [argsL]
  have hrl : (resL n c).length = n.cs.length := by simp [resL]
  have w1 := fun h => rRes_c (k + 1) n ok c hc h (v := .sl (c.map I64)) (frz_sl (ltL_I 0 c))
  have w2 := fun h v hv => SumOf_c k n ok (resL n c) hrl (resL_bd ok hc) h (v := v) hv
  unfold costL
  generalize wsU n.cs (resL n c) n.cs.length = ws at *
  repeat (first | apply ef_seq | (apply ef_mv; exact rfl; exact rfl) | (apply ef_ldp; exact rfl; exact rfl; (exact rfl); exact rfl; (exact rfl); (exact rd_2 rfl rfl)) | (apply ef_box; exact rfl; exact rfl; exact rfl; exact rfl) | apply ef_nil | apply seqQ.normal | (apply ef_call; exact rfl; ((repeat (apply XVs.cons; exact rfl)); exact XVs.nil); (with_reducible exact w1 _)))
  (apply ef_call; (· exact rfl); (· ((repeat (apply XVs.cons; exact rfl)); exact XVs.nil)); · exact w2 _ _ (frz_row (o := ⟨0, decide (n.cs.length = 0), 1, (resL n c).map I64⟩) rfl rfl (by simp [hrl]) (ltL_I 0 _) rfl))
  repeat (first | (apply ef_mv; exact rfl; exact rfl) | apply ef_nil | apply seqQ.normal | apply ef_ret)
  (refine fin1 rfl (by exact rfl) rfl ?_)
  rfl
end Go.Proofs.YtbdleggmdbihnaaGreat

/- A slice of the call's own is given up. -/
namespace Go.Proofs.YtbdleggmdbihnaaGreat
open Go.RowKit
set_option linter.unusedVariables false
theorem giveV_arr {lk : Nat → Bool} {h : MHeap} {id k sz : Nat} {nl : Bool} {es : List MV} (ho : h[id]? = some ⟨0, nl, sz, es⟩) (hk : k = es.length) (hl : ltL 0 es = true) (h1 : lk id = false) : giveV lk h (.arr id 0 k 0) = some (.sl es, h.set id ⟨1, nl, sz, []⟩) := by
  have hids : MV.ids h 6 (.arr id 0 k 0) = [id] := by
    have e2 : MV.ids h 6 (.arr id 0 k 0) = id :: (match h[id]? with | some o => o.es.flatMap (MV.ids h 5) | none => []) := rfl
    rw [ho] at e2
    dsimp only at e2
    rw [idsL_lt0 hl] at e2
    exact e2
  have hmap : (h.mapIdx fun i p => if ([id] : List Nat).contains i then (⟨p.g + 1, p.nl, p.sz, []⟩ : MObj) else p) = h.set id ⟨1, nl, sz, []⟩ := by
    apply List.ext_getElem?
    intro j
    rw [List.getElem?_mapIdx, List.getElem?_set]
    by_cases e : j = id
    · subst e
      rw [if_pos rfl, if_pos (List.getElem?_eq_some_iff.1 ho).1, ho]
      simp
    · rw [if_neg (by omega)]
      cases h[j]? <;> simp [e]
  have himp : ((List.range h.length).filter fun i => !([id] : List Nat).contains i).contains id = false := by
    rw [Bool.eq_false_iff]
    intro hc
    simp only [List.contains_iff_mem, List.mem_filter] at hc
    simpa using hc.2
  have hfr : frz 0 ((List.range h.length).filter fun i => !([id] : List Nat).contains i) h 8 (.arr id 0 k 0) = some (.sl es) := by
    have h3 : es.take k = es := List.take_of_length_le (by omega)
    simp only [frz, MV.lt, Nat.not_lt_zero, decide_false, Bool.false_eq_true, if_false, himp, ho]
    simp only [hl, if_true, List.drop_zero, h3]
    simp; omega
  unfold giveV
  rw [hids, hfr]
  simp only [hmap]
  simp [h1]
end Go.Proofs.YtbdleggmdbihnaaGreat
