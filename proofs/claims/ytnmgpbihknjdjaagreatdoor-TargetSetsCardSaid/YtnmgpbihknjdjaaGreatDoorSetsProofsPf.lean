/- The row of TargetSets. -/
import Derived.Laws.Bits64b
import Derived.Test.YtnmgpbihknjdjaaGreatDoorCards
import Derived.Test.YtnmgpbihknjdjaaGreatDoorTie
import Derived.LaidMore
import Derived.LaidOnce
import Derived.SevenTiedAt
import Derived.Stop.Joined
import Derived.Test.YtnmgpbihknjdjaaGreatDoorProg
import Derived.Test.YtnmgpbihknjdjaaGreatDoorChecked
import Derived.Test.YtnmgpbihknjdjaaGreatDoorRows
import Derived.Test.YtnmgpbihknjdjaaGreatDoorSetsProofsPe
set_option linter.unusedVariables false
set_option linter.unusedSimpArgs false
/- Contracts: names, as the document says. -/
namespace Go.Proofs.YtnmgpbihknjdjaaGreatDoor
open Go.RowKit
set_option linter.unusedVariables false
theorem mf_bIsName : MT.mf 110 = some ⟨55, [(.tmp 2)], (.seq (.reg [gO 2 (.mv cF)]) (.seq (.seq (.reg [gO 6 (.mv (.s 0)), gO 7 (.sln (.s 6)), gO 8 (.bin .lss (.s 7) (cI 1)), gO 9 (.mv (.s 8)), ⟨some (9, false), some 10, .mv (.s 0)⟩, ⟨some (9, false), some 11, .sln (.s 10)⟩, ⟨some (9, false), some 12, .bin .gtr (.s 11) (cI 12)⟩, gO 13 (.pick (.s 9) cT (.s 12))]) (.cond (.s 13) (.seq (.reg [gO 2 (.mv cF)]) .ret) .skip)) (.seq (.seq (.reg [gO 3 (.mv (cI 0))]) (.block 0 (.loop [3, 0] (.seq (.seq (.reg [gO 14 (.mv (.s 3)), gO 15 (.mv (.s 0)), gO 16 (.sln (.s 15)), gO 17 (.bin .lss (.s 14) (.s 16))]) (.cond (.s 17) .skip (.exit 0))) (.seq (.block 1 (.seq (.reg [gO 20 (.mv (.s 0)), gO 21 (.mv (.s 3)), gO 22 (.sx (.s 20) (.s 21)), gO 4 (.mv (.s 22))]) (.seq (.reg [gO 23 (.mv (.s 4)), gO 24 (.bin .geq (.s 23) (.c (.lit (.int .u8 97)))), gO 25 (.mv (.s 24)), ⟨some (25, true), some 26, .mv (.s 4)⟩, ⟨some (25, true), some 27, .bin .leq (.s 26) (.c (.lit (.int .u8 122)))⟩, gO 28 (.pick (.s 25) (.s 27) cF), gO 29 (.mv (.s 28)), ⟨some (29, false), some 30, .mv (.s 4)⟩, ⟨some (29, false), some 31, .bin .geq (.s 30) (.c (.lit (.int .u8 65)))⟩, ⟨some (29, false), some 32, .mv (.s 31)⟩, ⟨some (32, true), some 33, .mv (.s 4)⟩, ⟨some (32, true), some 34, .bin .leq (.s 33) (.c (.lit (.int .u8 90)))⟩, ⟨some (29, false), some 35, .pick (.s 32) (.s 34) cF⟩, gO 36 (.pick (.s 29) cT (.s 35)), gO 5 (.mv (.s 36))]) (.seq (.reg [gO 37 (.mv (.s 5)), gO 38 (.un .not (.s 37)), gO 39 (.mv (.s 38)), ⟨some (39, true), some 40, .mv (.s 3)⟩, ⟨some (39, true), some 41, .bin .eql (.s 40) (cI 0)⟩, ⟨some (39, true), some 42, .mv (.s 41)⟩, ⟨some (42, false), some 43, .mv (.s 4)⟩, ⟨some (42, false), some 44, .bin .neq (.s 43) (.c (.lit (.int .u8 45)))⟩, ⟨some (42, false), some 45, .mv (.s 44)⟩, ⟨some (45, true), some 46, .mv (.s 4)⟩, ⟨some (45, true), some 47, .bin .lss (.s 46) (.c (.lit (.int .u8 48)))⟩, ⟨some (45, true), some 48, .mv (.s 47)⟩, ⟨some (48, false), some 49, .mv (.s 4)⟩, ⟨some (48, false), some 50, .bin .gtr (.s 49) (.c (.lit (.int .u8 57)))⟩, ⟨some (45, true), some 51, .pick (.s 48) cT (.s 50)⟩, ⟨some (42, false), some 52, .pick (.s 45) (.s 51) cF⟩, ⟨some (39, true), some 53, .pick (.s 42) cT (.s 52)⟩, gO 54 (.pick (.s 39) (.s 53) cF)]) (.cond (.s 54) (.seq (.reg [gO 2 (.mv cF)]) .ret) .skip))))) (.reg [gO 18 (.mv (.s 3)), gO 19 (.bin .add (.s 18) (cI 1)), gO 3 (.mv (.s 19))])))))) (.seq (.reg [gO 2 (.mv cT)]) .ret))))⟩ := by kernel_rfl
set_option maxHeartbeats 1000000 in
theorem bIsName_z (k : Nat) (b : ByteArray) (hx : b.size ≤ 1000) : runZ MT (orA k) (itA k) 4000000 110 [.lit (.string b)] [] = some (Bo (nameUB b), []) := by
 refine runZ_of mf_bIsName (by simp) ?_
 simp only [argsL]
 have hbs : b.size = b.data.toList.length := Array.length_toList.symm
 have hN := Lib.hid (show nameUB b = (charsUB 0 b.data.toList && inB b.size 1 12) from rfl)
 by_cases h1 : b.size < 1
 ·repeat (first | apply ef_seq | (apply ef_mv; exact rfl; exact rfl) | (apply ef_bin; (iterate 3 exact rfl); (exact cmp_t rfl (by first | exact rfl | (simp only [cmpP]; omega)))) | (apply ef_gn; exact rfl; (exact (rfl : true = true)); exact rfl) | (apply ef_pick; (iterate 3 exact rfl)) | (apply ef_sln; exact rfl; exact rfl) | apply ef_nil | apply seqQ.normal | apply ef_ret | apply seqQ.ret | (apply ef_condt; exact rfl; (exact (rfl : true = true))))
  (refine fin1 rfl (by exact rfl) rfl ?_)
  rw [hN.out, show inB b.size 1 12 = false by simp [inB]; omega, Bool.and_false]
 by_cases h2 : 12 < b.size
 ·repeat (first | apply ef_seq | (apply ef_mv; exact rfl; exact rfl) | (apply ef_bin; (iterate 3 exact rfl); (first | exact cmp_t rfl (by first | exact rfl | (simp only [cmpP]; omega)) | exact cmp_f rfl (by simp only [cmpP]; omega))) | (apply ef_gy; exact rfl; (exact (rfl : false = false))) | (apply ef_pick; (iterate 3 exact rfl)) | (apply ef_sln; exact rfl; exact rfl) | apply ef_nil | apply seqQ.normal | apply ef_ret | apply seqQ.ret | (apply ef_condt; exact rfl; (exact (rfl : true = true))))
  (refine fin1 rfl (by exact rfl) rfl ?_)
  rw [hN.out, show inB b.size 1 12 = false by simp [inB]; omega, Bool.and_false]
 have hN2 := Lib.hid (show nameUB b = charsUB 0 b.data.toList by rw [hN.out, show inB b.size 1 12 = true by rw [inB_iff]; omega, Bool.and_true])
 clear hN
 repeat (first | apply ef_seq | (apply ef_mv; exact rfl; exact rfl) | (apply ef_bin; (iterate 3 exact rfl); (exact cmp_f rfl (by simp only [cmpP]; omega))) | (apply ef_gy; exact rfl; (exact (rfl : false = false))) | (apply ef_pick; (iterate 3 exact rfl)) | (apply ef_sln; exact rfl; exact rfl) | apply ef_nil | apply seqQ.normal | apply ef_block | apply ef_skip | (apply ef_condf; exact rfl; (exact (rfl : false = false))))
 refine ef_loopf (α := Nat) (fun i => i ≤ b.size ∧ charsUB 0 b.data.toList = charsUB i (b.data.toList.drop i)) (fun i => [(3, I64 (i : Int))]) [(0, .lit (.string b))] (fun _ => []) (fun i => b.size - i) 0 [3] (fun _ => rfl) (by ((repeat (refine Hold.cons (by exact rfl) ?_)); exact Hold.nil)) (by ((repeat (refine Hold.cons (by exact rfl) ?_)); exact Hold.nil)) rfl rfl ⟨by omega, rfl⟩ (by simp; omega) ?_
 rintro i ⟨hi, hz⟩
 try simp only at hi hz ⊢
 by_cases hlt : i < b.size
 ·have hlt' : i < b.data.toList.length := by omega
  have e1 : b.data.toList[((i : Nat) : Int).toNat]? = some b.data.toList[i] := by
   rw [Int.toNat_natCast, List.getElem?_eq_getElem hlt']
  have HD := Lib.hid (drop_at b.data.toList i hlt')
  have HZ := Lib.hid hz
  clear hz
  generalize b.data.toList[i] = c at e1 HD
  have hcl := c.toNat_lt
  have HC : ∀ t, letUB c = t → charsUB 0 b.data.toList = ((t || (i != 0 && (c.toNat == 45 || inB c.toNat 48 57))) && charsUB (i + 1) (b.data.toList.drop (i + 1))) := fun t ht => by
   rw [HZ.out, HD.out, charsUB, chUB_of ht]
  have HL : letUB c = ((decide (97 ≤ c.toNat) && decide (c.toNat ≤ 122)) || (decide (65 ≤ c.toNat) && decide (c.toNat ≤ 90))) := rfl
  replace HC := Lib.hid HC
  by_cases a1 : 97 ≤ c.toNat
  ·by_cases a2 : c.toNat ≤ 122
   ·replace HL := Lib.hid (show letUB c = true by rw [HL]; simp [a1, a2])
    repeat (first | apply ef_seq | (apply ef_mv; exact rfl; exact rfl) | (apply ef_bin; (iterate 3 exact rfl); (first | exact cmp_t rfl (by first | exact rfl | (simp only [cmpP]; omega)) | ((with_reducible refine bin_add (wrap_of ?_ ?_)) <;> omega))) | (apply ef_gy; exact rfl; (exact (rfl : true = true))) | (apply ef_gn; exact rfl; (first | exact (rfl : true = true) | exact (rfl : false = false)); exact rfl) | (apply ef_gu; exact rfl; exact rfl) | (apply ef_pick; (iterate 3 exact rfl)) | (apply ef_notT; exact rfl; exact rfl) | (apply ef_sx; (iterate 3 exact rfl); omega; (assumption)) | (apply ef_sln; exact rfl; exact rfl) | apply ef_nil | apply seqQ.normal | apply blockQ.normal | apply ef_block | apply ef_skip | (apply ef_condt; exact rfl; (exact (rfl : true = true))) | (apply ef_condf; exact rfl; (exact (rfl : false = false))))
    (refine loopQ.normal _ _ ⟨i + 1, ⟨hlt, by rw [HC.out _ HL.out]; simp⟩, (by first | (simp only; omega) | omega), ⟨by ((repeat (refine Hold.cons (by exact rfl) ?_)); exact Hold.nil), by ((repeat (refine Hold.cons (by exact rfl) ?_)); exact Hold.nil)⟩, .inl (Nat.le_refl _), (by first | exact List.take_length | exact rfl | exact takeF rfl rfl)⟩)
   ·replace HL := Lib.hid (show letUB c = false by rw [HL]; simp [a2]; omega)
    have HN := Lib.hid (show charsUB 0 b.data.toList = false by
     rw [HC.out _ HL.out, show (c.toNat == 45) = false by simp; omega, show inB c.toNat 48 57 = false by simp [inB]; omega]; simp)
    by_cases h0 : i = 0
    ·repeat (first | apply ef_seq | (apply ef_mv; exact rfl; exact rfl) | (apply ef_bin; (iterate 3 exact rfl); (first | exact cmp_t rfl (by first | exact rfl | (simp only [cmpP]; omega)) | exact cmp_f rfl (by simp only [cmpP]; omega))) | (apply ef_gy; exact rfl; (first | exact (rfl : true = true) | exact (rfl : false = false))) | (apply ef_gn; exact rfl; (exact (rfl : true = true)); exact rfl) | (apply ef_gu; exact rfl; exact rfl) | (apply ef_pick; (iterate 3 exact rfl)) | (apply ef_notF; exact rfl; exact rfl) | (apply ef_sx; (iterate 3 exact rfl); omega; (assumption)) | (apply ef_sln; exact rfl; exact rfl) | apply ef_nil | apply seqQ.normal | apply loopQ.ret | apply ef_ret | apply seqQ.ret | apply blockQ.ret | apply ef_block | apply ef_skip | (apply ef_condt; exact rfl; (exact (rfl : true = true))))
     (refine fin1 rfl (by exact rfl) rfl ?_)
     rw [hN2.out, HN.out]
    ·repeat (first | apply ef_seq | (apply ef_mv; exact rfl; exact rfl) | (apply ef_bin; (iterate 3 exact rfl); (first | exact cmp_t rfl (by first | exact rfl | (simp only [cmpP]; omega)) | exact cmp_f rfl (by simp only [cmpP]; omega))) | (apply ef_gy; exact rfl; (first | exact (rfl : true = true) | exact (rfl : false = false))) | (apply ef_pick; (iterate 3 exact rfl)) | (apply ef_notF; exact rfl; exact rfl) | (apply ef_sx; (iterate 3 exact rfl); omega; (assumption)) | (apply ef_sln; exact rfl; exact rfl) | apply ef_nil | apply seqQ.normal | apply loopQ.ret | apply ef_ret | apply seqQ.ret | apply blockQ.ret | apply ef_block | apply ef_skip | (apply ef_condt; exact rfl; (exact (rfl : true = true))))
     (refine fin1 rfl (by exact rfl) rfl ?_)
     rw [hN2.out, HN.out]
  ·by_cases a3 : 65 ≤ c.toNat
   ·by_cases a4 : c.toNat ≤ 90
    ·replace HL := Lib.hid (show letUB c = true by rw [HL]; simp [a3, a4])
     repeat (first | apply ef_seq | (apply ef_mv; exact rfl; exact rfl) | (apply ef_bin; (iterate 3 exact rfl); (first | exact cmp_t rfl (by first | exact rfl | (simp only [cmpP]; omega)) | exact cmp_f rfl (by simp only [cmpP]; omega) | ((with_reducible refine bin_add (wrap_of ?_ ?_)) <;> omega))) | (apply ef_gy; exact rfl; (first | exact (rfl : true = true) | exact (rfl : false = false))) | (apply ef_gn; exact rfl; (exact (rfl : false = false)); exact rfl) | (apply ef_gu; exact rfl; exact rfl) | (apply ef_pick; (iterate 3 exact rfl)) | (apply ef_notT; exact rfl; exact rfl) | (apply ef_sx; (iterate 3 exact rfl); omega; (assumption)) | (apply ef_sln; exact rfl; exact rfl) | apply ef_nil | apply seqQ.normal | apply blockQ.normal | apply ef_block | apply ef_skip | (apply ef_condt; exact rfl; (exact (rfl : true = true))) | (apply ef_condf; exact rfl; (exact (rfl : false = false))))
     (refine loopQ.normal _ _ ⟨i + 1, ⟨hlt, by rw [HC.out _ HL.out]; simp⟩, (by first | (simp only; omega) | omega), ⟨by ((repeat (refine Hold.cons (by exact rfl) ?_)); exact Hold.nil), by ((repeat (refine Hold.cons (by exact rfl) ?_)); exact Hold.nil)⟩, .inl (Nat.le_refl _), (by first | exact List.take_length | exact rfl | exact takeF rfl rfl)⟩)
    ·replace HL := Lib.hid (show letUB c = false by rw [HL]; simp [a1, a4])
     have HN := Lib.hid (show charsUB 0 b.data.toList = false by
      rw [HC.out _ HL.out, show (c.toNat == 45) = false by simp; omega, show inB c.toNat 48 57 = false by simp [inB]; omega]; simp)
     by_cases h0 : i = 0
     ·repeat (first | apply ef_seq | (apply ef_mv; exact rfl; exact rfl) | (apply ef_bin; (iterate 3 exact rfl); (first | exact cmp_t rfl (by first | exact rfl | (simp only [cmpP]; omega)) | exact cmp_f rfl (by simp only [cmpP]; omega))) | (apply ef_gy; exact rfl; (first | exact (rfl : true = true) | exact (rfl : false = false))) | (apply ef_gn; exact rfl; (first | exact (rfl : true = true) | exact (rfl : false = false)); exact rfl) | (apply ef_gu; exact rfl; exact rfl) | (apply ef_pick; (iterate 3 exact rfl)) | (apply ef_notF; exact rfl; exact rfl) | (apply ef_sx; (iterate 3 exact rfl); omega; (assumption)) | (apply ef_sln; exact rfl; exact rfl) | apply ef_nil | apply seqQ.normal | apply loopQ.ret | apply ef_ret | apply seqQ.ret | apply blockQ.ret | apply ef_block | apply ef_skip | (apply ef_condt; exact rfl; (exact (rfl : true = true))))
      (refine fin1 rfl (by exact rfl) rfl ?_)
      rw [hN2.out, HN.out]
     ·repeat (first | apply ef_seq | (apply ef_mv; exact rfl; exact rfl) | (apply ef_bin; (iterate 3 exact rfl); (first | exact cmp_t rfl (by first | exact rfl | (simp only [cmpP]; omega)) | exact cmp_f rfl (by simp only [cmpP]; omega))) | (apply ef_gy; exact rfl; (first | exact (rfl : true = true) | exact (rfl : false = false))) | (apply ef_gn; exact rfl; (exact (rfl : false = false)); exact rfl) | (apply ef_pick; (iterate 3 exact rfl)) | (apply ef_notF; exact rfl; exact rfl) | (apply ef_sx; (iterate 3 exact rfl); omega; (assumption)) | (apply ef_sln; exact rfl; exact rfl) | apply ef_nil | apply seqQ.normal | apply loopQ.ret | apply ef_ret | apply seqQ.ret | apply blockQ.ret | apply ef_block | apply ef_skip | (apply ef_condt; exact rfl; (exact (rfl : true = true))))
      (refine fin1 rfl (by exact rfl) rfl ?_)
      rw [hN2.out, HN.out]
   ·replace HL := Lib.hid (show letUB c = false by rw [HL]; simp [a1, a3])
    by_cases h0 : i = 0
    ·repeat (first | apply ef_seq | (apply ef_mv; exact rfl; exact rfl) | (apply ef_bin; (iterate 3 exact rfl); (first | exact cmp_t rfl (by first | exact rfl | (simp only [cmpP]; omega)) | exact cmp_f rfl (by simp only [cmpP]; omega))) | (apply ef_gy; exact rfl; (first | exact (rfl : true = true) | exact (rfl : false = false))) | (apply ef_gn; exact rfl; (first | exact (rfl : true = true) | exact (rfl : false = false)); exact rfl) | (apply ef_gu; exact rfl; exact rfl) | (apply ef_pick; (iterate 3 exact rfl)) | (apply ef_notF; exact rfl; exact rfl) | (apply ef_sx; (iterate 3 exact rfl); omega; (assumption)) | (apply ef_sln; exact rfl; exact rfl) | apply ef_nil | apply seqQ.normal | apply loopQ.ret | apply ef_ret | apply seqQ.ret | apply blockQ.ret | apply ef_block | apply ef_skip | (apply ef_condt; exact rfl; (exact (rfl : true = true))))
     (refine fin1 rfl (by exact rfl) rfl ?_)
     rw [hN2.out, HC.out _ HL.out]; simp [h0]
    ·by_cases b1 : c.toNat = 45
     ·repeat (first | apply ef_seq | (apply ef_mv; exact rfl; exact rfl) | (apply ef_bin; (iterate 3 exact rfl); (first | exact cmp_t rfl (by first | exact rfl | (simp only [cmpP]; omega)) | exact cmp_f rfl (by simp only [cmpP]; omega) | ((with_reducible refine bin_add (wrap_of ?_ ?_)) <;> omega))) | (apply ef_gy; exact rfl; (first | exact (rfl : true = true) | exact (rfl : false = false))) | (apply ef_gn; exact rfl; (exact (rfl : false = false)); exact rfl) | (apply ef_gu; exact rfl; exact rfl) | (apply ef_pick; (iterate 3 exact rfl)) | (apply ef_notF; exact rfl; exact rfl) | (apply ef_sx; (iterate 3 exact rfl); omega; (assumption)) | (apply ef_sln; exact rfl; exact rfl) | apply ef_nil | apply seqQ.normal | apply blockQ.normal | apply ef_block | apply ef_skip | (apply ef_condt; exact rfl; (exact (rfl : true = true))) | (apply ef_condf; exact rfl; (exact (rfl : false = false))))
      (refine loopQ.normal _ _ ⟨i + 1, ⟨hlt, by rw [HC.out _ HL.out]; simp [h0, b1]⟩, (by first | (simp only; omega) | omega), ⟨by ((repeat (refine Hold.cons (by exact rfl) ?_)); exact Hold.nil), by ((repeat (refine Hold.cons (by exact rfl) ?_)); exact Hold.nil)⟩, .inl (Nat.le_refl _), (by first | exact List.take_length | exact rfl | exact takeF rfl rfl)⟩)
     ·by_cases b2 : c.toNat < 48
      ·repeat (first | apply ef_seq | (apply ef_mv; exact rfl; exact rfl) | (apply ef_bin; (iterate 3 exact rfl); (first | exact cmp_t rfl (by first | exact rfl | (simp only [cmpP]; omega)) | exact cmp_f rfl (by simp only [cmpP]; omega))) | (apply ef_gy; exact rfl; (first | exact (rfl : true = true) | exact (rfl : false = false))) | (apply ef_gn; exact rfl; (first | exact (rfl : true = true) | exact (rfl : false = false)); exact rfl) | (apply ef_pick; (iterate 3 exact rfl)) | (apply ef_notF; exact rfl; exact rfl) | (apply ef_sx; (iterate 3 exact rfl); omega; (assumption)) | (apply ef_sln; exact rfl; exact rfl) | apply ef_nil | apply seqQ.normal | apply loopQ.ret | apply ef_ret | apply seqQ.ret | apply blockQ.ret | apply ef_block | apply ef_skip | (apply ef_condt; exact rfl; (exact (rfl : true = true))))
       (refine fin1 rfl (by exact rfl) rfl ?_)
       rw [hN2.out, HC.out _ HL.out, show (c.toNat == 45) = false by simp; omega, show inB c.toNat 48 57 = false by simp [inB]; omega]; simp
      ·by_cases b3 : 57 < c.toNat
       ·repeat (first | apply ef_seq | (apply ef_mv; exact rfl; exact rfl) | (apply ef_bin; (iterate 3 exact rfl); (first | exact cmp_t rfl (by first | exact rfl | (simp only [cmpP]; omega)) | exact cmp_f rfl (by simp only [cmpP]; omega))) | (apply ef_gy; exact rfl; (first | exact (rfl : true = true) | exact (rfl : false = false))) | (apply ef_gn; exact rfl; (exact (rfl : false = false)); exact rfl) | (apply ef_pick; (iterate 3 exact rfl)) | (apply ef_notF; exact rfl; exact rfl) | (apply ef_sx; (iterate 3 exact rfl); omega; (assumption)) | (apply ef_sln; exact rfl; exact rfl) | apply ef_nil | apply seqQ.normal | apply loopQ.ret | apply ef_ret | apply seqQ.ret | apply blockQ.ret | apply ef_block | apply ef_skip | (apply ef_condt; exact rfl; (exact (rfl : true = true))))
        (refine fin1 rfl (by exact rfl) rfl ?_)
        rw [hN2.out, HC.out _ HL.out, show (c.toNat == 45) = false by simp; omega, show inB c.toNat 48 57 = false by simp [inB]; omega]; simp
       ·repeat (first | apply ef_seq | (apply ef_mv; exact rfl; exact rfl) | (apply ef_bin; (iterate 3 exact rfl); (first | exact cmp_t rfl (by first | exact rfl | (simp only [cmpP]; omega)) | exact cmp_f rfl (by simp only [cmpP]; omega) | ((with_reducible refine bin_add (wrap_of ?_ ?_)) <;> omega))) | (apply ef_gy; exact rfl; (first | exact (rfl : true = true) | exact (rfl : false = false))) | (apply ef_gn; exact rfl; (exact (rfl : false = false)); exact rfl) | (apply ef_pick; (iterate 3 exact rfl)) | (apply ef_notF; exact rfl; exact rfl) | (apply ef_sx; (iterate 3 exact rfl); omega; (assumption)) | (apply ef_sln; exact rfl; exact rfl) | apply ef_nil | apply seqQ.normal | apply blockQ.normal | apply ef_block | apply ef_skip | (apply ef_condt; exact rfl; (exact (rfl : true = true))) | (apply ef_condf; exact rfl; (exact (rfl : false = false))))
        (refine loopQ.normal _ _ ⟨i + 1, ⟨hlt, by rw [HC.out _ HL.out, show inB c.toNat 48 57 = true by rw [inB_iff]; omega]; simp [h0]⟩, (by first | (simp only; omega) | omega), ⟨by ((repeat (refine Hold.cons (by exact rfl) ?_)); exact Hold.nil), by ((repeat (refine Hold.cons (by exact rfl) ?_)); exact Hold.nil)⟩, .inl (Nat.le_refl _), (by first | exact List.take_length | exact rfl | exact takeF rfl rfl)⟩)
 ·rw [List.drop_eq_nil_of_le (by omega)] at hz
  have hz := Lib.hid hz
  repeat (first | apply ef_seq | (apply ef_mv; exact rfl; exact rfl) | (apply ef_bin; (iterate 3 exact rfl); (exact cmp_f rfl (by simp only [cmpP]; omega))) | (apply ef_sln; exact rfl; exact rfl) | apply ef_nil | apply seqQ.normal | apply loopQ.exit | apply ef_ret | apply ef_exit | apply seqQ.exit | apply blockQ.here | (apply ef_condf; exact rfl; (exact (rfl : false = false))))
  (refine fin1 rfl (by exact rfl) rfl ?_)
  rw [hN2.out, hz.out]; rfl
theorem bIsName_c (k : Nat) (b : ByteArray) (h : MHeap) (hx : b.size ≤ 1000) {t : Bool} (ht : nameUB b = t) : orA (k + 1) 110 [.lit (.string b)] h = some (Bo t, h) := by
 subst ht
 exact callL (args' := [.lit (.string b)]) (frz_lits [.string b]) rfl (bIsName_z k b hx)
end Go.Proofs.YtnmgpbihknjdjaaGreatDoor

/- The first item that is not valid (plain). -/
namespace Go.Proofs.YtnmgpbihknjdjaaGreatDoor
set_option linter.unusedVariables false
def firG {α : Type} (G : Nat → α → Int) : Nat → List α → Int × Int
 | _, [] => (0, 0)
 | i, c :: l => if G i c = 0 then firG G (i + 1) l else (i, G i c)
def fIg {α : Type} (P : α → Bool) : List α → Nat → Int
 | [], _ => -1
 | z :: zs, i => if P z then i else fIg P zs (i + 1)
theorem fIg_nn {α : Type} (P : α → Bool) : ∀ (zs : List α) (s : Nat), decide (0 ≤ fIg P zs s) = zs.any P
 | [], s => rfl
 | z :: zs, s => by
  rw [fIg, List.any_cons]
  cases hz : P z
  ·rw [if_neg (by decide), fIg_nn P zs (s + 1), Bool.false_or]
  ·rw [if_pos rfl]; simp
end Go.Proofs.YtnmgpbihknjdjaaGreatDoor

/- Contracts: calendars. -/
namespace Go.Proofs.YtnmgpbihknjdjaaGreatDoor
open Go.RowKit
set_option linter.unusedVariables false
end Go.Proofs.YtnmgpbihknjdjaaGreatDoor

/- Contracts: closed times. -/
namespace Go.Proofs.YtnmgpbihknjdjaaGreatDoor
open Go.RowKit
set_option linter.unusedVariables false
end Go.Proofs.YtnmgpbihknjdjaaGreatDoor

/- Small helpers about memory. -/
namespace Go.Proofs.YtnmgpbihknjdjaaGreatDoor
open Go.RowKit
set_option linter.unusedVariables false
structure Bx (p : Prop) : Prop where
 out : p
end Go.Proofs.YtnmgpbihknjdjaaGreatDoor

/- Contracts: the numbers of a set; the program. -/
namespace Go.Proofs.YtnmgpbihknjdjaaGreatDoor
open Go.RowKit Go.Lib
set_option linter.unusedVariables false
set_option linter.unusedSimpArgs false
theorem ltL_app2 (m : Nat) : ∀ (a b : List MV), ltL m (a ++ b) = (ltL m a && ltL m b)
 | [], b => by simp [ltL]
 | x :: a, b => by simp [ltL, ltL_app2 m a b, Bool.and_assoc]
theorem frz_row {h : MHeap} {id k g : Nat} {o : MObj} {es : List MV} (ho : h[id]? = some o) (hg : o.g = g) (hk : k = es.length) (hl : ltL 0 es = true) (he : o.es = es) : frz 0 [] h 8 (.arr id 0 k g) = some (.sl es) := by
 subst he hk
 exact frz_arr ho hg (by simp) hl (by simp)
abbrev U64 (n : Int) : MV := .lit (.int .u64 n)
theorem u64_wrap {z : Int} (h0 : 0 ≤ z) (h1 : z < 18446744073709551616) : IntKind.u64.wrap z = z := by rw [IntKind.wrap_u64]; omega
theorem u64_and {a b : Nat} (ha : a < 18446744073709551616) (hb : b < 18446744073709551616) : binI .and .u64 (a : Int) (b : Int) = some (.int .u64 ((a &&& b : Nat) : Int)) := by
 have := bits_and_u64_nat a b ha hb
 have e : binI .and .u64 (a : Int) (b : Int) = some (.int .u64 (bits .and .u64 (a : Int) (b : Int))) := rfl
 rw [e, this]
theorem u64_sub {a b : Int} (h0 : 0 ≤ a - b) (h1 : a - b < 18446744073709551616) : binI .sub .u64 a b = some (.int .u64 (a - b)) := by
 have e : binI .sub .u64 a b = some (.int .u64 (IntKind.u64.wrap (a - b))) := rfl
 rw [e, u64_wrap h0 h1]
theorem u64_shl {m : Nat} (hm : m ≤ 63) : shfI .shl .u64 1 (m : Int) = some (.int .u64 ((2 ^ m : Nat) : Int)) := by
 have h2 : 2 ^ m ≤ 2 ^ 63 := Nat.pow_le_pow_right (by omega) hm
 have hq : ∀ q : Nat, q ≤ 2 ^ 63 → IntKind.u64.wrap (q : Int) = q := fun q hq => u64_wrap (by omega) (by omega)
 have e : shfI .shl .u64 1 (m : Int) = some (.int .u64 (IntKind.u64.wrap (1 * 2 ^ min m 64))) := by
  unfold shfI
  rw [if_neg (by omega)]
  rfl
 have e2 : ((2 : Int) ^ m) = ((2 ^ m : Nat) : Int) := by rw [Int.natCast_pow]; rfl
 rw [e, Nat.min_eq_left (by omega), Int.one_mul, e2, hq _ h2]
theorem tz64_c (k : Nat) (x : Nat) (hx : x < 18446744073709551616) (h : MHeap) : orA (k + 1) 205 [U64 x] h = some (I64 (ctz 64 x : Nat), h) := by
 have hT : tA 205 [U64 x] [] = some (I64 (ctz 64 x : Nat), []) := by
  unfold tA tTz
  rw [if_pos rfl, if_pos rfl]
  show (if 0 ≤ (x : Int) ∧ (x : Int) < 18446744073709551616 then _ else _) = _
  rw [if_pos (by omega)]; rfl
 have := callT (k := k) (h := h) (args := [U64 x]) (args' := [U64 x]) (frzL_lt rfl) hT (by simp [okV, ok1, MV.lt, MV.pure]) rfl
 simpa [shV, sh1] using this
theorem mf_tz : MT.mf 178 = some mfW_l178 := mfW_q178
theorem tz_c (k : Nat) (x : Nat) (hx : x < 18446744073709551616) (h : MHeap) : orA (k + 2) 178 [U64 x] h = some (I64 (ctz 64 x : Nat), h) := by
 refine callL (args' := [U64 x]) (frzL_lt rfl) rfl (runZ_of mf_tz (by simp) ?_)
 simp only [argsL]
 have w := fun h => tz64_c k x hx h
 generalize ctz 64 x = z at *
 repeat (first | apply ef_seq | (apply ef_mv; exact rfl; exact rfl) | apply ef_nil | apply seqQ.normal | apply ef_ret | apply ef_skip | (apply ef_condf; exact rfl; (exact (rfl : false = false))) | (apply ef_call; exact rfl; ((repeat (apply XVs.cons; exact rfl)); exact XVs.nil); (with_reducible exact w _)))
 (refine fin1 rfl (by exact rfl) rfl ?_)
 rfl
abbrev mbI (x : Nat) : List Int := (mbL x).map fun i : Nat => (i : Int)
theorem mf_members : MT.mf 108 = some mfW_l108 := mfW_q108
set_option maxHeartbeats 1000000 in
theorem members_z (k X : Nat) (hX : X < 18446744073709551616) :
  runZ MT (orA (k + 2)) (itA (k + 2)) 4000000 108 [U64 X] [] = some (.arr 0 0 (mbL X).length 0, [⟨0, decide ((mbL X).length = 0), 1, (mbI X).map I64⟩]) := by
 refine runZ_of mf_members (by simp) ?_
 simp only [argsL]
 repeat (first | apply ef_seq | (apply ef_nil0; exact rfl) | apply ef_nil | apply seqQ.normal | apply ef_block)
 refine ef_loopf (α := Nat × Nat × List Nat × List MV) (fun p => p.1 < 18446744073709551616 ∧ p.2.1 = p.2.2.1.length ∧ mbL X = p.2.2.1 ++ mbL p.1 ∧ p.2.2.2 = (p.2.2.1.map fun i : Nat => (i : Int)).map I64) (fun p => [(0, U64 (p.1 : Nat)), (3, .arr 1 0 p.2.1 p.2.1)]) [] (fun p => [⟨0, true, 1, []⟩, ⟨p.2.1, decide (p.2.1 = 0), 1, p.2.2.2⟩]) (fun p => (mbL p.1).length) (X, 0, [], []) [0, 3] (fun _ => rfl) (by ((repeat (refine Hold.cons (by exact rfl) ?_)); exact Hold.nil)) (by ((repeat (refine Hold.cons (by exact rfl) ?_)); exact Hold.nil)) rfl rfl ⟨hX, rfl, rfl, rfl⟩ (by show (mbL X).length < 4000000; have := mbL_len64 hX; omega) ?_
 rintro ⟨x, q, ds, rs⟩ ⟨hx, hql, hz, hrs⟩
 try simp only at hx hql hz hrs ⊢
 have hrl : rs.length = q := by rw [hrs, List.length_map, List.length_map, hql]
 have hlr : ∀ j, ltL j rs = true := fun j => by rw [hrs]; exact ltL_I j _
 have hdl : q ≤ 64 := by
  have h1 := mbL_len64 hX
  rw [hz, List.length_append] at h1
  omega
 by_cases h0 : x = 0
 ·subst h0
  rw [mbL_zero, List.append_nil] at hz
  have hmi : mbI X = ds.map fun i : Nat => (i : Int) := by unfold mbI; rw [hz]
  rw [hmi, hz, ← hql]
  repeat (first | apply ef_seq | (apply ef_mv; exact rfl; exact rfl) | (apply ef_bin; (iterate 3 exact rfl); (exact cmp_f rfl (by simp only [cmpP]; omega))) | apply ef_nil | apply seqQ.normal | apply loopQ.exit | apply ef_ret | apply ef_exit | apply seqQ.exit | apply blockQ.here | (apply ef_condf; exact rfl; (exact (rfl : false = false))))
  (apply fin_arr; (· exact rfl); (· exact rfl); (· exact rfl); (· exact rfl); (· (show 0 + _ ≤ rs.length; omega)); (· (exact hlr 0)); (· (show (rs.drop 0).take _ = _; rw [List.drop_zero, List.take_of_length_le (by omega), hrs])); (· exact rfl); (· exact rfl); (· rfl))
 ·have e1 : binI .sub .u64 (x : Int) 1 = some (.int .u64 ((x - 1 : Nat) : Int)) := by rw [u64_sub (by omega) (by omega), show (x : Int) - 1 = ((x - 1 : Nat) : Int) by omega]
  have e2 : binI .and .u64 (x : Int) ((x - 1 : Nat) : Int) = some (.int .u64 (clrB x : Nat)) := u64_and hx (by omega)
  have w1 := fun h => tz_c k x hx h
  have hl := clrB_lt h0
  have hm := mbL_pos h0
  generalize clrB x = y at *
  generalize ctz 64 x = z at *
  repeat (first | apply ef_seq | (apply ef_mv; exact rfl; exact rfl) | (apply ef_bin; (iterate 3 exact rfl); (exact cmp_t rfl (by first | exact rfl | (simp only [cmpP]; omega)))) | (apply ef_bsl; exact rfl; (repeat (apply XVs.cons; exact rfl)); exact XVs.nil; exact rfl) | apply ef_nil | apply seqQ.normal | apply ef_block | apply ef_skip | (apply ef_condt; exact rfl; (exact (rfl : true = true))) | (apply ef_call; exact rfl; ((repeat (apply XVs.cons; exact rfl)); exact XVs.nil); (with_reducible exact w1 _)))
  (apply ef_app; (· exact rfl); (· exact rfl); (· exact rfl); (· exact rfl); (· exact rfl); (· exact rfl); (· (simp [hrl])); (· exact rfl); (· (simp [hrl]; omega)); (· (exact rfl)); (· exact rfl))
  repeat (first | (apply ef_mv; exact rfl; exact rfl) | (apply ef_bin; (iterate 3 exact rfl); (assumption)) | apply ef_nil | apply seqQ.normal | apply blockQ.normal)
  (refine loopQ.normal _ _ ⟨(y, q + 1, ds ++ [z], rs ++ [I64 (z : Nat)]), ⟨by omega, by simp [hql], by rw [hz, hm, List.append_assoc]; rfl, by rw [hrs]; simp⟩, (by show (mbL y).length < (mbL x).length; rw [hm]; simp), ⟨by ((repeat (refine Hold.cons (by exact rfl) ?_)); exact Hold.nil), by ((repeat (refine Hold.cons (by exact rfl) ?_)); exact Hold.nil)⟩, .inr ⟨by ((repeat (refine hdl_cons rfl (by first | rfl | (simp [MV.lt, ltL, hlr, ltL_app2, splice, MV.cells])) ?_)); exact hdl_nil), by (simp [hltL, ltL, MV.lt, ltL, hlr, ltL_app2, splice, MV.cells])⟩, by exact rfl⟩)
theorem members_c (k X : Nat) (hX : X < 18446744073709551616) (h : MHeap) :
  orA (k + 3) 108 [U64 X] h = some (.arr h.length 0 (mbL X).length 0, h ++ [⟨0, decide ((mbL X).length = 0), 1, (mbI X).map I64⟩]) := by
 have := callA (k := k + 2) (h := h) (args := [U64 X]) (args' := [U64 X]) (frzL_lt rfl) rfl (members_z k X hX) rfl (by simp [okH, ltL_I, pureL_I, -List.map_map])
 simpa [shV, sh1] using this
end Go.Proofs.YtnmgpbihknjdjaaGreatDoor

/- Contracts: closed times on a date, the first permitted date. -/
namespace Go.Proofs.YtnmgpbihknjdjaaGreatDoor
open Go.RowKit
set_option linter.unusedVariables false
end Go.Proofs.YtnmgpbihknjdjaaGreatDoor

/- Contracts: the first permitted date. -/
namespace Go.Proofs.YtnmgpbihknjdjaaGreatDoor
open Go.RowKit
set_option linter.unusedVariables false
end Go.Proofs.YtnmgpbihknjdjaaGreatDoor

/- Contracts: the document's calendars. -/
namespace Go.Proofs.YtnmgpbihknjdjaaGreatDoor
open Go.RowKit
set_option linter.unusedVariables false
end Go.Proofs.YtnmgpbihknjdjaaGreatDoor

/- The examples: closed calls. -/
namespace Go.Proofs.YtnmgpbihknjdjaaGreatDoor
open Go.RowKit
theorem items_z (k : Nat) : runZ MT (orA k) (itA k) 4000000 94 [] [] = some (.arr 0 0 3 0, [⟨0, false, 3, itemE⟩]) := by kernel_rfl
theorem hole_z (k : Nat) : runZ MT (orA k) (itA k) 4000000 95 [] [] = some (holeX, []) := by kernel_rfl
theorem cal_z (k : Nat) : runZ MT (orA k) (itA k) 4000000 98 [] [] = some (.arr 0 0 3 0, [⟨0, false, 3, calE⟩]) := by kernel_rfl
theorem best_f : runFf (orL tA mfW 4000000 12) noI 4000000 mfW_l20 [itemX, I64 8] [] = some (.tup [.arr 0 0 2 0, I64 16, I64 0], [⟨0, false, 1, [I64 0, I64 2]⟩]) := by kernel_rfl
theorem cuts_f : runFf (orL tA mfW 4000000 12) noI 4000000 mfW_l26 [holeX, layX] [] = some (.tup [.agg [I64 80, I64 1, I64 400, I64 3], I64 0], []) := by kernel_rfl
theorem price_f : runFf (orL tA mfW 4000000 12) noI 4000000 mfW_l35 [itemX, I64 8] [] = some (.tup [.agg [I64 7, I64 4], I64 0], []) := by kernel_rfl
theorem early_f : runFf (orL tA mfW 4000000 12) noI 4000000 mfW_l49 [calX, I64 355, I64 10] [] = some (.tup [I64 376, I64 0], []) := by kernel_rfl
end Go.Proofs.YtnmgpbihknjdjaaGreatDoor

/- Chapter 9: the first body. -/
namespace Go.Proofs.YtnmgpbihknjdjaaGreatDoor
open Go.RowKit
set_option linter.unusedVariables false
def pickB (R C : List (Int × Int)) (w : List Nat) (i : Nat) : Option Nat := (rowSets C.length (R.getD i (0, 0)).1 (R.getD i (0, 0)).2).find? fun s => possB R C (prefP (w ++ [s]))
def bodyB (R C : List (Int × Int)) : Nat → List Nat
 | 0 => []
 | i + 1 => bodyB R C i ++ [(pickB R C (bodyB R C i) i).getD 0]
theorem bodyB_len (R C : List (Int × Int)) : ∀ i, (bodyB R C i).length = i
 | 0 => rfl
 | i + 1 => by simp [bodyB, bodyB_len R C i]
theorem natL_pure : ∀ w : List Nat, pureL (natL w) = true
 | [] => rfl
 | s :: w => by
  show (true && pureL (natL w)) = true
  rw [natL_pure w]; rfl
inductive RowAt (M : MHeap) : MV → List Nat → Prop
 | none : RowAt M (.lit (.slice none 0 0)) []
 | some (id g : Nat) (w : List Nat) : w ≠ [] → M[id]? = some ⟨g, false, 1, natL w⟩ → RowAt M (.arr id 0 w.length g) w
theorem clone_c (k : Nat) {M : MHeap} {v : MV} {w : List Nat} (hv : RowAt M v w) (hl : w.length ≤ 1000) : orA (k + 1) 148 [v] M = some (.arr M.length 0 w.length 0, M ++ [⟨0, w.isEmpty, 1, natL w⟩]) := by
 cases hv with
 | none =>
  have hz : runZ MT (orA k) (itA k) 4000000 148 [.lit (.slice none 0 0)] [] = some (.arr 0 0 0 0, [⟨0, true, 1, []⟩]) := by kernel_rfl
  have := callA (k := k) (h := M) (args := [.lit (.slice none 0 0)]) (args' := [.lit (.slice none 0 0)]) rfl rfl hz rfl rfl
  simpa [shV, sh1] using this
 | some id g w hne hM =>
  obtain ⟨s, w', rfl⟩ : ∃ s w', w = s :: w' := by
   cases w with
   | nil => exact absurd rfl hne
   | cons s w' => exact ⟨s, w', rfl⟩
  have hf : [MV.arr id 0 (s :: w').length g].mapM (frz 0 [] M 8) = some [.sl (natL (s :: w'))] := by
   have h1 : frz 0 [] M 8 (.arr id 0 (s :: w').length g) = some (.sl (natL (s :: w'))) := by
    have h2 := natL_lt 0 (s :: w')
    have h3 : ((natL (s :: w')).drop 0).take (s :: w').length = natL (s :: w') := by rw [List.drop_zero, List.take_of_length_le (by simp)]
    simp only [frz, MV.lt, Nat.not_lt_zero, decide_false, Bool.false_eq_true, if_false, List.contains_nil, hM, List.length_map, Nat.zero_add, Nat.le_refl, and_self, if_true, h2, h3]
   simp only [List.mapM_cons, List.mapM_nil, h1]; rfl
  have := callA (k := k) (h := M) hf rfl (clone_z k s w' hl) rfl (by have h2 := natL_lt 0 (s :: w'); simp only [okH, List.all_cons, List.all_nil, Bool.and_true, h2, Bool.true_and]; rw [Bool.or_eq_true]; exact .inr (natL_pure _))
  simpa [shV, sh1] using this
def tryM (M : MHeap) (w : List Nat) (s : Nat) : MHeap := M ++ [⟨1, false, 1, natL (w ++ [s])⟩, ⟨0, false, 1, [I64 s]⟩, ⟨0, false, 1, [.arr M.length 0 (w.length + 1) 1]⟩]
theorem tryM_0 (M : MHeap) (w : List Nat) (s : Nat) : (tryM M w s)[M.length]? = some ⟨1, false, 1, natL (w ++ [s])⟩ := by
 unfold tryM; rw [List.getElem?_append_right (Nat.le_refl _)]; simp
theorem tryM_2 (M : MHeap) (w : List Nat) (s : Nat) : (tryM M w s)[M.length + 2]? = some ⟨0, false, 1, [.arr M.length 0 (w.length + 1) 1]⟩ := by
 unfold tryM; rw [List.getElem?_append_right (by omega)]; simp
theorem tryM_at {M : MHeap} {w : List Nat} {s i : Nat} {o : MObj} (h : M[i]? = some o) : (tryM M w s)[i]? = some o := by
 unfold tryM; rw [List.getElem?_append_left (List.getElem?_eq_some_iff.1 h).1, h]
theorem tryM_cl {M : MHeap} (w : List Nat) (s : Nat) (hc : hltL M.length M = true) : hltL (M.length + 3) (tryM M w s) = true := by
 have h1 := hltL_le (show M.length ≤ M.length + 3 by omega) hc
 unfold tryM hltL at *
 rw [List.all_append, h1]
 simp only [List.all_cons, List.all_nil, ltL, MV.lt, natL_lt, Bool.and_true, Bool.true_and, decide_eq_true_eq]
 omega
theorem frz_try (M : MHeap) (w : List Nat) (s g : Nat) (R C : List (Int × Int)) : [encS R C, .fn g 0 [.ptr (M.length + 2) 0 0 0]].mapM (frz 0 [] (tryM M w s) 8) = some [encS R C, .fn g 0 [.rp (.sl (natL (w ++ [s]))) 0]] := by
 have h0 := encS_lt 0 R C
 have h2 := natL_lt 0 (w ++ [s])
 have h3 : ((natL (w ++ [s])).drop 0).take (w.length + 1) = natL (w ++ [s]) := by rw [List.drop_zero, List.take_of_length_le (by simp)]
 have hl : 0 + (w.length + 1) ≤ (natL (w ++ [s])).length := by simp
 have e0 : frz 0 [] (tryM M w s) 8 (encS R C) = some (encS R C) := frz_lt h0
 have e1 : frz 0 [] (tryM M w s) 6 (.arr M.length 0 (w.length + 1) 1) = some (.sl (natL (w ++ [s]))) := by
  simp only [frz, MV.lt, Nat.not_lt_zero, decide_false, Bool.false_eq_true, if_false, List.contains_nil, tryM_0, hl, and_self, if_true, h2, h3]
 have e2 : frz 0 [] (tryM M w s) 7 (.ptr (M.length + 2) 0 0 0) = some (.rp (.sl (natL (w ++ [s]))) 0) := by
  have e3 : frz 0 [] (tryM M w s) 7 (.ptr (M.length + 2) 0 0 0) = (match (tryM M w s)[M.length + 2]? with
   | some o => if o.g = 0 then match o.es[0]? with
     | some e => if e.lt 0 then some (.rp e 0) else (frz 0 [] (tryM M w s) 6 e).map fun e' => .rp e' 0
     | none => none
    else none
   | none => none) := rfl
  rw [e3, tryM_2]
  simp only [if_true, List.getElem?_cons_zero]
  have e4 : (MV.arr M.length 0 (w.length + 1) 1).lt 0 = false := by simp [MV.lt]
  rw [e4, e1]; rfl
 have e5 : frz 0 [] (tryM M w s) 8 (.fn g 0 [.ptr (M.length + 2) 0 0 0]) = some (.fn g 0 [.rp (.sl (natL (w ++ [s]))) 0]) := by
  have e6 : frz 0 [] (tryM M w s) 8 (.fn g 0 [.ptr (M.length + 2) 0 0 0]) = ([MV.ptr (M.length + 2) 0 0 0].mapM (frz 0 [] (tryM M w s) 7)).map (.fn g 0) := rfl
  rw [e6]
  simp only [List.mapM_cons, List.mapM_nil, e2]; rfl
 simp only [List.mapM_cons, List.mapM_nil, e0, e5]; rfl
structure StB (R C : List (Int × Int)) (w : List Nat) (M : MHeap) : Prop where
 m0 : M[0]? = some ⟨0, false, 2, [encS R C]⟩
 m1 : M[2]? = some ⟨0, false, 2, [encS R C]⟩
 m2 : ∃ v, M[3]? = some ⟨0, false, 1, [v]⟩ ∧ RowAt M v w
 cl : hltL M.length M = true
theorem mf_body : MT.mf 62 = some ⟨39, [(.tmp 2), (.tmp 3)], (.seq (.reg [gO 1 (.box 2 (.s 0)), gO 2 (.nil0 1), gO 3 (.mv (cI 0))]) (.seq (.reg [gO 11 (.ld (some 2) (.s 1)), gO 12 (.call 146 [.s 11]), gO 10 (.mv (.s 12)), gO 13 (.ext (.s 10) 0), gO 14 (.ext (.s 10) 1), gO 4 (.new (.agg [(.lit (.slice none 0 0)), (.lit (.slice none 0 0))])), ⟨none, none, .st 2 (.s 4) (.s 13)⟩, gO 5 (.mv (.s 14))]) (.seq (.seq (.reg [gO 15 (.mv (.s 5)), gO 16 (.bin .neq (.s 15) (cI 0))]) (.cond (.s 16) (.seq (.reg [gO 17 (.mv (.s 5)), gO 2 (.nil0 1), gO 3 (.mv (.s 17))]) .ret) .skip)) (.seq (.reg [gO 6 (.new (.lit (.slice none 0 0)))]) (.seq (.seq (.reg [gO 18 (.fa 0 (.s 1)), gO 19 (.ld none (.s 18)), gO 20 (.len (.s 19)), gO 21 (.mv (cI 0))]) (.block 0 (.loop [21, 20, 4, 6] (.seq (.reg [gO 22 (.bin .lss (.s 21) (.s 20))]) (.seq (.cond (.s 22) .skip (.exit 0)) (.seq (.block 1 (.seq (.reg [gO 23 (.mv (.s 21)), gO 7 (.mv (.s 23))]) (.seq (.reg [gO 24 (.ld (some 2) (.s 4)), gO 25 (.mv (.s 7)), gO 26 (.call 147 [.s 24, .s 25])]) (.block 2 (.rf [6, 4] (.s 26) [27] (.reg [gO 8 (.mv (.s 27))]) (.block 3 (.seq (.reg [gO 28 (.ld none (.s 6)), gO 29 (.call 148 [.s 28]), gO 30 (.mv (.s 8)), gO 31 (.bsl (.lit (.int .i64 0)) 1 1 [(0, (.s 30))]), gO 32 (.app 1 (.s 29) (.s 31)), gO 9 (.new (.lit (.slice none 0 0))), ⟨none, none, .st 1 (.s 9) (.s 32)⟩]) (.seq (.reg [gO 33 (.ld (some 2) (.s 4)), gO 34 (.mf 150 0 [.s 9]), gO 35 (.call 149 [.s 33, .s 34])]) (.cond (.s 35) (.seq (.reg [gO 36 (.ld none (.s 9)), ⟨none, none, .st 1 (.s 6) (.s 36)⟩]) (.exit 2)) .skip))))))))) (.reg [gO 37 (.bin .add (.s 21) (cI 1)), gO 21 (.mv (.s 37))]))))))) (.seq (.reg [gO 38 (.ld none (.s 6)), gO 2 (.mv (.s 38)), gO 3 (.mv (cI 0))]) .ret))))))⟩ := by kernel_rfl
set_option maxHeartbeats 4000000 in
theorem body_z (k : Nat) (R C : List (Int × Int)) (hR : R.length ≤ 5) (hC : C.length ≤ 5) (hop : ∀ h, orA (k + 7) 146 [encS R C] h = some (.tup [encS R C, I64 0], h)) (hpk : ∀ i, i < R.length → (pickB R C (bodyB R C i) i).isSome = true) (hne : 0 < R.length) :
  runZ MT (orA (k + 7)) (itA (k + 7)) 4000000 62 [encS R C] [] = some (.tup [.arr 0 0 R.length 0, I64 0], [⟨0, false, 1, natL (bodyB R C R.length)⟩]) := by
 refine runZ_of mf_body (by simp) ?_
 simp only [argsL]
 have hrl : (MV.sl (R.map encP)).slen = some R.length := by simp [MV.slen]
 repeat (first | apply ef_seq | (apply ef_mv; exact rfl; exact rfl) | (apply ef_bin; (iterate 3 exact rfl); (exact cmp_f rfl (by simp only [cmpP]; omega))) | (apply ef_len; exact rfl; exact rfl; (assumption)) | (apply ef_ldp; exact rfl; exact rfl; (exact rfl); exact rfl; (exact rfl); (first | exact rd_2 rfl rfl | exact rfl)) | (apply ef_fap; exact rfl; exact rfl) | (apply ef_ext; (iterate 3 exact rfl)) | (apply ef_box; (iterate 4 exact rfl)) | (apply ef_newst; (iterate 3 exact rfl); (exact rfl); exact rfl) | (apply ef_new; exact rfl) | (apply ef_nil0; exact rfl) | apply ef_nil | apply seqQ.normal | apply ef_block | apply ef_skip | (apply ef_condf; exact rfl; (exact (rfl : false = false))) | (apply ef_call; exact rfl; ((repeat (apply XVs.cons; exact rfl)); exact XVs.nil); (with_reducible exact hop _)))
 refine ef_loopg (α := Nat × MHeap) (fun a => a.1 ≤ R.length ∧ StB R C (bodyB R C a.1) a.2 ∧ 4 ≤ a.2.length ∧ (a.1 ≠ 0 → ∃ id n g, a.2[3]? = some ⟨0, false, 1, [.arr id 0 n g]⟩ ∧ 4 ≤ id)) (fun a => [(21, I64 (a.1 : Int))]) [(20, I64 (R.length : Int)), (4, .ptr 2 0 0 0), (6, .ptr 3 0 0 0)] (fun a => a.2) (fun a => R.length - a.1)
  (0, [⟨0, false, 2, [encS R C]⟩, ⟨0, true, 1, []⟩, ⟨0, false, 2, [encS R C]⟩, ⟨0, false, 1, [.lit (.slice none 0 0)]⟩]) [21] (fun _ => rfl) (by ((repeat (refine Hold.cons (by exact rfl) ?_)); exact Hold.nil)) (by ((repeat (refine Hold.cons (by exact rfl) ?_)); exact Hold.nil)) rfl rfl rfl ?_ (by simp; omega) ?_
 ·refine ⟨Nat.zero_le _, ⟨rfl, rfl, ⟨_, rfl, .none⟩, ?_⟩, by simp, fun h => absurd rfl h⟩
  have h1 := encS_lt 4 R C
  simp only [hltL, List.all_cons, List.all_nil, ltL, h1, Bool.and_true, Bool.true_and, List.length_cons, List.length_nil]
  rfl
 rintro ⟨i, M⟩ ⟨hi, hI, hlen, hbig⟩
 obtain ⟨m0, m1, ⟨v, m2, hv⟩, hcl⟩ := hI
 by_cases hi2 : i < R.length
 ·have hp := hpk i hi2
  obtain ⟨r, hr⟩ : ∃ r, R[i]? = some r := ⟨R[i], by simp [hi2]⟩
  have hrd : R.getD i (0, 0) = r := by rw [List.getD_eq_getElem?_getD, hr]; rfl
  have hwl := bodyB_len R C i
  have hnext : bodyB R C (i + 1) = bodyB R C i ++ [(pickB R C (bodyB R C i) i).getD 0] := rfl
  generalize bodyB R C i = w at *
  obtain ⟨pk, hpk2⟩ := Option.isSome_iff_exists.1 hp
  rw [hpk2, Option.getD_some] at hnext
  unfold pickB at hpk2
  rw [hrd] at hpk2
  repeat (first | apply ef_seq | (apply ef_mv; exact rfl; exact rfl) | (apply ef_bin; (iterate 3 exact rfl); (exact cmp_t rfl (by first | exact rfl | (simp only [cmpP]; omega)))) | (apply ef_ldp; exact rfl; exact rfl; (assumption); exact rfl; (exact rfl); (exact rd_2 rfl rfl)) | apply ef_nil | apply seqQ.normal | apply ef_block | apply ef_skip | (apply ef_condt; exact rfl; (exact (rfl : true = true))) | (apply ef_call; exact rfl; ((repeat (apply XVs.cons; exact rfl)); exact XVs.nil); (with_reducible exact rows_c (k + 6) R C i _)))
  refine ef_rf (α := MHeap) (ids := []) (fun j Y => ∀ s ∈ (rowSets C.length r.1 r.2).take j, possB R C (prefP (w ++ [s])) = false) [(6, .ptr 3 0 0 0), (4, .ptr 2 0 0 0)] (fun Y => M ++ Y) (fun _ => M) [] (by exact rfl) (rows1_it (k + 5) R C i r hC hr _) (by simp)
   (idsL_lt0 (by have h1 := encS_lt 0 R C; show ((encS R C).lt 0 && ((I64 i).lt 0 && true)) = true; rw [h1]; rfl)) (by ((repeat (refine Hold.cons (by exact rfl) ?_)); exact Hold.nil)) rfl rfl rfl (fun s hs => by simp at hs) (by simp) (fun j Y _ => ?_) ?_ ?_
  ·have h1 : HeadIs [6, 4] M.length ((26, rowsF R C i) :: (25, I64 i) :: (24, encS R C) :: (7, I64 i) :: (23, I64 i) :: (22, .lit (.bool true)) :: ([(21, I64 i)] ++ [(20, I64 R.length), (4, .ptr 2 0 0 0), (6, .ptr 3 0 0 0)])) (M ++ Y) ((M ++ Y).take M.length) := .cut (fun t ht => by
    simp only [List.mem_cons, List.not_mem_nil, or_false] at ht
    rcases ht with rfl | rfl
    ·exact ⟨_, rfl, by simp only [MV.lt, decide_eq_true_eq]; simp only at hlen; omega⟩
    ·exact ⟨_, rfl, by simp only [MV.lt, decide_eq_true_eq]; simp only at hlen; omega⟩) (by rw [List.take_left]; exact hcl)
   rw [List.take_left] at h1
   exact h1
  ·intro j Y x hx hno
   simp only [List.getElem?_map, Option.map_eq_some_iff] at hx
   obtain ⟨s, hs, rfl⟩ := hx
   obtain ⟨o1, ho1⟩ : ∃ o1 : MObj, o1 = ⟨0, w.isEmpty, 1, natL w⟩ := ⟨_, rfl⟩
   have hcl2 := clone_c (k + 6) hv (by simp only at hi; omega)
   rw [← ho1] at hcl2
   show Ef _ _ _ _ _ _ ((27, I64 s) :: [(6, .ptr 3 0 0 0), (4, .ptr 2 0 0 0)]) _ _
   simp only at m0 m1 m2 ⊢
   have hrv : rdCells v.cells 0 none = some v := by cases hv <;> rfl
   repeat (first | (apply ef_mv; exact rfl; exact rfl) | apply ef_nil)
   apply preQ.normal
   repeat (first | apply ef_seq | apply ef_block)
   (apply ef_ldp; (· exact rfl); (· exact rfl); (· exact m2); (· exact rfl); (· exact rfl); (· exact hrv))
   (apply ef_call; (· exact rfl); (· ((repeat (apply XVs.cons; exact rfl)); exact XVs.nil)); · exact hcl2)
   repeat (first | (apply ef_mv; exact rfl; exact rfl) | (apply ef_bsl; exact rfl; (repeat (apply XVs.cons; exact rfl)); exact XVs.nil; exact rfl))
   subst ho1
   have q1 : (M ++ [(⟨0, w.isEmpty, 1, natL w⟩ : MObj)] ++ [(⟨0, false, 1, [I64 s]⟩ : MObj)])[M.length]? = some ⟨0, w.isEmpty, 1, natL w⟩ := by
    rw [List.append_assoc, List.getElem?_append_right (Nat.le_refl _)]; simp
   have q2 : (MV.arr (M ++ [(⟨0, w.isEmpty, 1, natL w⟩ : MObj)]).length 0 1 0).elems (M ++ [(⟨0, w.isEmpty, 1, natL w⟩ : MObj)] ++ [(⟨0, false, 1, [I64 s]⟩ : MObj)]) = some [I64 s] := by
    simp only [MV.elems, at_endC]; rfl
   have q3 : (M ++ [(⟨0, w.isEmpty, 1, natL w⟩ : MObj)] ++ [(⟨0, false, 1, [I64 s]⟩ : MObj)]).set M.length ⟨1, false, 1, (natL w).drop 0 ++ [I64 s]⟩ = M ++ [⟨1, false, 1, natL (w ++ [s])⟩, ⟨0, false, 1, [I64 s]⟩] := by
    rw [List.append_assoc, List.set_append_right _ _ (Nat.le_refl _)]
    simp
   refine ef_app (ht := by exact rfl) (by exact rfl) (by exact rfl) q2 q1 rfl (by simp) rfl (by simp; simp only at hi; omega) rfl rfl ?_
   show Ef _ _ _ _ _ _ _ ((M ++ [(⟨0, w.isEmpty, 1, natL w⟩ : MObj)] ++ [(⟨0, false, 1, [I64 s]⟩ : MObj)]).set M.length ⟨1, false, 1, (natL w).drop 0 ++ [I64 s]⟩) _
   rw [q3]
   repeat (first | apply ef_seq | (apply ef_newst; (iterate 3 exact rfl); (exact rfl); exact rfl) | apply ef_nil | apply seqQ.normal)
   have q4 : M ++ [(⟨1, false, 1, natL (w ++ [s])⟩ : MObj), ⟨0, false, 1, [I64 s]⟩] ++ [(⟨0, false, 1, [.arr M.length 0 (w.length + 1) 1]⟩ : MObj)] = tryM M w s := by unfold tryM; simp
   have q5 : (M ++ [(⟨1, false, 1, natL (w ++ [s])⟩ : MObj), ⟨0, false, 1, [I64 s]⟩]).length = M.length + 2 := by simp
   rw [q5]
   show Ef _ _ _ _ _ _ _ (M ++ [(⟨1, false, 1, natL (w ++ [s])⟩ : MObj), ⟨0, false, 1, [I64 s]⟩] ++ [(⟨0, false, 1, [.arr M.length 0 (w.length + 1) 1]⟩ : MObj)]) _
   rw [q4]
   have t1 : (tryM M w s)[2]? = some ⟨0, false, 2, [encS R C]⟩ := tryM_at m1
   have t2 := tryM_2 M w s
   have t3 : (tryM M w s)[3]? = some ⟨0, false, 1, [v]⟩ := tryM_at m2
   have hpos := possible_f (k + 1) R C _ (prefP (w ++ [s])) hR hC (may_pre (k + 4) (w ++ [s]) _ hR) (frz_try M w s 150 R C)
   repeat (first | (apply ef_ldp; exact rfl; exact rfl; (assumption); exact rfl; (exact rfl); (exact rd_2 rfl rfl)) | (apply ef_mf; exact rfl; (repeat (apply XVs.cons; exact rfl)); exact XVs.nil))
   (apply ef_call; (· exact rfl); (· ((repeat (apply XVs.cons; exact rfl)); exact XVs.nil)); · exact hpos)
   cases hP : possB R C (prefP (w ++ [s]))
   ·repeat (first | apply ef_nil | apply seqQ.normal | apply blockQ.normal | apply ef_skip | (apply ef_condf; exact rfl; (exact (rfl : false = false))))
    refine rfQ.normal _ _ ⟨[⟨1, false, 1, natL (w ++ [s])⟩, ⟨0, false, 1, [I64 s]⟩, ⟨0, false, 1, [.arr M.length 0 (w.length + 1) 1]⟩], fun s' hs' => ?_, rfl⟩
    rw [List.take_add_one, hs] at hs'
    rcases List.mem_append.1 hs' with h1 | h1
    ·exact hno s' h1
    ·simp at h1; rw [h1]; exact hP
   ·have hsp : pk = s := by
     have h1 : rowSets C.length r.1 r.2 = (rowSets C.length r.1 r.2).take j ++ s :: (rowSets C.length r.1 r.2).drop (j + 1) := by
      have h2 := List.getElem?_eq_some_iff.1 hs
      obtain ⟨h3, h4⟩ := h2
      rw [← h4, ← List.drop_eq_getElem_cons h3, List.take_append_drop]
     rw [h1, List.find?_append] at hpk2
     have h5 : ((rowSets C.length r.1 r.2).take j).find? (fun s => possB R C (prefP (w ++ [s]))) = none := by
      rw [List.find?_eq_none]
      intro x hx
      rw [hno x hx]; simp
     rw [h5, Option.none_or, List.find?_cons_of_pos (by exact hP)] at hpk2
     exact (Option.some.inj hpk2).symm
    subst hsp
    repeat (first | apply ef_seq | (apply ef_ldp; exact rfl; exact rfl; (assumption); exact rfl; (exact rfl); (exact rfl)) | apply ef_nil | apply seqQ.normal | (apply ef_condt; exact rfl; (exact (rfl : true = true))))
    have hwr : wrElem v 0 (.arr M.length 0 (w.length + 1) 1) = some (.arr M.length 0 (w.length + 1) 1) := by cases hv <;> rfl
    (apply ef_st; (· exact rfl); (· exact rfl); (· exact rfl); (· exact t3); (· exact rfl); (· exact rfl); (· exact rfl); (· exact hwr))
    repeat (first | apply ef_nil | apply seqQ.normal | apply ef_exit | (apply blockQ_there; exact rfl))
    apply rfQ.exit
    repeat (first | (apply ef_mv; exact rfl; exact rfl) | (apply ef_bin; (iterate 3 exact rfl); (((with_reducible refine bin_add (wrap_of ?_ ?_)) <;> omega))) | apply ef_nil | apply seqQ.normal | apply blockQ.normal | apply blockQ.here)
    simp only at hlen hi
    obtain ⟨H, hH⟩ : ∃ H, H = (tryM M w pk).set 3 ⟨0, false, 1, [.arr M.length 0 (w.length + 1) 1]⟩ := ⟨_, rfl⟩
    have hTl : (tryM M w pk).length = M.length + 3 := by simp [tryM]
    have hHl : H.length = M.length + 3 := by rw [hH, List.length_set, hTl]
    have hH3 : H[3]? = some ⟨0, false, 1, [.arr M.length 0 (w.length + 1) 1]⟩ := by rw [hH, List.getElem?_set_self (by rw [hTl]; omega)]
    have hHi : ∀ i, i ≠ 3 → H[i]? = (tryM M w pk)[i]? := fun i hi => by rw [hH, List.getElem?_set_ne (Ne.symm hi)]
    have hHc : hltL (M.length + 3) H = true := by
     rw [hH]
     refine hltL_set (tryM_cl w pk hcl) ?_
     simp only [ltL, MV.lt, Bool.and_true, decide_eq_true_eq]; omega
    refine loopQ.normal _ _ ⟨(i + 1, H), ⟨?_, ⟨?_, ?_, ⟨.arr M.length 0 (w.length + 1) 1, ?_, ?_⟩, ?_⟩, ?_, ?_⟩, ?_, ⟨by ((repeat (refine Hold.cons (by exact rfl) ?_)); exact Hold.nil), by ((repeat (refine Hold.cons (by exact rfl) ?_)); exact Hold.nil)⟩, ?_⟩
    ·exact hi2
    ·show H[0]? = _
     rw [hHi 0 (by decide)]; exact tryM_at m0
    ·show H[2]? = _
     rw [hHi 2 (by decide)]; exact t1
    ·exact hH3
    ·show RowAt H _ (bodyB R C (i + 1))
     rw [hnext, show w.length + 1 = (w ++ [pk]).length by simp]
     refine .some M.length 1 (w ++ [pk]) (by simp) ?_
     rw [hHi _ (by omega)]; exact tryM_0 M w pk
    ·show hltL H.length H = true
     rw [hHl]; exact hHc
    ·show 4 ≤ H.length
     omega
    ·exact fun _ => ⟨M.length, w.length + 1, 1, hH3, hlen⟩
    ·show R.length - (i + 1) < R.length - i
     omega
    ·show HeadIs _ _ _ ((tryM M w pk).set 3 ⟨0, false, 1, [.arr M.length 0 (w.length + 1) 1]⟩) H
     rw [← hH]
     refine .cell ?_
     show hltL 4 (H.take 4) = false
     rw [Bool.eq_false_iff]
     intro hc
     have h1 := List.all_eq_true.1 hc ⟨0, false, 1, [.arr M.length 0 (w.length + 1) 1]⟩ (List.mem_of_getElem? (i := 3) (by rw [List.getElem?_take, if_pos (by decide)]; exact hH3))
     simp only [ltL, MV.lt, Bool.and_true, decide_eq_true_eq] at h1
     omega
  ·intro Y hno
   exfalso
   rw [List.take_of_length_le (by simp)] at hno
   have h1 := List.find?_some hpk2
   rw [hno pk (List.mem_of_find?_eq_some hpk2)] at h1
   cases h1
 ·obtain rfl : i = R.length := by omega
  have hwl := bodyB_len R C R.length
  generalize bodyB R C R.length = w at *
  cases hv with
  | none => simp at hwl; omega
  | some id g w' hne2 hM =>
   simp only at m2 hM
   repeat (first | apply ef_seq | (apply ef_mv; exact rfl; exact rfl) | (apply ef_bin; (iterate 3 exact rfl); (exact cmp_f rfl (by simp only [cmpP]; omega))) | (apply ef_ldp; exact rfl; exact rfl; (assumption); exact rfl; (exact rfl); (exact rfl)) | apply ef_nil | apply seqQ.normal | apply loopQ.exit | apply ef_ret | apply ef_exit | apply seqQ.exit | apply blockQ.here | (apply ef_condf; exact rfl; (exact (rfl : false = false))))
   rw [← hwl]
   exact fin_al rfl (by exact rfl) (by exact rfl) hM rfl (by simp) (natL_lt 0 w) rfl rfl rfl
end Go.Proofs.YtnmgpbihknjdjaaGreatDoor

/- The examples that every law begins with. -/
namespace Go.Proofs.YtnmgpbihknjdjaaGreatDoor
open Go.RowKit
set_option linter.unusedVariables false
theorem items_c (k : Nat) (h : MHeap) : orA (k + 1) 94 [] h = some (.arr h.length 0 3 0, h ++ [⟨0, false, 3, itemE⟩]) := by
 have := callA (k := k) (h := h) (args := []) (args' := []) rfl rfl (items_z k) rfl rfl
 simpa [shV, sh1] using this
theorem cal_c (k : Nat) (h : MHeap) : orA (k + 1) 98 [] h = some (.arr h.length 0 3 0, h ++ [⟨0, false, 3, calE⟩]) := by
 have := callA (k := k) (h := h) (args := []) (args' := []) rfl rfl (cal_z k) rfl rfl
 simpa [shV, sh1] using this
theorem hole_c (k : Nat) (h : MHeap) : orA (k + 1) 95 [] h = some (holeX, h) := by
 have := callA (k := k) (h := h) (args := []) (args' := []) rfl rfl (hole_z k) rfl rfl
 simpa [shV, sh1] using this
theorem layer_c (k : Nat) (h : MHeap) : orA (k + 6) 96 [] h = some (layX, h) := by
 have := callA (k := k + 5) (h := h) (args := []) (args' := []) rfl rfl (layer_x k) rfl rfl
 simpa [shV, sh1] using this
theorem shadow_c (k : Nat) (h : MHeap) : orA (k + 1) 97 [] h = some (encS shR shC, h) := by
 have := callA (k := k) (h := h) (args := []) (args' := []) rfl rfl (shadow_x k) rfl rfl
 rw [List.append_nil] at this
 exact this
theorem whole_z (k : Nat) : runZ MT (orA (k + 3)) (itA (k + 3)) 4000000 44 [I64 80] [] = some (.agg [I64 80, I64 1], []) := by kernel_rfl
theorem low_z (k : Nat) : runZ MT (orA (k + 3)) (itA (k + 3)) 4000000 87 [I64 400, I64 3] [] = some (.agg [I64 400, I64 3], []) := by kernel_rfl
theorem whole_c (k : Nat) (h : MHeap) : orA (k + 4) 44 [I64 80] h = some (.agg [I64 80, I64 1], h) := by
 have := callA (k := k + 3) (h := h) (args := [I64 80]) (args' := [I64 80]) rfl rfl (whole_z k) rfl rfl
 simpa [shV, sh1] using this
theorem low_c (k : Nat) (h : MHeap) : orA (k + 4) 87 [I64 400, I64 3] h = some (.agg [I64 400, I64 3], h) := by
 have := callA (k := k + 3) (h := h) (args := [I64 400, I64 3]) (args' := [I64 400, I64 3]) rfl rfl (low_z k) rfl rfl
 simpa [shV, sh1] using this
theorem bestX_c (h : MHeap) {v : MV} (hv : frz 0 [] h 8 v = some itemX) : orA 13 20 [v, I64 8] h = some (.tup [.arr h.length 0 2 0, I64 16, I64 0], h ++ [⟨0, false, 1, [I64 0, I64 2]⟩]) := by
 have hf : [v, I64 8].mapM (frz 0 [] h 8) = some [itemX, I64 8] := by simp [List.mapM_cons, hv, frz_lt (m := I64 8) rfl]
 have := callA (k := 12) (h := h) hf rfl (runL_ok mfW_ok (f := 20) (m := mfW_l20) (by kernel_rfl) best_f _) (by simp [okV, ok1, MV.lt, MV.pure]) (by simp [okH, ltL, MV.lt, pureL, MV.pure])
 simpa [shV, sh1] using this
theorem priceX_c (h : MHeap) {v : MV} (hv : frz 0 [] h 8 v = some itemX) : orA 13 35 [v, I64 8] h = some (.tup [.agg [I64 7, I64 4], I64 0], h) := by
 have hf : [v, I64 8].mapM (frz 0 [] h 8) = some [itemX, I64 8] := by simp [List.mapM_cons, hv, frz_lt (m := I64 8) rfl]
 have := callA (k := 12) (h := h) hf rfl (runL_ok mfW_ok (f := 35) (m := mfW_l35) (by kernel_rfl) price_f _) (by simp [okV, ok1, MV.lt, ltL, MV.pure, pureL]) rfl
 simpa [shV, sh1] using this
theorem earlyX_c (h : MHeap) {v : MV} (hv : frz 0 [] h 8 v = some calX) : orA 13 49 [v, I64 355, I64 10] h = some (.tup [I64 376, I64 0], h) := by
 have hf : [v, I64 355, I64 10].mapM (frz 0 [] h 8) = some [calX, I64 355, I64 10] := by simp [List.mapM_cons, hv, frz_lt (m := I64 355) rfl, frz_lt (m := I64 10) rfl]
 have := callA (k := 12) (h := h) hf rfl (runL_ok mfW_ok (f := 49) (m := mfW_l49) (by kernel_rfl) early_f _) (by simp [okV, ok1, MV.lt, MV.pure]) rfl
 simpa [shV, sh1] using this
theorem cutsX_c (h : MHeap) : orA 13 26 [holeX, layX] h = some (.tup [.agg [I64 80, I64 1, I64 400, I64 3], I64 0], h) := by
 have := callA (k := 12) (h := h) (args := [holeX, layX]) (args' := [holeX, layX]) rfl rfl (runL_ok mfW_ok (f := 26) (m := mfW_l26) (by kernel_rfl) cuts_f _) rfl rfl
 simpa [shV, sh1] using this
theorem bodyX_c (h : MHeap) : orA 13 62 [encS shR shC] h = some (.tup [.arr h.length 0 2 0, I64 0], h ++ [⟨0, false, 1, [I64 1, I64 3]⟩]) := by
 have hp : ∀ i, i < shR.length → (pickB shR shC (bodyB shR shC i) i).isSome = true
  | 0, _ => by kernel_rfl
  | 1, _ => by kernel_rfl
  | i + 2, h => absurd h (by simp)
 have hb : natL (bodyB shR shC shR.length) = [I64 1, I64 3] := by kernel_rfl
 have hz := body_z 5 shR shC (by decide) (by decide) (open_xc 5) hp (by decide)
 rw [hb] at hz
 have := callA (k := 12) (h := h) (args := [encS shR shC]) (args' := [encS shR shC]) rfl rfl hz rfl rfl
 simpa [shV, sh1] using this
theorem mf_awake : MT.mf 15 = some ⟨87, [(.tmp 0)], (.seq (.reg [gO 0 (.mv cF)]) (.seq (.reg [gO 13 (.call 94 []), gO 14 (.call 20 [.s 13, (cI 8)]), gO 12 (.mv (.s 14)), gO 15 (.ext (.s 12) 0), gO 16 (.ext (.s 12) 1), gO 17 (.ext (.s 12) 2), gO 1 (.mv (.s 15)), gO 2 (.mv (.s 16)), gO 3 (.mv (.s 17))]) (.seq (.reg [gO 19 (.call 95 []), gO 20 (.call 96 []), gO 21 (.call 26 [.s 19, .s 20]), gO 18 (.mv (.s 21)), gO 22 (.ext (.s 18) 0), gO 23 (.ext (.s 18) 1), gO 4 (.new (.agg [(.lit (.int .i64 0)), (.lit (.int .i64 0)), (.lit (.int .i64 0)), (.lit (.int .i64 0))])), ⟨none, none, .st 4 (.s 4) (.s 22)⟩, gO 5 (.mv (.s 23))]) (.seq (.reg [gO 25 (.call 97 []), gO 26 (.call 62 [.s 25]), gO 24 (.mv (.s 26)), gO 27 (.ext (.s 24) 0), gO 28 (.ext (.s 24) 1), gO 6 (.mv (.s 27)), gO 7 (.mv (.s 28))]) (.seq (.reg [gO 30 (.call 94 []), gO 31 (.call 35 [.s 30, (cI 8)]), gO 29 (.mv (.s 31)), gO 32 (.ext (.s 29) 0), gO 33 (.ext (.s 29) 1), gO 8 (.new (.agg [(.lit (.int .i64 0)), (.lit (.int .i64 0))])), ⟨none, none, .st 2 (.s 8) (.s 32)⟩, gO 9 (.mv (.s 33))]) (.seq (.reg [gO 35 (.call 98 []), gO 36 (.call 49 [.s 35, (cI 355), (cI 10)]), gO 34 (.mv (.s 36)), gO 37 (.ext (.s 34) 0), gO 38 (.ext (.s 34) 1), gO 10 (.mv (.s 37)), gO 11 (.mv (.s 38))]) (.seq (.reg [gO 39 (.mv (.s 3)), gO 40 (.bin .eql (.s 39) (cI 0)), gO 41 (.mv (.s 40)), ⟨some (41, true), some 42, .mv (.s 2)⟩, ⟨some (41, true), some 43, .bin .eql (.s 42) (cI 16)⟩, gO 44 (.pick (.s 41) (.s 43) cF), gO 45 (.mv (.s 44)), ⟨some (45, true), some 46, .mv (.s 1)⟩, ⟨some (45, true), some 47, .bsl (.lit (.int .i64 0)) 1 2 [(0, (cI 0)), (1, (cI 2))]⟩, ⟨some (45, true), some 48, .call 24 [.s 46, .s 47]⟩, gO 49 (.pick (.s 45) (.s 48) cF), gO 50 (.mv (.s 49)), ⟨some (50, true), some 51, .mv (.s 5)⟩, ⟨some (50, true), some 52, .bin .eql (.s 51) (cI 0)⟩, gO 53 (.pick (.s 50) (.s 52) cF), gO 54 (.mv (.s 53)), ⟨some (54, true), some 55, .ld (some 4) (.s 4)⟩, ⟨some (54, true), some 56, .call 44 [(cI 80)]⟩, ⟨some (54, true), some 57, .call 87 [(cI 400), (cI 3)]⟩, ⟨some (54, true), some 58, .build [(.lit (.int .i64 0)), (.lit (.int .i64 0)), (.lit (.int .i64 0)), (.lit (.int .i64 0))] [(0, (2, (.s 56))), (2, (2, (.s 57)))]⟩, ⟨some (54, true), some 59, .eqa 4 false (.s 55) (.s 58)⟩, gO 60 (.pick (.s 54) (.s 59) cF), gO 61 (.mv (.s 60)), ⟨some (61, true), some 62, .mv (.s 7)⟩, ⟨some (61, true), some 63, .bin .eql (.s 62) (cI 0)⟩, gO 64 (.pick (.s 61) (.s 63) cF), gO 65 (.mv (.s 64)), ⟨some (65, true), some 66, .mv (.s 6)⟩, ⟨some (65, true), some 67, .bsl (.lit (.int .i64 0)) 1 2 [(0, (cI 1)), (1, (cI 3))]⟩, ⟨some (65, true), some 68, .call 24 [.s 66, .s 67]⟩, gO 69 (.pick (.s 65) (.s 68) cF), gO 70 (.mv (.s 69)), ⟨some (70, true), some 71, .mv (.s 9)⟩, ⟨some (70, true), some 72, .bin .eql (.s 71) (cI 0)⟩, gO 73 (.pick (.s 70) (.s 72) cF), gO 74 (.mv (.s 73)), ⟨some (74, true), some 75, .ld (some 2) (.s 8)⟩, ⟨some (74, true), some 76, .build [(.lit (.int .i64 0)), (.lit (.int .i64 0))] [(0, (1, (cI 7))), (1, (1, (cI 4)))]⟩, ⟨some (74, true), some 77, .eqa 2 false (.s 75) (.s 76)⟩, gO 78 (.pick (.s 74) (.s 77) cF), gO 79 (.mv (.s 78)), ⟨some (79, true), some 80, .mv (.s 11)⟩, ⟨some (79, true), some 81, .bin .eql (.s 80) (cI 0)⟩, gO 82 (.pick (.s 79) (.s 81) cF), gO 83 (.mv (.s 82)), ⟨some (83, true), some 84, .mv (.s 10)⟩, ⟨some (83, true), some 85, .bin .eql (.s 84) (cI 376)⟩, gO 86 (.pick (.s 83) (.s 85) cF), gO 0 (.mv (.s 86))]) .ret)))))))⟩ := by kernel_rfl
set_option maxHeartbeats 1000000 in
theorem awake_z : runZ MT (orA 13) (itA 13) 4000000 15 [] [] = some (Bo true, []) := by
 refine runZ_of mf_awake (by simp) ?_
 simp only [argsL]
 repeat (first | apply ef_seq | (apply ef_mv; exact rfl; exact rfl) | (apply ef_bin; (iterate 3 exact rfl); (exact cmp_t rfl (by first | exact rfl | (simp only [cmpP]; omega)))) | (apply ef_gy; exact rfl; (exact (rfl : true = true))) | (apply ef_pick; (iterate 3 exact rfl)) | (apply ef_ldp; (iterate 4 exact rfl); (exact rfl); (first | exact rd_2 rfl rfl | exact rd_4 rfl rfl rfl rfl)) | (apply ef_ext; (iterate 3 exact rfl)) | (apply ef_new; exact rfl) | (apply ef_build; exact rfl; (repeat (apply XVs.cons; exact rfl)); exact XVs.nil; exact rfl; exact rfl) | (apply ef_bsl; exact rfl; (repeat (apply XVs.cons; exact rfl)); exact XVs.nil; exact rfl) | (apply ef_eqa; (iterate 3 exact rfl); (exact rfl)) | (apply ef_st; (iterate 6 exact rfl); (exact rfl); exact rfl) | apply ef_nil | apply seqQ.normal | apply ef_ret | (apply ef_call; exact rfl; ((repeat (apply XVs.cons; exact rfl)); exact XVs.nil); (with_reducible first | exact items_c _ _ | exact cal_c _ _ | exact hole_c _ _ | exact layer_c _ _ | exact shadow_c _ _ | exact whole_c _ _ | exact low_c _ _ | exact bestX_c _ rfl | exact priceX_c _ rfl | exact earlyX_c _ rfl | exact cutsX_c _ | exact bodyX_c _ | exact bInts_c 12 [0, 2] [0, 2] _ (by simp) rfl rfl rfl | exact bInts_c 12 [1, 3] [1, 3] _ (by simp) rfl rfl rfl)))
 (refine fin1 rfl (by exact rfl) rfl ?_)
 rfl
theorem awake_c (h : MHeap) : orA 14 15 [] h = some (Bo true, h) := callL (args' := []) rfl rfl awake_z
end Go.Proofs.YtnmgpbihknjdjaaGreatDoor

/- TargetDates: the document's first date; copies; the walk. -/
namespace Go.Proofs.YtnmgpbihknjdjaaGreatDoor
open Go.RowKit
set_option linter.unusedVariables false
end Go.Proofs.YtnmgpbihknjdjaaGreatDoor

/- TargetDates: the walk. -/
namespace Go.Proofs.YtnmgpbihknjdjaaGreatDoor
open Go.RowKit
set_option linter.unusedVariables false
end Go.Proofs.YtnmgpbihknjdjaaGreatDoor

/- TargetDates: from values of the small language to the program's. -/
namespace Go.Proofs.YtnmgpbihknjdjaaGreatDoor
open Go.ChangeShapes Go.WideShapes Go.ChangeAt Go.RowKit
theorem fits_i64d {m : MV} (h : Fits i64Sh m) : ∃ n : Int, m = I64 n := by
 obtain ⟨n, rfl, -⟩ := fits_int h
 exact ⟨n, rfl⟩
theorem fits_strd {m : MV} (h : Fits .str m) : ∃ s : ByteArray, m = .lit (.string s) ∧ (s.size : Int) ≤ 9223372036854775807 := by
 unfold Fits at h
 obtain ⟨s, rfl, hs⟩ := h
 exact ⟨s, rfl, by unfold maxLen at hs; omega⟩
structure CdB (c : Cd) : Prop where
 sz : (c.o.size : Int) ≤ 9223372036854775807
end Go.Proofs.YtnmgpbihknjdjaaGreatDoor

/- The best set of targets (plain laws). -/
namespace Go.Proofs.YtnmgpbihknjdjaaGreatDoor
set_option linter.unusedVariables false
structure Tg where
 nm : ByteArray
 c : Int
 s : Int
def tgI (l : List Tg) (i : Nat) : Tg := l.getD i ⟨ByteArray.empty, 0, 0⟩
def costL (l : List Tg) : List Nat → Int
 | [] => 0
 | i :: S => (tgI l i).c + costL l S
def scoreL (l : List Tg) : List Nat → Int
 | [] => 0
 | i :: S => (tgI l i).s + scoreL l S
def befL : List Nat → List Nat → Bool
 | _, [] => false
 | [], _ :: _ => true
 | a :: l, b :: m => if a = b then befL l m else decide (a < b)
def stepB (l : List Tg) (B : Int) (st : List Nat × Int) (S : List Nat) : List Nat × Int :=
 if costL l S ≤ B ∧ (st.2 < scoreL l S ∨ scoreL l S = st.2 ∧ befL S st.1 = true) then (S, scoreL l S) else st
def bestF (l : List Tg) (B : Int) : Nat → List Nat × Int
 | 0 => ([], 0)
 | X + 1 => stepB l B (bestF l B X) (mbL X)
theorem bestF_one (l : List Tg) (B : Int) : bestF l B 1 = ([], 0) := by
 show stepB l B ([], 0) (mbL 0) = _
 rw [mbL_zero]
 unfold stepB
 rw [if_neg]
 rintro ⟨_, h | ⟨_, h⟩⟩
 ·simp [scoreL] at h
 ·simp [befL] at h
structure BestS (l : List Tg) (B : Int) (N : Nat) (st : List Nat × Int) : Prop where
 set : ∃ X, X < N + 1 ∧ st.1 = mbL X
 cost : costL l st.1 ≤ B
 score : scoreL l st.1 = st.2
 most : ∀ X, X < N → costL l (mbL X) ≤ B → scoreL l (mbL X) ≤ st.2
theorem bestF_mb (l : List Tg) (B : Int) (n : Nat) : ∀ N, N ≤ 2 ^ n → ∃ X, X < 2 ^ n ∧ (bestF l B N).1 = mbL X
 | 0, _ => ⟨0, Nat.two_pow_pos n, by rw [mbL_zero]; rfl⟩
 | N + 1, hN => by
  rw [bestF]
  unfold stepB
  split
  ·exact ⟨N, by omega, rfl⟩
  ·exact bestF_mb l B n N (by omega)
def tgE (ns : List ByteArray) (x : Tg) : Int := if nameUB x.nm then (if ns.any (fun o => o == x.nm) then 5 else if inB x.c 1 1000000 && inB x.s 0 1000000 then 0 else 2) else 4
def firT (l : List Tg) : Nat → List Tg → Int × Int
 | _, [] => (0, 0)
 | i, x :: r => if tgE ((l.take i).map Tg.nm) x = 0 then firT l (i + 1) r else (i, tgE ((l.take i).map Tg.nm) x)
def itmE (l : List Tg) : Int × Int := if 12 < l.length then (0, 8) else firT l 0 l
end Go.Proofs.YtnmgpbihknjdjaaGreatDoor

/- Contracts: which targets are valid. -/
namespace Go.Proofs.YtnmgpbihknjdjaaGreatDoor
open Go.RowKit
set_option linter.unusedVariables false
abbrev encTg (x : Tg) : MV := .agg [.lit (.string x.nm), I64 x.c, I64 x.s]
theorem ltL_Tg (n : Nat) (zs : List Tg) : ltL n (zs.map encTg) = true := ltL_lits (fun _ => rfl) zs
theorem pureL_Tg (l : List Tg) : pureL (l.map encTg) = true := pureL_lits (fun _ => rfl) l
abbrev outD2 (r : Int × Int) : MV := .tup [I64 r.1, I64 r.2]
theorem mf_eachTg : MT.mf 99 = some mfW_l99 := mfW_q99
theorem eachTg_z (k g : Nat) (caps : List MV) (G : Nat → Tg → Int) (zs : List Tg) (hx : zs.length ≤ 1000) (hcl : ltL 0 caps = true) (hg : ∀ (i : Nat) (hi : i < zs.length) h, orA k g (I64 (i : Int) :: encTg zs[i] :: caps) h = some (I64 (G i zs[i]), h)) :
  runZ MT (orA k) (itA k) 4000000 99 [.sl (zs.map encTg), .fn g 0 caps] [] = some (.tup [I64 (firG G 0 zs).1, I64 (firG G 0 zs).2], []) := by
 have hl : (MV.sl (zs.map encTg)).slen = some zs.length := by simp [MV.slen]
 refine runZ_of mf_eachTg (by simp) ?_
 simp only [argsL]
 repeat (first | apply ef_seq | (apply ef_mv; exact rfl; exact rfl) | (apply ef_len; exact rfl; exact rfl; (assumption)) | apply ef_nil | apply seqQ.normal | apply ef_block)
 refine ef_loopf (α := Nat) (fun i => i ≤ zs.length ∧ firG G 0 zs = firG G i (zs.drop i)) (fun i => [(11, I64 (i : Int))]) [(10, I64 (zs.length : Int)), (9, .sl (zs.map encTg)), (1, .fn g 0 caps)] (fun _ => []) (fun i => zs.length - i) 0 [11] (fun _ => rfl) (by ((repeat (refine Hold.cons (by exact rfl) ?_)); exact Hold.nil)) (by ((repeat (refine Hold.cons (by exact rfl) ?_)); exact Hold.nil)) rfl rfl ⟨by omega, rfl⟩ (by simp; omega) ?_
 rintro i ⟨hi, hz⟩
 by_cases hlt : i < zs.length
 ·have e1 := at_map encTg zs i hlt
  have HD := Lib.hid (drop_at zs i hlt)
  have HZ := Lib.hid hz
  have hg1 := hg i hlt
  clear hz
  generalize zs[i] = z at e1 HD hg1
  obtain ⟨t, ht⟩ : ∃ t, G i z = t := ⟨_, rfl⟩
  have HT := Lib.hid ht
  rw [ht] at hg1
  clear ht
  have hlz : (encTg z).lt 0 = true := by rfl
  by_cases h0 : t = 0
  ·subst h0
   repeat (first | apply ef_seq | (apply ef_mv; exact rfl; exact rfl) | (apply ef_bin; (iterate 3 exact rfl); (exact cmp_t rfl (by first | exact rfl | (simp only [cmpP]; omega)))) | (apply ef_ldr; exact rfl; exact rfl; (exact rd_3 rfl rfl rfl)) | (apply ef_ldp; exact rfl; exact rfl; (exact rfl); exact rfl; (exact rfl); (exact rd_3 rfl rfl rfl)) | (apply ef_ias; (iterate 3 exact rfl); (omega); assumption; exact rfl) | (apply ef_new; exact rfl) | (apply ef_st; (iterate 6 exact rfl); (exact rfl); exact rfl) | apply ef_nil | apply seqQ.normal | apply ef_block | apply ef_skip | (apply ef_condt; exact rfl; (exact (rfl : true = true))))
   (apply ef_callv; (· exact rfl); (· exact rfl); (· ((repeat (apply XVs.cons; exact rfl)); exact XVs.nil)); (· exact rfl); (· exact hg1 _))
   repeat (first | apply ef_seq | (apply ef_mv; exact rfl; exact rfl) | (apply ef_bin; (iterate 3 exact rfl); (first | exact cmp_f rfl (by simp only [cmpP]; omega) | ((with_reducible refine bin_add (wrap_of ?_ ?_)) <;> omega))) | apply ef_nil | apply seqQ.normal | apply blockQ.normal | apply ef_skip | (apply ef_condf; exact rfl; (exact (rfl : false = false))))
   (refine loopQ.normal _ _ ⟨i + 1, ⟨hlt, by rw [HZ.out, HD.out, firG, if_pos HT.out]⟩, (by first | (simp only; omega) | omega), ⟨by ((repeat (refine Hold.cons (by exact rfl) ?_)); exact Hold.nil), by ((repeat (refine Hold.cons (by exact rfl) ?_)); exact Hold.nil)⟩, .inr ⟨by ((repeat (refine hdl_cons rfl (by first | rfl | (simp [MV.lt, ltL, ltL_Tg, hcl])) ?_)); exact hdl_nil), by first | rfl | (simp [hltL, ltL, MV.lt, ltL, ltL_Tg, hcl])⟩, by first | exact rfl | (simp only [List.map_append, List.map_set]; exact rfl)⟩)
  ·repeat (first | apply ef_seq | (apply ef_mv; exact rfl; exact rfl) | (apply ef_bin; (iterate 3 exact rfl); (exact cmp_t rfl (by first | exact rfl | (simp only [cmpP]; omega)))) | (apply ef_ldr; exact rfl; exact rfl; (exact rd_3 rfl rfl rfl)) | (apply ef_ldp; exact rfl; exact rfl; (exact rfl); exact rfl; (exact rfl); (exact rd_3 rfl rfl rfl)) | (apply ef_ias; (iterate 3 exact rfl); (omega); assumption; exact rfl) | (apply ef_new; exact rfl) | (apply ef_st; (iterate 6 exact rfl); (exact rfl); exact rfl) | apply ef_nil | apply seqQ.normal | apply ef_block | apply ef_skip | (apply ef_condt; exact rfl; (exact (rfl : true = true))))
   (apply ef_callv; (· exact rfl); (· exact rfl); (· ((repeat (apply XVs.cons; exact rfl)); exact XVs.nil)); (· exact rfl); (· exact hg1 _))
   repeat (first | apply ef_seq | (apply ef_mv; exact rfl; exact rfl) | (apply ef_bin; (iterate 3 exact rfl); (exact cmp_t rfl (by first | exact rfl | (simp only [cmpP]; omega)))) | apply ef_nil | apply seqQ.normal | apply loopQ.ret | apply ef_ret | apply seqQ.ret | apply blockQ.ret | (apply ef_condt; exact rfl; (exact (rfl : true = true))))
   (refine fin2 rfl (by exact rfl) (by exact rfl) ?_)
   rw [HZ.out, HD.out, firG, HT.out, if_neg h0]
 ·repeat (first | apply ef_seq | (apply ef_mv; exact rfl; exact rfl) | (apply ef_bin; (iterate 3 exact rfl); (exact cmp_f rfl (by simp only [cmpP]; omega))) | apply ef_nil | apply seqQ.normal | apply loopQ.exit | apply ef_ret | apply ef_exit | apply seqQ.exit | apply blockQ.here | (apply ef_condf; exact rfl; (exact (rfl : false = false))))
  (refine fin2 rfl (by exact rfl) (by exact rfl) ?_)
  rw [hz, List.drop_eq_nil_of_le (by omega)]; rfl
theorem eachTg_c (k g : Nat) (caps : List MV) (G : Nat → Tg → Int) (zs : List Tg) (h : MHeap) {v fv : MV} (hx : zs.length ≤ 1000) (hcl : ltL 0 caps = true) (hg : ∀ (i : Nat) (hi : i < zs.length) h, orA k g (I64 (i : Int) :: encTg zs[i] :: caps) h = some (I64 (G i zs[i]), h)) (hv : frz 0 [] h 8 v = some (.sl (zs.map encTg))) (hf : frz 0 [] h 8 fv = some (.fn g 0 caps)) :
  orA (k + 1) 99 [v, fv] h = some (.tup [I64 (firG G 0 zs).1, I64 (firG G 0 zs).2], h) :=
 callTT (args' := [.sl (zs.map encTg), .fn g 0 caps]) (by simp [List.mapM_cons, hv, hf]) rfl (eachTg_z k g caps G zs hx hcl hg)
theorem mf_IndexTg : MT.mf 177 = some mfW_l177 := mfW_q177
theorem IndexTg_z (k g : Nat) (caps : List MV) (P : Tg → Bool) (zs : List Tg) (hx : zs.length ≤ 1000) (hcl : ltL 0 caps = true) (hg : ∀ z ∈ zs, ∀ h, orA k g (encTg z :: caps) h = some (Bo (P z), h)) :
  runZ MT (orA k) (itA k) 4000000 177 [.sl (zs.map encTg), .fn g 0 caps] [] = some (I64 (fIg P zs 0), []) := by
 have hl : (MV.sl (zs.map encTg)).slen = some zs.length := by simp [MV.slen]
 refine runZ_of mf_IndexTg (by simp) ?_
 simp only [argsL]
 repeat (first | apply ef_seq | (apply ef_mv; exact rfl; exact rfl) | (apply ef_len; exact rfl; exact rfl; (assumption)) | apply ef_nil | apply seqQ.normal | apply ef_block)
 refine ef_loopf (α := Nat) (fun i => i ≤ zs.length ∧ fIg P zs 0 = fIg P (zs.drop i) i) (fun i => [(8, I64 (i : Int))]) [(7, I64 (zs.length : Int)), (1, .fn g 0 caps), (0, .sl (zs.map encTg))] (fun _ => []) (fun i => zs.length - i) 0 [8] (fun _ => rfl) (by ((repeat (refine Hold.cons (by exact rfl) ?_)); exact Hold.nil)) (by ((repeat (refine Hold.cons (by exact rfl) ?_)); exact Hold.nil)) rfl rfl ⟨by omega, rfl⟩ (by simp; omega) ?_
 rintro i ⟨hi, hz⟩
 by_cases hlt : i < zs.length
 ·have e1 := at_map encTg zs i hlt
  have HD := Lib.hid (drop_at zs i hlt)
  have HZ := Lib.hid hz
  have hg1 := hg zs[i] (List.getElem_mem hlt)
  clear hz
  generalize zs[i] = z at e1 HD hg1
  obtain ⟨t, ht⟩ : ∃ t, P z = t := ⟨_, rfl⟩
  have HT := Lib.hid ht
  rw [ht] at hg1
  clear ht
  cases t
  ·repeat (first | apply ef_seq | (apply ef_mv; exact rfl; exact rfl) | (apply ef_bin; (iterate 3 exact rfl); (exact cmp_t rfl (by first | exact rfl | (simp only [cmpP]; omega)))) | (apply ef_ldr; exact rfl; exact rfl; (exact rd_3 rfl rfl rfl)) | (apply ef_ias; (iterate 3 exact rfl); (omega); assumption; exact rfl) | apply ef_nil | apply seqQ.normal | apply ef_block | apply ef_skip | (apply ef_condt; exact rfl; (exact (rfl : true = true))))
   (apply ef_callv; (· exact rfl); (· exact rfl); (· ((repeat (apply XVs.cons; exact rfl)); exact XVs.nil)); (· exact rfl); (· exact hg1 _))
   repeat (first | (apply ef_mv; exact rfl; exact rfl) | (apply ef_bin; (iterate 3 exact rfl); (((with_reducible refine bin_add (wrap_of ?_ ?_)) <;> omega))) | apply ef_nil | apply seqQ.normal | apply blockQ.normal | apply ef_skip | (apply ef_condf; exact rfl; (exact (rfl : false = false))))
   (refine loopQ.normal _ _ ⟨i + 1, ⟨hlt, by rw [HZ.out, HD.out]; simp [fIg, HT.out]⟩, (by first | (simp only; omega) | omega), ⟨by ((repeat (refine Hold.cons (by exact rfl) ?_)); exact Hold.nil), by ((repeat (refine Hold.cons (by exact rfl) ?_)); exact Hold.nil)⟩, .inl (Nat.le_refl _), (by first | exact List.take_length | exact rfl | exact takeF rfl rfl)⟩)
  ·repeat (first | apply ef_seq | (apply ef_mv; exact rfl; exact rfl) | (apply ef_bin; (iterate 3 exact rfl); (exact cmp_t rfl (by first | exact rfl | (simp only [cmpP]; omega)))) | (apply ef_ldr; exact rfl; exact rfl; (exact rd_3 rfl rfl rfl)) | (apply ef_ias; (iterate 3 exact rfl); (omega); assumption; exact rfl) | apply ef_nil | apply seqQ.normal | apply ef_block | apply ef_skip | (apply ef_condt; exact rfl; (exact (rfl : true = true))))
   (apply ef_callv; (· exact rfl); (· exact rfl); (· ((repeat (apply XVs.cons; exact rfl)); exact XVs.nil)); (· exact rfl); (· exact hg1 _))
   repeat (first | apply ef_seq | (apply ef_mv; exact rfl; exact rfl) | apply ef_nil | apply seqQ.normal | apply loopQ.ret | apply ef_ret | apply seqQ.ret | apply blockQ.ret | (apply ef_condt; exact rfl; (exact (rfl : true = true))))
   (refine fin1 rfl (by exact rfl) rfl ?_)
   rw [HZ.out, HD.out]; simp [fIg, HT.out]
 ·repeat (first | apply ef_seq | (apply ef_mv; exact rfl; exact rfl) | (apply ef_bin; (iterate 3 exact rfl); (exact cmp_f rfl (by simp only [cmpP]; omega))) | apply ef_nil | apply seqQ.normal | apply loopQ.exit | apply ef_ret | apply ef_exit | apply seqQ.exit | apply blockQ.here | (apply ef_condf; exact rfl; (exact (rfl : false = false))))
  (refine fin1 rfl (by exact rfl) rfl ?_)
  rw [hz, List.drop_eq_nil_of_le (by omega)]; rfl
theorem IndexTg_c (k g : Nat) (caps : List MV) (P : Tg → Bool) (zs : List Tg) (h : MHeap) {v fv : MV} (hx : zs.length ≤ 1000) (hcl : ltL 0 caps = true) (hg : ∀ z ∈ zs, ∀ h, orA k g (encTg z :: caps) h = some (Bo (P z), h)) (hv : frz 0 [] h 8 v = some (.sl (zs.map encTg))) (hf : frz 0 [] h 8 fv = some (.fn g 0 caps)) :
  orA (k + 1) 177 [v, fv] h = some (I64 (fIg P zs 0), h) :=
 callL (args' := [.sl (zs.map encTg), .fn g 0 caps]) (by simp [List.mapM_cons, hv, hf]) rfl (IndexTg_z k g caps P zs hx hcl hg)
theorem mf_ContTg : MT.mf 101 = some mfW_l101 := mfW_q101
theorem ContTg_c (k g : Nat) (caps : List MV) (P : Tg → Bool) (zs : List Tg) (h : MHeap) {v fv : MV} {t : Bool} (hx : zs.length ≤ 1000) (hcl : ltL 0 caps = true) (hg : ∀ z ∈ zs, ∀ h, orA k g (encTg z :: caps) h = some (Bo (P z), h)) (hv : frz 0 [] h 8 v = some (.sl (zs.map encTg))) (hf : frz 0 [] h 8 fv = some (.fn g 0 caps))
  (ht : zs.any P = t) : orA (k + 2) 101 [v, fv] h = some (Bo t, h) := by
 refine callL (args' := [.sl (zs.map encTg), .fn g 0 caps]) (by simp [List.mapM_cons, hv, hf]) rfl (runZ_of mf_ContTg (by simp) ?_)
 simp only [argsL]
 have hi := fun h => IndexTg_c k g caps P zs h (v := .sl (zs.map encTg)) (fv := .fn g 0 caps) hx hcl hg (frz_sl (ltL_Tg 0 zs)) (by simp [frz, MV.lt, hcl])
 have hs := fIg_nn P zs 0
 rw [← ht]
 cases hb : zs.any P
 ·rw [hb] at hs
  have hs : fIg P zs 0 < 0 := by have := hs; simp at this; omega
  generalize fIg P zs 0 = q at *
  repeat (first | apply ef_seq | (apply ef_mv; exact rfl; exact rfl) | (apply ef_bin; (iterate 3 exact rfl); (exact cmp_f rfl (by simp only [cmpP]; omega))) | apply ef_nil | apply seqQ.normal | apply ef_ret | (apply ef_call; exact rfl; ((repeat (apply XVs.cons; exact rfl)); exact XVs.nil); (with_reducible exact hi _)))
  (refine fin1 rfl (by exact rfl) rfl ?_)
  rfl
 ·rw [hb] at hs
  have hs : 0 ≤ fIg P zs 0 := by simpa using hs
  generalize fIg P zs 0 = q at *
  repeat (first | apply ef_seq | (apply ef_mv; exact rfl; exact rfl) | (apply ef_bin; (iterate 3 exact rfl); (exact cmp_t rfl (by first | exact rfl | (simp only [cmpP]; omega)))) | apply ef_nil | apply seqQ.normal | apply ef_ret | (apply ef_call; exact rfl; ((repeat (apply XVs.cons; exact rfl)); exact XVs.nil); (with_reducible exact hi _)))
  (refine fin1 rfl (by exact rfl) rfl ?_)
  rfl
theorem mf_CI11 : MT.mf 102 = some mfW_l102 := mfW_q102
theorem CI11_c (k : Nat) (o z : Tg) (h : MHeap) : orA (k + 1) 102 [encTg o, .rp (encTg z) 0] h = some (Bo (o.nm == z.nm), h) := by
 refine callL (args' := [encTg o, .rp (encTg z) 0]) (frzL_lt rfl) rfl (runZ_of mf_CI11 (by simp) ?_)
 simp only [argsL]
 repeat (first | apply ef_seq | (apply ef_mv; exact rfl; exact rfl) | (apply ef_ldr; exact rfl; exact rfl; (exact rfl)) | (apply ef_ldp; exact rfl; exact rfl; (exact rfl); exact rfl; (exact rfl); (exact rfl)) | (apply ef_fap; exact rfl; exact rfl) | (apply ef_far; exact rfl; exact rfl) | (apply ef_box; (iterate 4 exact rfl)) | (apply ef_sq; (iterate 3 exact rfl)) | apply ef_nil | apply seqQ.normal | apply ef_ret)
 (refine fin1 rfl (by exact rfl) rfl ?_)
 rfl
theorem firT_G (l : List Tg) : ∀ (r : List Tg) (i : Nat), firT l i r = firG (fun i x => tgE ((l.take i).map Tg.nm) x) i r
 | [], _ => rfl
 | x :: r, i => by rw [firT, firG, firT_G l r]
theorem mf_CI1 : MT.mf 100 = some mfW_l100 := mfW_q100
theorem any_nm (l : List Tg) (n : ByteArray) : (l.map Tg.nm).any (fun o => o == n) = l.any (fun o => o.nm == n) := by rw [List.any_map]; rfl
theorem CI1_c (k : Nat) (l : List Tg) (i : Nat) (hi : i < l.length) (z : Tg) (h : MHeap) (hl : l.length ≤ 1000) (hn : z.nm.size ≤ 1000) : orA (k + 4) 100 [I64 (i : Int), encTg z, .rp (.sl (l.map encTg)) 0] h = some (I64 (tgE ((l.take i).map Tg.nm) z), h) := by
 refine callL (args' := [I64 (i : Int), encTg z, .rp (.sl (l.map encTg)) 0]) (frzL_lt (by simp [ltL, MV.lt, ltL_Tg])) rfl (runZ_of mf_CI1 (by simp) ?_)
 simp only [argsL]
 have hslc : ((l.map encTg).drop (0 : Int).toNat).take ((i : Int) - 0).toNat = (l.take i).map encTg := by
  rw [show ((i : Int) - 0).toNat = i by omega]; simp
 have hcl : (l.map encTg).all (fun e => e.cells.length == 3) = true := by
  rw [List.all_eq_true]
  intro m hm
  obtain ⟨_, _, rfl⟩ := List.mem_map.1 hm
  rfl
 have hlen : (l.map encTg).length = l.length := List.length_map ..
 have hcf := fun M (q : M[0]? = some (⟨0, false, 3, [encTg z]⟩ : MObj)) => ContTg_c (k + 1) 102 [.rp (encTg z) 0] (fun o => o.nm == z.nm) (l.take i) M (v := .sl (((l.map encTg).drop (0 : Int).toNat).take ((i : Int) - 0).toNat)) (fv := .fn 102 0 [.ptr 0 0 0 0]) (by rw [List.length_take]; omega) rfl (fun o _ h => CI11_c k o z h) (by rw [hslc]; exact frz_sl (ltL_Tg 0 _)) (by simp [frz, MV.lt, ltL, q]) rfl
 have HE := Lib.hid (show tgE ((l.take i).map Tg.nm) z = firstE [unl (nameUB z.nm) 4, unl (!(l.take i).any (fun o => o.nm == z.nm)) 5, unl (inB z.c 1 1000000 && inB z.s 0 1000000) 2] by
  unfold tgE
  rw [any_nm]
  cases nameUB z.nm <;> cases (l.take i).any (fun o => o.nm == z.nm) <;> cases (inB z.c 1 1000000 && inB z.s 0 1000000) <;> rfl)
 have hna := fun h => isName_c (k + 1) z.nm h hn rfl
 have u1 := fun h => unless_c (k + 2) (nameUB z.nm) 4 h rfl
 generalize (l.take i).any (fun o => o.nm == z.nm) = t at *
 cases t <;> cases a1 : inB z.c 1 1000000
 all_goals
  rw [HE.out, a1]
  repeat (first | apply ef_seq | (apply ef_mv; exact rfl; exact rfl) | (apply ef_ldr; exact rfl; exact rfl; (exact rfl)) | (apply ef_box; (iterate 4 exact rfl)) | apply ef_nil | apply seqQ.normal)
  (apply ef_slcs; (· exact rfl); (· exact rfl); (· exact rfl); (· exact rfl); (· (first | omega | (simp; omega))); (· exact hcl))
  repeat (first | (apply ef_mf; exact rfl; (repeat (apply XVs.cons; exact rfl)); exact XVs.nil))
  (apply ef_call; (· exact rfl); (· ((repeat (apply XVs.cons; exact rfl)); exact XVs.nil)); · exact hcf _ rfl)
  repeat (first | apply ef_seq | (apply ef_mv; exact rfl; exact rfl) | (apply ef_gy; exact rfl; (exact (rfl : true = true))) | (apply ef_gn; exact rfl; (exact (rfl : false = false)); exact rfl) | (apply ef_pick; (iterate 3 exact rfl)) | (apply ef_ldp; exact rfl; exact rfl; (exact rfl); exact rfl; (exact rfl); (exact rfl)) | (apply ef_fap; exact rfl; exact rfl) | (apply ef_notT; exact rfl; exact rfl) | (apply ef_notF; exact rfl; exact rfl) | (apply ef_bsl; exact rfl; (repeat (apply XVs.cons; exact rfl)); exact XVs.nil; exact rfl) | apply ef_nil | apply seqQ.normal | apply ef_ret | (apply ef_call; exact rfl; ((repeat (apply XVs.cons; exact rfl)); exact XVs.nil); (with_reducible first | exact within_c (k + 2) _ _ _ _ a1 | exact within_c (k + 2) _ _ _ _ rfl | exact hna _ | exact u1 _ | exact unless_c (k + 2) _ _ _ rfl)) | (apply ef_call; exact rfl; ((repeat (apply XVs.cons; exact rfl)); exact XVs.nil); (with_reducible apply first3_c); (iterate 3 exact rfl); (exact rfl)))
  (refine fin1 rfl (by exact rfl) rfl ?_)
  rfl
end Go.Proofs.YtnmgpbihknjdjaaGreatDoor

/- Contracts: targets and budgets. -/
namespace Go.Proofs.YtnmgpbihknjdjaaGreatDoor
open Go.RowKit
set_option linter.unusedVariables false
abbrev encSt (b : ByteArray) : MV := .lit (.string b)
theorem ltL_St (n : Nat) (zs : List ByteArray) : ltL n (zs.map encSt) = true := ltL_lits (fun _ => rfl) zs
theorem mf_CheckItems : MT.mf 18 = some mfW_l18 := mfW_q18
theorem CheckItems_c (k : Nat) (l : List Tg) (h : MHeap) {v : MV} (hx : l.length ≤ 100) (hn : ∀ z ∈ l, z.nm.size ≤ 1000) (hv : frz 0 [] h 8 v = some (.sl (l.map encTg))) : orA (k + 6) 18 [v] h = some (outD2 (itmE l), h) := by
 have hs : (MV.sl (l.map encTg)).slen = some l.length := by simp [MV.slen]
 refine callTT (args' := [.sl (l.map encTg)]) (by simp [List.mapM_cons, hv]) rfl (runZ_of mf_CheckItems (by simp) ?_)
 simp only [argsL]
 have HC := Lib.hid (show itmE l = if 12 < l.length then (0, 8) else firG (fun i x => tgE ((l.take i).map Tg.nm) x) 0 l by unfold itmE; rw [firT_G])
 by_cases h1 : 12 < l.length
 ·repeat (first | apply ef_seq | (apply ef_mv; exact rfl; exact rfl) | (apply ef_bin; (iterate 3 exact rfl); (exact cmp_t rfl (by first | exact rfl | (simp only [cmpP]; omega)))) | (apply ef_len; exact rfl; exact rfl; (assumption)) | (apply ef_ldp; exact rfl; exact rfl; (exact rfl); exact rfl; (exact rfl); (exact rfl)) | (apply ef_box; (iterate 4 exact rfl)) | apply ef_nil | apply seqQ.normal | apply ef_ret | apply seqQ.ret | (apply ef_condt; exact rfl; (exact (rfl : true = true))))
  (refine fin2 rfl (by exact rfl) (by exact rfl) ?_)
  rw [HC.out, if_pos h1]
 ·repeat (first | apply ef_seq | (apply ef_mv; exact rfl; exact rfl) | (apply ef_bin; (iterate 3 exact rfl); (exact cmp_f rfl (by simp only [cmpP]; omega))) | (apply ef_len; exact rfl; exact rfl; (assumption)) | (apply ef_ldp; exact rfl; exact rfl; (exact rfl); exact rfl; (exact rfl); (exact rfl)) | (apply ef_box; (iterate 4 exact rfl)) | (apply ef_mf; exact rfl; (repeat (apply XVs.cons; exact rfl)); exact XVs.nil) | apply ef_nil | apply seqQ.normal | apply ef_skip | (apply ef_condf; exact rfl; (exact (rfl : false = false))))
  (apply ef_call; (· exact rfl); (· ((repeat (apply XVs.cons; exact rfl)); exact XVs.nil)); · exact eachTg_c (k + 4) 100 [.rp (.sl (l.map encTg)) 0] (fun i x => tgE ((l.take i).map Tg.nm) x) l _ (v := .sl (l.map encTg)) (by omega) (by simp [ltL, MV.lt, ltL_Tg]) (fun i hi h => CI1_c k l i hi l[i] h (by omega) (hn _ (List.getElem_mem hi))) (frz_sl (ltL_Tg 0 l)) (by simp [frz, MV.lt, ltL, ltL_Tg]))
  repeat (first | (apply ef_mv; exact rfl; exact rfl) | (apply ef_ext; (iterate 3 exact rfl)) | apply ef_nil | apply seqQ.normal | apply ef_ret)
  (refine fin2 rfl (by exact rfl) (by exact rfl) ?_)
  rw [HC.out, if_neg h1]
def bdgE (l : List Tg) (B : Int) : Int := firstE [(itmE l).2, unl (inB B 0 1000000) 2]
theorem mf_budgetErr : MT.mf 107 = some mfW_l107 := mfW_q107
theorem budgetErr_c (k : Nat) (l : List Tg) (B : Int) (h : MHeap) {v : MV} (hx : l.length ≤ 100) (hn : ∀ z ∈ l, z.nm.size ≤ 1000) (hv : frz 0 [] h 8 v = some (.sl (l.map encTg))) {e : Int} (he : bdgE l B = e) : orA (k + 7) 107 [v, I64 B] h = some (I64 e, h) := by
 refine callL (args' := [.sl (l.map encTg), I64 B]) (by simp [List.mapM_cons, hv, frz_lt (m := I64 B) rfl]) rfl (runZ_of mf_budgetErr (by simp) ?_)
 simp only [argsL]
 have h1 := fun h => CheckItems_c k l h (v := .sl (l.map encTg)) hx hn (frz_sl (ltL_Tg 0 l))
 unfold bdgE at he
 repeat (first | apply ef_seq | (apply ef_mv; exact rfl; exact rfl) | (apply ef_ext; (iterate 3 exact rfl)) | (apply ef_bsl; exact rfl; (repeat (apply XVs.cons; exact rfl)); exact XVs.nil; exact rfl) | apply ef_nil | apply seqQ.normal | apply ef_ret | (apply ef_call; exact rfl; ((repeat (apply XVs.cons; exact rfl)); exact XVs.nil); (with_reducible first | exact h1 _ | exact within_c (k + 5) _ _ _ _ rfl | exact unless_c (k + 5) _ _ _ rfl)) | (apply ef_call; exact rfl; ((repeat (apply XVs.cons; exact rfl)); exact XVs.nil); (with_reducible apply first2_c); (iterate 3 exact rfl); (assumption)))
 (refine fin1 rfl (by exact rfl) rfl ?_)
 rfl
theorem mf_HasText : MT.mf 111 = some ⟨18, [(.tmp 4)], (.seq (.reg [gO 4 (.mv cF)]) (.seq (.seq (.reg [gO 5 (.mv (cI 0))]) (.block 0 (.loop [5, 0, 1] (.seq (.seq (.reg [gO 6 (.mv (.s 5)), gO 7 (.mv (.s 0)), gO 8 (.len (.s 7)), gO 9 (.bin .lss (.s 6) (.s 8))]) (.cond (.s 9) .skip (.exit 0))) (.seq (.block 1 (.seq (.reg [gO 12 (.mv (.s 0)), gO 13 (.mv (.s 5)), gO 14 (.ia 1 (.s 12) (.s 13)), gO 15 (.ld none (.s 14)), gO 16 (.mv (.s 1)), gO 17 (.seq false (.s 15) (.s 16))]) (.cond (.s 17) (.seq (.reg [gO 4 (.mv cT)]) .ret) .skip))) (.reg [gO 10 (.mv (.s 5)), gO 11 (.bin .add (.s 10) (cI 1)), gO 5 (.mv (.s 11))])))))) (.seq (.reg [gO 4 (.mv cF)]) .ret)))⟩ := by kernel_rfl
theorem HasText_z (k : Nat) (zs : List ByteArray) (s : ByteArray) (hx : zs.length ≤ 1000) : runZ MT (orA k) (itA k) 4000000 111 [.sl (zs.map encSt), encSt s] [] = some (Bo (zs.any fun o => o == s), []) := by
 have hl : (MV.sl (zs.map encSt)).slen = some zs.length := by simp [MV.slen]
 refine runZ_of mf_HasText (by simp) ?_
 simp only [argsL]
 repeat (first | apply ef_seq | (apply ef_mv; exact rfl; exact rfl) | apply ef_nil | apply seqQ.normal | apply ef_block)
 refine ef_loopf (α := Nat) (fun i => i ≤ zs.length ∧ (zs.any fun o => o == s) = ((zs.drop i).any fun o => o == s)) (fun i => [(5, I64 (i : Int))]) [(0, .sl (zs.map encSt)), (1, encSt s)] (fun _ => []) (fun i => zs.length - i) 0 [5] (fun _ => rfl) (by ((repeat (refine Hold.cons (by exact rfl) ?_)); exact Hold.nil)) (by ((repeat (refine Hold.cons (by exact rfl) ?_)); exact Hold.nil)) rfl rfl ⟨by omega, rfl⟩ (by simp; omega) ?_
 rintro i ⟨hi, hz⟩
 by_cases hlt : i < zs.length
 ·have e1 := at_map encSt zs i hlt
  have HD := Lib.hid (drop_at zs i hlt)
  have HZ := Lib.hid hz
  clear hz
  generalize zs[i] = c at e1 HD
  obtain ⟨t, ht⟩ : ∃ t, (c == s) = t := ⟨_, rfl⟩
  have HT := Lib.hid ht
  cases t
  ·have hcond : negIf false (c == s) = false := by rw [ht]; rfl
   repeat (first | apply ef_seq | (apply ef_mv; exact rfl; exact rfl) | (apply ef_bin; (iterate 3 exact rfl); (first | exact cmp_t rfl (by first | exact rfl | (simp only [cmpP]; omega)) | ((with_reducible refine bin_add (wrap_of ?_ ?_)) <;> omega))) | (apply ef_len; exact rfl; exact rfl; (assumption)) | (apply ef_ldr; exact rfl; exact rfl; (exact rfl)) | (apply ef_ias; (iterate 3 exact rfl); (omega); assumption; exact rfl) | (apply ef_sq; (iterate 3 exact rfl)) | apply ef_nil | apply seqQ.normal | apply blockQ.normal | apply ef_block | apply ef_skip | (apply ef_condt; exact rfl; (exact (rfl : true = true))) | (apply ef_condf; exact rfl; (assumption)))
   (first | (apply ef_condf; exact rfl; exact hcond) | skip)
   repeat (fail)
   (refine loopQ.normal _ _ ⟨i + 1, ⟨hlt, by rw [HZ.out, HD.out, List.any_cons, HT.out, Bool.false_or]⟩, (by first | (simp only; omega) | omega), ⟨by ((repeat (refine Hold.cons (by exact rfl) ?_)); exact Hold.nil), by ((repeat (refine Hold.cons (by exact rfl) ?_)); exact Hold.nil)⟩, .inl (Nat.le_refl _), (by first | exact List.take_length | exact rfl | exact takeF rfl rfl)⟩)
  ·have hcond : negIf false (c == s) = true := by rw [ht]; rfl
   repeat (first | apply ef_seq | (apply ef_mv; exact rfl; exact rfl) | (apply ef_bin; (iterate 3 exact rfl); (exact cmp_t rfl (by first | exact rfl | (simp only [cmpP]; omega)))) | (apply ef_len; exact rfl; exact rfl; (assumption)) | (apply ef_ldr; exact rfl; exact rfl; (exact rfl)) | (apply ef_ias; (iterate 3 exact rfl); (omega); assumption; exact rfl) | (apply ef_sq; (iterate 3 exact rfl)) | apply ef_nil | apply seqQ.normal | apply loopQ.ret | apply ef_ret | apply seqQ.ret | apply blockQ.ret | apply ef_block | apply ef_skip | (apply ef_condt; exact rfl; (first | exact (rfl : true = true) | assumption)))
   (first | (apply ef_condt; exact rfl; exact hcond) | skip)
   repeat (fail)
   (refine fin1 rfl (by exact rfl) rfl ?_)
   rw [HZ.out, HD.out, List.any_cons, HT.out, Bool.true_or]
 ·repeat (first | apply ef_seq | (apply ef_mv; exact rfl; exact rfl) | (apply ef_bin; (iterate 3 exact rfl); (exact cmp_f rfl (by simp only [cmpP]; omega))) | (apply ef_len; exact rfl; exact rfl; (assumption)) | apply ef_nil | apply seqQ.normal | apply loopQ.exit | apply ef_ret | apply ef_exit | apply seqQ.exit | apply blockQ.here | (apply ef_condf; exact rfl; (exact (rfl : false = false))))
  (refine fin1 rfl (by exact rfl) rfl ?_)
  rw [hz, List.drop_eq_nil_of_le (by omega)]; rfl
theorem HasText_c (k : Nat) (zs : List ByteArray) (s : ByteArray) (h : MHeap) {v : MV} (hx : zs.length ≤ 1000) (hv : frz 0 [] h 8 v = some (.sl (zs.map encSt))) {t : Bool} (ht : (zs.any fun o => o == s) = t) : orA (k + 1) 111 [v, encSt s] h = some (Bo t, h) := by
 subst ht
 exact callL (args' := [.sl (zs.map encSt), encSt s]) (by simp [List.mapM_cons, hv, frz_lt (m := encSt s) rfl]) rfl (HasText_z k zs s hx)
theorem mf_rCheckItems : MT.mf 21 = some ⟨56, [(.tmp 2), (.tmp 3)], (.seq (.reg [gO 2 (.mv (cI 0)), gO 3 (.mv (cI 0))]) (.seq (.seq (.reg [gO 6 (.mv (.s 0)), gO 7 (.len (.s 6)), gO 8 (.bin .gtr (.s 7) (cI 12))]) (.cond (.s 8) (.seq (.reg [gO 2 (.mv (cI 0)), gO 3 (.mv (cI 8))]) .ret) .skip)) (.seq (.reg [gO 4 (.nil0 1)]) (.seq (.seq (.reg [gO 5 (.mv (cI 0))]) (.block 0 (.loop [5, 0, 4] (.seq (.seq (.reg [gO 9 (.mv (.s 5)), gO 10 (.mv (.s 0)), gO 11 (.len (.s 10)), gO 12 (.bin .lss (.s 9) (.s 11))]) (.cond (.s 12) .skip (.exit 0))) (.seq (.block 1 (.seq (.seq (.reg [gO 15 (.mv (.s 0)), gO 16 (.mv (.s 5)), gO 17 (.ia 3 (.s 15) (.s 16)), gO 18 (.fa 0 (.s 17)), gO 19 (.ld none (.s 18)), gO 20 (.call 110 [.s 19]), gO 21 (.un .not (.s 20))]) (.cond (.s 21) (.seq (.reg [gO 22 (.mv (.s 5)), gO 2 (.mv (.s 22)), gO 3 (.mv (cI 4))]) .ret) .skip)) (.seq (.seq (.reg [gO 23 (.mv (.s 4)), gO 24 (.mv (.s 0)), gO 25 (.mv (.s 5)), gO 26 (.ia 3 (.s 24) (.s 25)), gO 27 (.fa 0 (.s 26)), gO 28 (.ld none (.s 27)), gO 29 (.call 111 [.s 23, .s 28])]) (.cond (.s 29) (.seq (.reg [gO 30 (.mv (.s 5)), gO 2 (.mv (.s 30)), gO 3 (.mv (cI 5))]) .ret) .skip)) (.seq (.seq (.reg [gO 31 (.mv (.s 0)), gO 32 (.mv (.s 5)), gO 33 (.ia 3 (.s 31) (.s 32)), gO 34 (.fa 1 (.s 33)), gO 35 (.ld none (.s 34)), gO 36 (.call 53 [.s 35, (cI 1), (cI 1000000)]), gO 37 (.un .not (.s 36)), gO 38 (.mv (.s 37)), ⟨some (38, false), some 39, .mv (.s 0)⟩, ⟨some (38, false), some 40, .mv (.s 5)⟩, ⟨some (38, false), some 41, .ia 3 (.s 39) (.s 40)⟩, ⟨some (38, false), some 42, .fa 2 (.s 41)⟩, ⟨some (38, false), some 43, .ld none (.s 42)⟩, ⟨some (38, false), some 44, .call 53 [.s 43, (cI 0), (cI 1000000)]⟩, ⟨some (38, false), some 45, .un .not (.s 44)⟩, gO 46 (.pick (.s 38) cT (.s 45))]) (.cond (.s 46) (.seq (.reg [gO 47 (.mv (.s 5)), gO 2 (.mv (.s 47)), gO 3 (.mv (cI 2))]) .ret) .skip)) (.reg [gO 48 (.mv (.s 4)), gO 49 (.mv (.s 0)), gO 50 (.mv (.s 5)), gO 51 (.ia 3 (.s 49) (.s 50)), gO 52 (.fa 0 (.s 51)), gO 53 (.ld none (.s 52)), gO 54 (.bsl (.lit (.string ⟨#[]⟩)) 1 1 [(0, (.s 53))]), gO 55 (.app 1 (.s 48) (.s 54)), gO 4 (.mv (.s 55))]))))) (.reg [gO 13 (.mv (.s 5)), gO 14 (.bin .add (.s 13) (cI 1)), gO 5 (.mv (.s 14))])))))) (.seq (.reg [gO 2 (.mv (cI 0)), gO 3 (.mv (cI 0))]) .ret)))))⟩ := by kernel_rfl
set_option maxHeartbeats 1000000 in
theorem rCheckItems_c (k : Nat) (l : List Tg) (h : MHeap) {v : MV} (hx : (l.length : Int) ≤ 9223372036854775807) (hn : ∀ z ∈ l, z.nm.size ≤ 1000) (hv : frz 0 [] h 8 v = some (.sl (l.map encTg))) : orA (k + 2) 21 [v] h = some (outD2 (itmE l), h) := by
 have hs : (MV.sl (l.map encTg)).slen = some l.length := by simp [MV.slen]
 refine callTT (args' := [.sl (l.map encTg)]) (by simp [List.mapM_cons, hv]) rfl (runZ_of mf_rCheckItems (by simp) ?_)
 simp only [argsL]
 have HC := Lib.hid (show itmE l = if 12 < l.length then (0, 8) else firT l 0 l from rfl)
 by_cases h1 : 12 < l.length
 ·repeat (first | apply ef_seq | (apply ef_mv; exact rfl; exact rfl) | (apply ef_bin; (iterate 3 exact rfl); (exact cmp_t rfl (by first | exact rfl | (simp only [cmpP]; omega)))) | (apply ef_len; exact rfl; exact rfl; (assumption)) | apply ef_nil | apply seqQ.normal | apply ef_ret | apply seqQ.ret | (apply ef_condt; exact rfl; (exact (rfl : true = true))))
  (refine fin2 rfl (by exact rfl) (by exact rfl) ?_)
  rw [HC.out, if_pos h1]
 ·repeat (first | apply ef_seq | (apply ef_mv; exact rfl; exact rfl) | (apply ef_bin; (iterate 3 exact rfl); (exact cmp_f rfl (by simp only [cmpP]; omega))) | (apply ef_len; exact rfl; exact rfl; (assumption)) | (apply ef_nil0; exact rfl) | apply ef_nil | apply seqQ.normal | apply ef_block | apply ef_skip | (apply ef_condf; exact rfl; (exact (rfl : false = false))))
  refine ef_loopf (α := Nat × List MV) (fun p => p.1 ≤ l.length ∧ firT l 0 l = firT l p.1 (l.drop p.1) ∧ p.2 = ((l.take p.1).map Tg.nm).map encSt) (fun p => [(5, I64 (p.1 : Int)), (4, .arr 0 0 p.1 p.1)]) [(0, .sl (l.map encTg))] (fun p => [⟨p.1, decide (p.1 = 0), 1, p.2⟩]) (fun p => l.length - p.1) (0, []) [5, 4] (fun _ => rfl) (by ((repeat (refine Hold.cons (by exact rfl) ?_)); exact Hold.nil)) (by ((repeat (refine Hold.cons (by exact rfl) ?_)); exact Hold.nil)) rfl rfl ⟨by omega, rfl, rfl⟩ (by simp; omega) ?_
  rintro ⟨i, rs⟩ ⟨hi, hz, hrs⟩
  try simp only at hi hz hrs ⊢
  by_cases hlt : i < l.length
  ·have e1 := at_map encTg l i hlt
   have HD := Lib.hid (drop_at l i hlt)
   have HZ := Lib.hid hz
   have hsz := hn l[i] (List.getElem_mem hlt)
   have hnext : ((l.take (i + 1)).map Tg.nm).map encSt = ((l.take i).map Tg.nm).map encSt ++ [encSt l[i].nm] := by
    rw [List.take_succ_eq_append_getElem hlt, List.map_append, List.map_append]; rfl
   have hrl : rs.length = i := by rw [hrs, List.length_map, List.length_map, List.length_take]; omega
   have hlr : ∀ j, ltL j rs = true := fun j => by rw [hrs]; exact ltL_St j _
   clear hz
   generalize l[i] = c at e1 HD hsz hnext
   have hN := Lib.hid hnext
   have hb := fun h => bIsName_c k c.nm h hsz rfl
   have hh := fun T h (q : frz 0 [] h 8 (.arr 0 0 i i) = some (.sl (((l.take i).map Tg.nm).map encSt))) (ht : (((l.take i).map Tg.nm).any fun o => o == c.nm) = T) => HasText_c k ((l.take i).map Tg.nm) c.nm h (v := .arr 0 0 i i) (by rw [List.length_map, List.length_take]; omega) q ht
   have hfz : frz 0 [] [⟨i, decide (i = 0), 1, rs⟩] 8 (.arr 0 0 i i) = some (.sl (((l.take i).map Tg.nm).map encSt)) := by
    rw [← hrs]
    exact frz_row (o := ⟨i, decide (i = 0), 1, rs⟩) rfl rfl hrl.symm (hlr 0) rfl
   have HE := Lib.hid (show tgE ((l.take i).map Tg.nm) c = if nameUB c.nm then (if ((l.take i).map Tg.nm).any (fun o => o == c.nm) then 5 else if inB c.c 1 1000000 && inB c.s 0 1000000 then 0 else 2) else 4 from rfl)
   have hrs := Lib.hid hrs
   clear hnext
   cases a1 : nameUB c.nm <;> rw [a1] at hb HE
   ·repeat (first | apply ef_seq | (apply ef_mv; exact rfl; exact rfl) | (apply ef_bin; (iterate 3 exact rfl); (exact cmp_t rfl (by first | exact rfl | (simp only [cmpP]; omega)))) | (apply ef_len; exact rfl; exact rfl; (assumption)) | (apply ef_ldr; exact rfl; exact rfl; (exact rfl)) | (apply ef_ias; (iterate 3 exact rfl); (omega); assumption; exact rfl) | (apply ef_far; exact rfl; exact rfl) | (apply ef_notF; exact rfl; exact rfl) | apply ef_nil | apply seqQ.normal | apply loopQ.ret | apply ef_ret | apply seqQ.ret | apply blockQ.ret | apply ef_block | apply ef_skip | (apply ef_condt; exact rfl; (exact (rfl : true = true))) | (apply ef_call; exact rfl; ((repeat (apply XVs.cons; exact rfl)); exact XVs.nil); (with_reducible exact hb _)))
    (refine fin2 rfl (by exact rfl) (by exact rfl) ?_)
    rw [HC.out, if_neg h1, HZ.out, HD.out, firT, HE.out]; rfl
   ·cases a2 : ((l.take i).map Tg.nm).any (fun o => o == c.nm) <;> rw [a2] at HE
    ·have hh2 := hh false _ hfz a2
     clear hh
     cases a3 : inB c.c 1 1000000 <;> rw [a3] at HE
     ·repeat (first | apply ef_seq | (apply ef_mv; exact rfl; exact rfl) | (apply ef_bin; (iterate 3 exact rfl); (exact cmp_t rfl (by first | exact rfl | (simp only [cmpP]; omega)))) | (apply ef_gn; exact rfl; (exact (rfl : true = true)); exact rfl) | (apply ef_pick; (iterate 3 exact rfl)) | (apply ef_len; exact rfl; exact rfl; (assumption)) | (apply ef_ldr; exact rfl; exact rfl; (exact rfl)) | (apply ef_ias; (iterate 3 exact rfl); (omega); assumption; exact rfl) | (apply ef_far; exact rfl; exact rfl) | (apply ef_notT; exact rfl; exact rfl) | (apply ef_notF; exact rfl; exact rfl) | apply ef_nil | apply seqQ.normal | apply loopQ.ret | apply ef_ret | apply seqQ.ret | apply blockQ.ret | apply ef_block | apply ef_skip | (apply ef_condt; exact rfl; (exact (rfl : true = true))) | (apply ef_condf; exact rfl; (exact (rfl : false = false))) | (apply ef_call; exact rfl; ((repeat (apply XVs.cons; exact rfl)); exact XVs.nil); (with_reducible first | exact hb _ | exact hh2 | exact Within_c k _ _ _ _ a3)))
      (refine fin2 rfl (by exact rfl) (by exact rfl) ?_)
      rw [HC.out, if_neg h1, HZ.out, HD.out, firT, HE.out]; rfl
     ·cases a4 : inB c.s 0 1000000 <;> rw [a4] at HE
      ·repeat (first | apply ef_seq | (apply ef_mv; exact rfl; exact rfl) | (apply ef_bin; (iterate 3 exact rfl); (exact cmp_t rfl (by first | exact rfl | (simp only [cmpP]; omega)))) | (apply ef_gy; exact rfl; (exact (rfl : false = false))) | (apply ef_pick; (iterate 3 exact rfl)) | (apply ef_len; exact rfl; exact rfl; (assumption)) | (apply ef_ldr; exact rfl; exact rfl; (exact rfl)) | (apply ef_ias; (iterate 3 exact rfl); (omega); assumption; exact rfl) | (apply ef_far; exact rfl; exact rfl) | (apply ef_notT; exact rfl; exact rfl) | (apply ef_notF; exact rfl; exact rfl) | apply ef_nil | apply seqQ.normal | apply loopQ.ret | apply ef_ret | apply seqQ.ret | apply blockQ.ret | apply ef_block | apply ef_skip | (apply ef_condt; exact rfl; (exact (rfl : true = true))) | (apply ef_condf; exact rfl; (exact (rfl : false = false))) | (apply ef_call; exact rfl; ((repeat (apply XVs.cons; exact rfl)); exact XVs.nil); (with_reducible first | exact hb _ | exact hh2 | exact Within_c k _ _ _ _ a3 | exact Within_c k _ _ _ _ a4)))
       (refine fin2 rfl (by exact rfl) (by exact rfl) ?_)
       rw [HC.out, if_neg h1, HZ.out, HD.out, firT, HE.out]; rfl
      ·repeat (first | apply ef_seq | (apply ef_mv; exact rfl; exact rfl) | (apply ef_bin; (iterate 3 exact rfl); (exact cmp_t rfl (by first | exact rfl | (simp only [cmpP]; omega)))) | (apply ef_gy; exact rfl; (exact (rfl : false = false))) | (apply ef_pick; (iterate 3 exact rfl)) | (apply ef_len; exact rfl; exact rfl; (assumption)) | (apply ef_ldr; exact rfl; exact rfl; (exact rfl)) | (apply ef_ias; (iterate 3 exact rfl); (omega); assumption; exact rfl) | (apply ef_far; exact rfl; exact rfl) | (apply ef_notT; exact rfl; exact rfl) | (apply ef_bsl; exact rfl; (repeat (apply XVs.cons; exact rfl)); exact XVs.nil; exact rfl) | apply ef_nil | apply seqQ.normal | apply ef_block | apply ef_skip | (apply ef_condt; exact rfl; (exact (rfl : true = true))) | (apply ef_condf; exact rfl; (exact (rfl : false = false))) | (apply ef_call; exact rfl; ((repeat (apply XVs.cons; exact rfl)); exact XVs.nil); (with_reducible first | exact hb _ | exact hh2 | exact Within_c k _ _ _ _ a3 | exact Within_c k _ _ _ _ a4)))
       (apply ef_app; (· exact rfl); (· exact rfl); (· exact rfl); (· exact rfl); (· exact rfl); (· exact rfl); (· (simp [hrl])); (· exact rfl); (· (simp [hrl]; omega)); (· (exact rfl)); (· exact rfl))
       repeat (first | (apply ef_mv; exact rfl; exact rfl) | (apply ef_bin; (iterate 3 exact rfl); (((with_reducible refine bin_add (wrap_of ?_ ?_)) <;> omega))) | apply ef_nil | apply seqQ.normal | apply blockQ.normal)
       (refine loopQ.normal _ _ ⟨(i + 1, rs ++ [encSt c.nm]), ⟨hlt, by rw [HZ.out, HD.out, firT, HE.out]; rfl, by simp only; rw [hN.out, hrs.out]⟩, (by show l.length - (i + 1) < l.length - i; omega), ⟨by ((repeat (refine Hold.cons (by exact rfl) ?_)); exact Hold.nil), by ((repeat (refine Hold.cons (by exact rfl) ?_)); exact Hold.nil)⟩, .inr ⟨by ((repeat (refine hdl_cons rfl (by first | rfl | (simp [MV.lt, ltL, ltL_Tg, hlr, ltL_app2, splice, MV.cells])) ?_)); exact hdl_nil), by (simp [hltL, ltL, MV.lt, ltL, ltL_Tg, hlr, ltL_app2, splice, MV.cells])⟩, by exact rfl⟩)
    ·have hh2 := hh true _ hfz a2
     clear hh
     repeat (first | apply ef_seq | (apply ef_mv; exact rfl; exact rfl) | (apply ef_bin; (iterate 3 exact rfl); (exact cmp_t rfl (by first | exact rfl | (simp only [cmpP]; omega)))) | (apply ef_len; exact rfl; exact rfl; (assumption)) | (apply ef_ldr; exact rfl; exact rfl; (exact rfl)) | (apply ef_ias; (iterate 3 exact rfl); (omega); assumption; exact rfl) | (apply ef_far; exact rfl; exact rfl) | (apply ef_notT; exact rfl; exact rfl) | apply ef_nil | apply seqQ.normal | apply loopQ.ret | apply ef_ret | apply seqQ.ret | apply blockQ.ret | apply ef_block | apply ef_skip | (apply ef_condt; exact rfl; (exact (rfl : true = true))) | (apply ef_condf; exact rfl; (exact (rfl : false = false))) | (apply ef_call; exact rfl; ((repeat (apply XVs.cons; exact rfl)); exact XVs.nil); (with_reducible first | exact hb _ | exact hh2)))
     (refine fin2 rfl (by exact rfl) (by exact rfl) ?_)
     rw [HC.out, if_neg h1, HZ.out, HD.out, firT, HE.out]; rfl
  ·repeat (first | apply ef_seq | (apply ef_mv; exact rfl; exact rfl) | (apply ef_bin; (iterate 3 exact rfl); (exact cmp_f rfl (by simp only [cmpP]; omega))) | (apply ef_len; exact rfl; exact rfl; (assumption)) | apply ef_nil | apply seqQ.normal | apply loopQ.exit | apply ef_ret | apply ef_exit | apply seqQ.exit | apply blockQ.here | (apply ef_condf; exact rfl; (exact (rfl : false = false))))
   (refine fin2 rfl (by exact rfl) (by exact rfl) ?_)
   rw [HC.out, if_neg h1, hz, List.drop_eq_nil_of_le (by omega)]; rfl
theorem mf_rItemsErr : MT.mf 17 = some ⟨11, [(.tmp 2)], (.seq (.reg [gO 2 (.mv (cI 0))]) (.seq (.reg [gO 6 (.mv (.s 0)), gO 7 (.call 21 [.s 6]), gO 5 (.mv (.s 7)), gO 8 (.ext (.s 5) 0), gO 9 (.ext (.s 5) 1), gO 3 (.mv (.s 8)), gO 4 (.mv (.s 9))]) (.seq (.reg [gO 10 (.mv (.s 4)), gO 2 (.mv (.s 10))]) .ret)))⟩ := by kernel_rfl
theorem rItemsErr_c (k : Nat) (l : List Tg) (h : MHeap) {v : MV} (hx : (l.length : Int) ≤ 9223372036854775807) (hn : ∀ z ∈ l, z.nm.size ≤ 1000) (hv : frz 0 [] h 8 v = some (.sl (l.map encTg))) : orA (k + 3) 17 [v] h = some (I64 (itmE l).2, h) := by
 refine callL (args' := [.sl (l.map encTg)]) (by simp [List.mapM_cons, hv]) rfl (runZ_of mf_rItemsErr (by simp) ?_)
 simp only [argsL]
 repeat (first | apply ef_seq | (apply ef_mv; exact rfl; exact rfl) | (apply ef_ext; (iterate 3 exact rfl)) | apply ef_nil | apply seqQ.normal | apply ef_ret | (apply ef_call; exact rfl; ((repeat (apply XVs.cons; exact rfl)); exact XVs.nil); (with_reducible exact rCheckItems_c k l _ hx hn (frz_sl (ltL_Tg 0 l)))))
 (refine fin1 rfl (by exact rfl) rfl ?_)
 rfl
theorem mf_rBudgetErr : MT.mf 22 = some ⟨14, [(.tmp 4)], (.seq (.reg [gO 4 (.mv (cI 0))]) (.seq (.seq (.reg [gO 6 (.mv (.s 0)), gO 7 (.call 17 [.s 6]), gO 5 (.mv (.s 7))]) (.seq (.reg [gO 8 (.mv (.s 5)), gO 9 (.bin .neq (.s 8) (cI 0))]) (.cond (.s 9) (.seq (.reg [gO 10 (.mv (.s 5)), gO 4 (.mv (.s 10))]) .ret) .skip))) (.seq (.seq (.reg [gO 11 (.mv (.s 1)), gO 12 (.call 53 [.s 11, (cI 0), (cI 1000000)]), gO 13 (.un .not (.s 12))]) (.cond (.s 13) (.seq (.reg [gO 4 (.mv (cI 2))]) .ret) .skip)) (.seq (.reg [gO 4 (.mv (cI 0))]) .ret))))⟩ := by kernel_rfl
theorem rBudgetErr_c (k : Nat) (l : List Tg) (B : Int) (h : MHeap) {v : MV} (hx : (l.length : Int) ≤ 9223372036854775807) (hn : ∀ z ∈ l, z.nm.size ≤ 1000) (hv : frz 0 [] h 8 v = some (.sl (l.map encTg))) {e : Int} (he : bdgE l B = e) : orA (k + 4) 22 [v, I64 B] h = some (I64 e, h) := by
 refine callL (args' := [.sl (l.map encTg), I64 B]) (by simp [List.mapM_cons, hv, frz_lt (m := I64 B) rfl]) rfl (runZ_of mf_rBudgetErr (by simp) ?_)
 simp only [argsL]
 have h1 := fun h => rItemsErr_c k l h (v := .sl (l.map encTg)) hx hn (frz_sl (ltL_Tg 0 l))
 have HE := Lib.hid (show e = if (itmE l).2 = 0 then unl (inB B 0 1000000) 2 else (itmE l).2 by
  rw [← he]; unfold bdgE
  by_cases h0 : (itmE l).2 = 0
  ·rw [h0]; cases inB B 0 1000000 <;> simp [firstE, unl]
  ·simp [firstE, h0])
 clear he
 generalize (itmE l).2 = a at *
 by_cases h0 : a = 0
 ·cases h2 : inB B 0 1000000
  ·repeat (first | apply ef_seq | (apply ef_mv; exact rfl; exact rfl) | (apply ef_bin; (iterate 3 exact rfl); (exact cmp_f rfl (by simp only [cmpP]; omega))) | (apply ef_notF; exact rfl; exact rfl) | apply ef_nil | apply seqQ.normal | apply ef_ret | apply seqQ.ret | apply ef_skip | (apply ef_condt; exact rfl; (exact (rfl : true = true))) | (apply ef_condf; exact rfl; (exact (rfl : false = false))) | (apply ef_call; exact rfl; ((repeat (apply XVs.cons; exact rfl)); exact XVs.nil); (with_reducible first | exact h1 _ | exact Within_c (k + 2) _ _ _ _ h2)))
   (refine fin1 rfl (by exact rfl) rfl ?_)
   rw [HE.out, if_pos h0, h2]; rfl
  ·repeat (first | apply ef_seq | (apply ef_mv; exact rfl; exact rfl) | (apply ef_bin; (iterate 3 exact rfl); (exact cmp_f rfl (by simp only [cmpP]; omega))) | (apply ef_notT; exact rfl; exact rfl) | apply ef_nil | apply seqQ.normal | apply ef_ret | apply ef_skip | (apply ef_condf; exact rfl; (exact (rfl : false = false))) | (apply ef_call; exact rfl; ((repeat (apply XVs.cons; exact rfl)); exact XVs.nil); (with_reducible first | exact h1 _ | exact Within_c (k + 2) _ _ _ _ h2)))
   (refine fin1 rfl (by exact rfl) rfl ?_)
   rw [HE.out, if_pos h0, h2]; rfl
 ·repeat (first | apply ef_seq | (apply ef_mv; exact rfl; exact rfl) | (apply ef_bin; (iterate 3 exact rfl); (exact cmp_t rfl (by first | exact rfl | (simp only [cmpP]; omega)))) | apply ef_nil | apply seqQ.normal | apply ef_ret | apply seqQ.ret | (apply ef_condt; exact rfl; (exact (rfl : true = true))) | (apply ef_call; exact rfl; ((repeat (apply XVs.cons; exact rfl)); exact XVs.nil); (with_reducible exact h1 _)))
  (refine fin1 rfl (by exact rfl) rfl ?_)
  rw [HE.out, if_neg h0]
theorem mf_CopyItems : MT.mf 19 = some ⟨6, [(.tmp 2)], (.seq (.reg [gO 2 (.nil0 3)]) (.seq (.reg [gO 3 (.bsl (.agg [(.lit (.string ⟨#[]⟩)), (.lit (.int .i64 0)), (.lit (.int .i64 0))]) 3 0 []), gO 4 (.mv (.s 0)), gO 5 (.app 3 (.s 3) (.s 4)), gO 2 (.mv (.s 5))]) .ret))⟩ := by kernel_rfl
theorem CopyItems_z (k : Nat) (l : List Tg) (hx : l.length ≤ 1000) : runZ MT (orA k) (itA k) 4000000 19 [.sl (l.map encTg)] [] = some (.arr 0 0 l.length 0, [⟨0, false, 3, l.map encTg⟩]) := by
 refine runZ_of mf_CopyItems (by simp) ?_
 simp only [argsL]
 cases l with
 | nil =>
  repeat (first | apply ef_seq | (apply ef_mv; exact rfl; exact rfl) | (apply ef_nil0; exact rfl) | (apply ef_bsl; exact rfl; (repeat (apply XVs.cons; exact rfl)); exact XVs.nil; exact rfl) | apply ef_nil | apply seqQ.normal)
  (apply ef_app0; (iterate 8 exact rfl))
  repeat (first | (apply ef_mv; exact rfl; exact rfl) | apply ef_nil | apply seqQ.normal | apply ef_ret)
  (apply fin_arr; (· exact rfl); (· exact rfl); (· exact rfl); (· exact rfl); (· (exact Nat.le_refl _)); (· (exact rfl)); (· (exact rfl)); (· exact rfl); (· exact rfl); (· (exact rfl)))
 | cons z zs =>
  have hs : ((z :: zs).map encTg).all (MV.sOk 3) = true := by
   rw [List.all_eq_true]
   intro m hm
   obtain ⟨_, _, rfl⟩ := List.mem_map.1 hm
   rfl
  repeat (first | apply ef_seq | (apply ef_mv; exact rfl; exact rfl) | (apply ef_nil0; exact rfl) | (apply ef_bsl; exact rfl; (repeat (apply XVs.cons; exact rfl)); exact XVs.nil; exact rfl) | apply ef_nil | apply seqQ.normal)
  (apply ef_app; (· exact rfl); (· exact rfl); (· exact rfl); (· exact rfl); (· exact rfl); (· exact rfl); (· exact rfl); (· exact rfl); (· (simp at hx ⊢; omega)); (· exact hs); (· exact rfl))
  repeat (first | (apply ef_mv; exact rfl; exact rfl) | apply ef_nil | apply seqQ.normal | apply ef_ret)
  (apply fin_arr; (· exact rfl); (· exact rfl); (· exact rfl); (· exact rfl); (· simp); (· (exact ltL_Tg 0 (z :: zs))); (· (simp; rw [List.take_of_length_le (by simp)])); (· exact rfl); (· exact rfl); (· (simp)))
theorem CopyItems_c (k : Nat) (l : List Tg) (h : MHeap) (hx : l.length ≤ 1000) : orA (k + 1) 19 [.sl (l.map encTg)] h = some (.arr h.length 0 l.length 0, h ++ [⟨0, false, 3, l.map encTg⟩]) := by
 have := callA (k := k) (h := h) (args := [.sl (l.map encTg)]) (args' := [.sl (l.map encTg)]) (frzL_lt (by simp [ltL, MV.lt, ltL_Tg])) rfl (CopyItems_z k l hx) (by simp [okV, ok1, MV.lt, MV.pure]) (by simp [okH, ltL_Tg, pureL_Tg])
 simpa [shV, sh1] using this
def fewT (l : List Tg) : Bool := decide (l.length ≤ 14) && l.all fun z => decide (z.nm.size ≤ 20)
theorem mf_Few : MT.mf 16 = some ⟨20, [(.tmp 2)], (.seq (.reg [gO 2 (.mv cF)]) (.seq (.seq (.reg [gO 4 (.mv (.s 0)), gO 5 (.len (.s 4)), gO 6 (.bin .gtr (.s 5) (cI 14))]) (.cond (.s 6) (.seq (.reg [gO 2 (.mv cF)]) .ret) .skip)) (.seq (.seq (.reg [gO 3 (.mv (cI 0))]) (.block 0 (.loop [3, 0] (.seq (.seq (.reg [gO 7 (.mv (.s 3)), gO 8 (.mv (.s 0)), gO 9 (.len (.s 8)), gO 10 (.bin .lss (.s 7) (.s 9))]) (.cond (.s 10) .skip (.exit 0))) (.seq (.block 1 (.seq (.reg [gO 13 (.mv (.s 0)), gO 14 (.mv (.s 3)), gO 15 (.ia 3 (.s 13) (.s 14)), gO 16 (.fa 0 (.s 15)), gO 17 (.ld none (.s 16)), gO 18 (.sln (.s 17)), gO 19 (.bin .gtr (.s 18) (cI 20))]) (.cond (.s 19) (.seq (.reg [gO 2 (.mv cF)]) .ret) .skip))) (.reg [gO 11 (.mv (.s 3)), gO 12 (.bin .add (.s 11) (cI 1)), gO 3 (.mv (.s 12))])))))) (.seq (.reg [gO 2 (.mv cT)]) .ret))))⟩ := by kernel_rfl
theorem Few_z (k : Nat) (l : List Tg) (hlen : (l.length : Int) ≤ 9223372036854775807) (hsz : ∀ z ∈ l, (z.nm.size : Int) ≤ 9223372036854775807) : runZ MT (orA k) (itA k) 4000000 16 [.sl (l.map encTg)] [] = some (Bo (fewT l), []) := by
 have hs : (MV.sl (l.map encTg)).slen = some l.length := by simp [MV.slen]
 refine runZ_of mf_Few (by simp) ?_
 simp only [argsL]
 unfold fewT
 by_cases h1 : 14 < l.length
 ·repeat (first | apply ef_seq | (apply ef_mv; exact rfl; exact rfl) | (apply ef_bin; (iterate 3 exact rfl); (exact cmp_t rfl (by first | exact rfl | (simp only [cmpP]; omega)))) | (apply ef_len; exact rfl; exact rfl; (assumption)) | apply ef_nil | apply seqQ.normal | apply ef_ret | apply seqQ.ret | (apply ef_condt; exact rfl; (exact (rfl : true = true))))
  (refine fin1 rfl (by exact rfl) rfl ?_)
  simp; omega
 ·have hd : decide (l.length ≤ 14) = true := decide_eq_true (by omega)
  rw [hd, Bool.true_and]
  repeat (first | apply ef_seq | (apply ef_mv; exact rfl; exact rfl) | (apply ef_bin; (iterate 3 exact rfl); (exact cmp_f rfl (by simp only [cmpP]; omega))) | (apply ef_len; exact rfl; exact rfl; (assumption)) | apply ef_nil | apply seqQ.normal | apply ef_block | apply ef_skip | (apply ef_condf; exact rfl; (exact (rfl : false = false))))
  refine ef_loopf (α := Nat) (fun i => i ≤ l.length ∧ (l.all fun z => decide (z.nm.size ≤ 20)) = ((l.drop i).all fun z => decide (z.nm.size ≤ 20))) (fun i => [(3, I64 (i : Int))]) [(0, .sl (l.map encTg))] (fun _ => []) (fun i => l.length - i) 0 [3] (fun _ => rfl) (by ((repeat (refine Hold.cons (by exact rfl) ?_)); exact Hold.nil)) (by ((repeat (refine Hold.cons (by exact rfl) ?_)); exact Hold.nil)) rfl rfl ⟨by omega, rfl⟩ (by simp; omega) ?_
  rintro i ⟨hi, hz⟩
  by_cases hlt : i < l.length
  ·have e1 := at_map encTg l i hlt
   have HD := Lib.hid (drop_at l i hlt)
   have HZ := Lib.hid hz
   have hc := hsz l[i] (List.getElem_mem hlt)
   clear hz
   generalize l[i] = c at e1 HD hc
   by_cases h2 : 20 < c.nm.size
   ·repeat (first | apply ef_seq | (apply ef_mv; exact rfl; exact rfl) | (apply ef_bin; (iterate 3 exact rfl); (exact cmp_t rfl (by first | exact rfl | (simp only [cmpP]; omega)))) | (apply ef_len; exact rfl; exact rfl; (assumption)) | (apply ef_ldr; exact rfl; exact rfl; (exact rfl)) | (apply ef_ias; (iterate 3 exact rfl); (omega); assumption; exact rfl) | (apply ef_far; exact rfl; exact rfl) | (apply ef_sln; exact rfl; exact rfl) | apply ef_nil | apply seqQ.normal | apply loopQ.ret | apply ef_ret | apply seqQ.ret | apply blockQ.ret | apply ef_block | apply ef_skip | (apply ef_condt; exact rfl; (exact (rfl : true = true))))
    (refine fin1 rfl (by exact rfl) rfl ?_)
    rw [HZ.out, HD.out, List.all_cons, decide_eq_false (by omega)]; rfl
   ·repeat (first | apply ef_seq | (apply ef_mv; exact rfl; exact rfl) | (apply ef_bin; (iterate 3 exact rfl); (first | exact cmp_t rfl (by first | exact rfl | (simp only [cmpP]; omega)) | exact cmp_f rfl (by simp only [cmpP]; omega) | ((with_reducible refine bin_add (wrap_of ?_ ?_)) <;> omega))) | (apply ef_len; exact rfl; exact rfl; (assumption)) | (apply ef_ldr; exact rfl; exact rfl; (exact rfl)) | (apply ef_ias; (iterate 3 exact rfl); (omega); assumption; exact rfl) | (apply ef_far; exact rfl; exact rfl) | (apply ef_sln; exact rfl; exact rfl) | apply ef_nil | apply seqQ.normal | apply blockQ.normal | apply ef_block | apply ef_skip | (apply ef_condt; exact rfl; (exact (rfl : true = true))) | (apply ef_condf; exact rfl; (exact (rfl : false = false))))
    (refine loopQ.normal _ _ ⟨i + 1, ⟨hlt, by rw [HZ.out, HD.out, List.all_cons, decide_eq_true (show c.nm.size ≤ 20 by omega), Bool.true_and]⟩, (by first | (simp only; omega) | omega), ⟨by ((repeat (refine Hold.cons (by exact rfl) ?_)); exact Hold.nil), by ((repeat (refine Hold.cons (by exact rfl) ?_)); exact Hold.nil)⟩, .inl (Nat.le_refl _), (by first | exact List.take_length | exact rfl | exact takeF rfl rfl)⟩)
  ·repeat (first | apply ef_seq | (apply ef_mv; exact rfl; exact rfl) | (apply ef_bin; (iterate 3 exact rfl); (exact cmp_f rfl (by simp only [cmpP]; omega))) | (apply ef_len; exact rfl; exact rfl; (assumption)) | apply ef_nil | apply seqQ.normal | apply loopQ.exit | apply ef_ret | apply ef_exit | apply seqQ.exit | apply blockQ.here | (apply ef_condf; exact rfl; (exact (rfl : false = false))))
   (refine fin1 rfl (by exact rfl) rfl ?_)
   rw [hz, List.drop_eq_nil_of_le (by omega)]; rfl
theorem Few_c (k : Nat) (l : List Tg) (h : MHeap) (hlen : (l.length : Int) ≤ 9223372036854775807) (hsz : ∀ z ∈ l, (z.nm.size : Int) ≤ 9223372036854775807) {t : Bool} (ht : fewT l = t) : orA (k + 1) 16 [.sl (l.map encTg)] h = some (Bo t, h) := by
 subst ht
 exact callL (args' := [.sl (l.map encTg)]) (frzL_lt (by simp [ltL, MV.lt, ltL_Tg])) rfl (Few_z k l hlen hsz)
end Go.Proofs.YtnmgpbihknjdjaaGreatDoor

/- Contracts: sets of targets compared; the document's sets. -/
namespace Go.Proofs.YtnmgpbihknjdjaaGreatDoor
open Go.RowKit
set_option linter.unusedVariables false
abbrev natI (S : List Nat) : List Int := S.map fun i : Nat => (i : Int)
def cmpR : List Nat → List Nat → Int
 | [], [] => 0
 | [], _ :: _ => -1
 | _ :: _, [] => 1
 | a :: l, b :: m => if a < b then -1 else if b < a then 1 else cmpR l m
theorem cmpR_neg : ∀ a b : List Nat, cmpR a b < 0 ↔ befL a b = true
 | [], [] => by simp [cmpR, befL]
 | [], b :: m => by simp [cmpR, befL]
 | a :: l, [] => by simp [cmpR, befL]
 | a :: l, b :: m => by
  have := cmpR_neg l m
  rw [cmpR, befL]
  by_cases h1 : a < b
  ·rw [if_pos h1, if_neg (by omega)]; simp [h1]
  ·by_cases h2 : b < a
   ·rw [if_neg h1, if_pos h2, if_neg (by omega)]; simp [h1]
   ·rw [if_neg h1, if_neg h2, if_pos (by omega)]; exact this
theorem at_nat (S : List Nat) (i : Nat) (h : i < S.length) : ((natI S).map I64)[((i : Nat) : Int).toNat]? = some (I64 (S[i] : Nat)) := by
 rw [Int.toNat_natCast, List.getElem?_map, List.getElem?_map, List.getElem?_eq_getElem h]; rfl
theorem nat_len (S : List Nat) : ((natI S).map I64).length = S.length := by rw [List.length_map, List.length_map]
theorem mf_isNaN : MT.mf 206 = some mfW_l206 := mfW_q206
theorem isNaN_c (k : Nat) (a : Int) (h : MHeap) : orA (k + 1) 206 [I64 a] h = some (Bo false, h) := by
 refine callL (frz_lits [.int .i64 a]) rfl (runZ_of mf_isNaN (by simp) ?_)
 simp only [argsL, List.map_cons, List.map_nil]
 repeat (first | apply ef_seq | (apply ef_mv; exact rfl; exact rfl) | (apply ef_bin; (iterate 3 exact rfl); (exact cmp_f rfl (by simp only [cmpP]; omega))) | apply ef_nil | apply seqQ.normal | apply ef_ret)
 (refine fin1 rfl (by exact rfl) rfl ?_)
 rfl
theorem mf_cmpInt : MT.mf 179 = some mfW_l179 := mfW_q179
theorem cmpInt_c (k : Nat) (a b : Int) (h : MHeap) {v : Int} (hv : (if a < b then -1 else if b < a then 1 else 0) = v) : orA (k + 2) 179 [I64 a, I64 b] h = some (I64 v, h) := by
 subst hv
 refine callL (frz_lits [.int .i64 a, .int .i64 b]) rfl (runZ_of mf_cmpInt (by simp) ?_)
 simp only [argsL, List.map_cons, List.map_nil]
 by_cases h1 : a < b
 ·repeat (first | apply ef_seq | (apply ef_mv; exact rfl; exact rfl) | (apply ef_bin; (iterate 3 exact rfl); (exact cmp_t rfl (by first | exact rfl | (simp only [cmpP]; omega)))) | apply ef_nil | apply seqQ.normal | apply ef_ret | apply seqQ.ret | apply ef_skip | (apply ef_condt; exact rfl; (exact (rfl : true = true))) | (apply ef_condf; exact rfl; (exact (rfl : false = false))) | (apply ef_call; exact rfl; ((repeat (apply XVs.cons; exact rfl)); exact XVs.nil); (with_reducible exact isNaN_c k _ _)))
  (refine fin1 rfl (by exact rfl) rfl ?_)
  rw [if_pos h1]
 ·by_cases h2 : b < a
  ·repeat (first | apply ef_seq | (apply ef_mv; exact rfl; exact rfl) | (apply ef_bin; (iterate 3 exact rfl); (first | exact cmp_t rfl (by first | exact rfl | (simp only [cmpP]; omega)) | exact cmp_f rfl (by simp only [cmpP]; omega))) | apply ef_nil | apply seqQ.normal | apply ef_ret | apply seqQ.ret | apply ef_skip | (apply ef_condt; exact rfl; (exact (rfl : true = true))) | (apply ef_condf; exact rfl; (exact (rfl : false = false))) | (apply ef_call; exact rfl; ((repeat (apply XVs.cons; exact rfl)); exact XVs.nil); (with_reducible exact isNaN_c k _ _)))
   (refine fin1 rfl (by exact rfl) rfl ?_)
   rw [if_neg h1, if_pos h2]
  ·repeat (first | apply ef_seq | (apply ef_mv; exact rfl; exact rfl) | (apply ef_bin; (iterate 3 exact rfl); (exact cmp_f rfl (by simp only [cmpP]; omega))) | apply ef_nil | apply seqQ.normal | apply ef_ret | apply ef_skip | (apply ef_condf; exact rfl; (exact (rfl : false = false))) | (apply ef_call; exact rfl; ((repeat (apply XVs.cons; exact rfl)); exact XVs.nil); (with_reducible exact isNaN_c k _ _)))
   (refine fin1 rfl (by exact rfl) rfl ?_)
   rw [if_neg h1, if_neg h2]
theorem mf_Compare : MT.mf 109 = some mfW_l109 := mfW_q109
theorem Compare_z (k : Nat) (a b : List Nat) (ha : a.length ≤ 1000) (hb : b.length ≤ 1000) : runZ MT (orA (k + 2)) (itA (k + 2)) 4000000 109 [.sl ((natI a).map I64), .sl ((natI b).map I64)] [] = some (I64 (cmpR a b), []) := by
 have l1 : (MV.sl ((natI a).map I64)).slen = some a.length := by simp [MV.slen]
 have l2 : (MV.sl ((natI b).map I64)).slen = some b.length := by simp [MV.slen]
 refine runZ_of mf_Compare (by simp) ?_
 simp only [argsL]
 repeat (first | apply ef_seq | (apply ef_mv; exact rfl; exact rfl) | (apply ef_len; exact rfl; exact rfl; (assumption)) | apply ef_nil | apply seqQ.normal | apply ef_block)
 refine ef_loopf (α := Nat) (fun i => i ≤ a.length ∧ i ≤ b.length ∧ cmpR a b = cmpR (a.drop i) (b.drop i)) (fun i => [(11, I64 (i : Int))]) [(10, I64 (a.length : Int)), (9, .sl ((natI a).map I64)), (1, .sl ((natI b).map I64)), (0, .sl ((natI a).map I64))] (fun _ => []) (fun i => a.length - i) 0 [11] (fun _ => rfl) (by ((repeat (refine Hold.cons (by exact rfl) ?_)); exact Hold.nil)) (by ((repeat (refine Hold.cons (by exact rfl) ?_)); exact Hold.nil)) rfl rfl ⟨by omega, by omega, rfl⟩ (by simp; omega) ?_
 rintro i ⟨hi, hj, hz⟩
 by_cases hlt : i < a.length
 ·have e1 := at_nat a i hlt
  have HD := drop_at a i hlt
  rw [HD] at hz
  by_cases hlb : i < b.length
  ·have e2 := at_nat b i hlb
   have HD2 := drop_at b i hlb
   rw [HD2, cmpR] at hz
   generalize a[i] = x at *
   generalize b[i] = y at *
   have hc := fun h => cmpInt_c k (x : Int) (y : Int) h rfl
   clear HD HD2
   by_cases c1 : x < y
   ·rw [if_pos c1] at hz
    rw [if_pos (by omega)] at hc
    have HZ := Lib.hid hz
    repeat (first | apply ef_seq | (apply ef_mv; exact rfl; exact rfl) | (apply ef_bin; (iterate 3 exact rfl); (first | exact cmp_t rfl (by first | exact rfl | (simp only [cmpP]; omega)) | exact cmp_f rfl (by simp only [cmpP]; omega))) | (apply ef_len; exact rfl; exact rfl; (assumption)) | (apply ef_ldr; exact rfl; exact rfl; (exact rfl)) | (apply ef_ias; (iterate 3 exact rfl); (omega); assumption; exact rfl) | apply ef_nil | apply seqQ.normal | apply loopQ.ret | apply ef_ret | apply seqQ.ret | apply blockQ.ret | apply ef_block | apply ef_skip | (apply ef_condt; exact rfl; (exact (rfl : true = true))) | (apply ef_condf; exact rfl; (exact (rfl : false = false))) | (apply ef_call; exact rfl; ((repeat (apply XVs.cons; exact rfl)); exact XVs.nil); (with_reducible exact hc _)))
    (refine fin1 rfl (by exact rfl) rfl ?_)
    rw [HZ.out]
   ·by_cases c2 : y < x
    ·rw [if_neg c1, if_pos c2] at hz
     rw [if_neg (by omega), if_pos (by omega)] at hc
     have HZ := Lib.hid hz
     repeat (first | apply ef_seq | (apply ef_mv; exact rfl; exact rfl) | (apply ef_bin; (iterate 3 exact rfl); (first | exact cmp_t rfl (by first | exact rfl | (simp only [cmpP]; omega)) | exact cmp_f rfl (by simp only [cmpP]; omega))) | (apply ef_len; exact rfl; exact rfl; (assumption)) | (apply ef_ldr; exact rfl; exact rfl; (exact rfl)) | (apply ef_ias; (iterate 3 exact rfl); (omega); assumption; exact rfl) | apply ef_nil | apply seqQ.normal | apply loopQ.ret | apply ef_ret | apply seqQ.ret | apply blockQ.ret | apply ef_block | apply ef_skip | (apply ef_condt; exact rfl; (exact (rfl : true = true))) | (apply ef_condf; exact rfl; (exact (rfl : false = false))) | (apply ef_call; exact rfl; ((repeat (apply XVs.cons; exact rfl)); exact XVs.nil); (with_reducible exact hc _)))
     (refine fin1 rfl (by exact rfl) rfl ?_)
     rw [HZ.out]
    ·rw [if_neg c1, if_neg c2] at hz
     rw [if_neg (by omega), if_neg (by omega)] at hc
     have HZ := Lib.hid hz
     repeat (first | apply ef_seq | (apply ef_mv; exact rfl; exact rfl) | (apply ef_bin; (iterate 3 exact rfl); (first | exact cmp_t rfl (by first | exact rfl | (simp only [cmpP]; omega)) | exact cmp_f rfl (by simp only [cmpP]; omega) | ((with_reducible refine bin_add (wrap_of ?_ ?_)) <;> omega))) | (apply ef_len; exact rfl; exact rfl; (assumption)) | (apply ef_ldr; exact rfl; exact rfl; (exact rfl)) | (apply ef_ias; (iterate 3 exact rfl); (omega); assumption; exact rfl) | apply ef_nil | apply seqQ.normal | apply blockQ.normal | apply ef_block | apply ef_skip | (apply ef_condt; exact rfl; (exact (rfl : true = true))) | (apply ef_condf; exact rfl; (exact (rfl : false = false))) | (apply ef_call; exact rfl; ((repeat (apply XVs.cons; exact rfl)); exact XVs.nil); (with_reducible exact hc _)))
     (refine loopQ.normal _ _ ⟨i + 1, ⟨hlt, hlb, HZ.out⟩, (by first | (simp only; omega) | omega), ⟨by ((repeat (refine Hold.cons (by exact rfl) ?_)); exact Hold.nil), by ((repeat (refine Hold.cons (by exact rfl) ?_)); exact Hold.nil)⟩, .inl (Nat.le_refl _), (by first | exact List.take_length | exact rfl | exact takeF rfl rfl)⟩)
  ·rw [List.drop_eq_nil_of_le (show b.length ≤ i by omega)] at hz
   have HZ := Lib.hid hz
   repeat (first | apply ef_seq | (apply ef_mv; exact rfl; exact rfl) | (apply ef_bin; (iterate 3 exact rfl); (exact cmp_t rfl (by first | exact rfl | (simp only [cmpP]; omega)))) | (apply ef_len; exact rfl; exact rfl; (assumption)) | (apply ef_ldr; exact rfl; exact rfl; (exact rfl)) | (apply ef_ias; (iterate 3 exact rfl); (omega); assumption; exact rfl) | apply ef_nil | apply seqQ.normal | apply loopQ.ret | apply ef_ret | apply seqQ.ret | apply blockQ.ret | apply ef_block | apply ef_skip | (apply ef_condt; exact rfl; (exact (rfl : true = true))))
   (refine fin1 rfl (by exact rfl) rfl ?_)
   rw [HZ.out]; rfl
 ·rw [List.drop_eq_nil_of_le (show a.length ≤ i by omega)] at hz
  by_cases hlb : i < b.length
  ·rw [drop_at b i hlb] at hz
   have HZ := Lib.hid hz
   repeat (first | apply ef_seq | (apply ef_mv; exact rfl; exact rfl) | (apply ef_bin; (iterate 3 exact rfl); (first | exact cmp_t rfl (by first | exact rfl | (simp only [cmpP]; omega)) | exact cmp_f rfl (by simp only [cmpP]; omega))) | (apply ef_len; exact rfl; exact rfl; (assumption)) | apply ef_nil | apply seqQ.normal | apply loopQ.exit | apply ef_ret | apply seqQ.ret | apply ef_exit | apply seqQ.exit | apply blockQ.here | (apply ef_condt; exact rfl; (exact (rfl : true = true))) | (apply ef_condf; exact rfl; (exact (rfl : false = false))))
   (refine fin1 rfl (by exact rfl) rfl ?_)
   rw [HZ.out]; rfl
  ·rw [List.drop_eq_nil_of_le (show b.length ≤ i by omega)] at hz
   have HZ := Lib.hid hz
   repeat (first | apply ef_seq | (apply ef_mv; exact rfl; exact rfl) | (apply ef_bin; (iterate 3 exact rfl); (exact cmp_f rfl (by simp only [cmpP]; omega))) | (apply ef_len; exact rfl; exact rfl; (assumption)) | apply ef_nil | apply seqQ.normal | apply loopQ.exit | apply ef_ret | apply ef_exit | apply seqQ.exit | apply blockQ.here | apply ef_skip | (apply ef_condf; exact rfl; (exact (rfl : false = false))))
   (refine fin1 rfl (by exact rfl) rfl ?_)
   rw [HZ.out]; rfl
theorem Compare_c (k : Nat) (a b : List Nat) (h : MHeap) {v w : MV} (ha : a.length ≤ 1000) (hb : b.length ≤ 1000) (hv : frz 0 [] h 8 v = some (.sl ((natI a).map I64))) (hw : frz 0 [] h 8 w = some (.sl ((natI b).map I64))) : orA (k + 3) 109 [v, w] h = some (I64 (cmpR a b), h) :=
 callL (args' := [.sl ((natI a).map I64), .sl ((natI b).map I64)]) (by simp [List.mapM_cons, hv, hw]) rfl (Compare_z k a b ha hb)
theorem mf_Before : MT.mf 92 = some ⟨41, [(.tmp 4)], (.seq (.reg [gO 4 (.mv cF)]) (.seq (.seq (.reg [gO 5 (.mv (cI 0))]) (.block 0 (.loop [5, 0, 1] (.seq (.seq (.reg [gO 6 (.mv (.s 5)), gO 7 (.mv (.s 0)), gO 8 (.len (.s 7)), gO 9 (.bin .lss (.s 6) (.s 8)), gO 10 (.mv (.s 9)), ⟨some (10, true), some 11, .mv (.s 5)⟩, ⟨some (10, true), some 12, .mv (.s 1)⟩, ⟨some (10, true), some 13, .len (.s 12)⟩, ⟨some (10, true), some 14, .bin .lss (.s 11) (.s 13)⟩, gO 15 (.pick (.s 10) (.s 14) cF)]) (.cond (.s 15) .skip (.exit 0))) (.seq (.block 1 (.seq (.reg [gO 18 (.mv (.s 0)), gO 19 (.mv (.s 5)), gO 20 (.ia 1 (.s 18) (.s 19)), gO 21 (.ld none (.s 20)), gO 22 (.mv (.s 1)), gO 23 (.mv (.s 5)), gO 24 (.ia 1 (.s 22) (.s 23)), gO 25 (.ld none (.s 24)), gO 26 (.bin .neq (.s 21) (.s 25))]) (.cond (.s 26) (.seq (.reg [gO 27 (.mv (.s 0)), gO 28 (.mv (.s 5)), gO 29 (.ia 1 (.s 27) (.s 28)), gO 30 (.ld none (.s 29)), gO 31 (.mv (.s 1)), gO 32 (.mv (.s 5)), gO 33 (.ia 1 (.s 31) (.s 32)), gO 34 (.ld none (.s 33)), gO 35 (.bin .lss (.s 30) (.s 34)), gO 4 (.mv (.s 35))]) .ret) .skip))) (.reg [gO 16 (.mv (.s 5)), gO 17 (.bin .add (.s 16) (cI 1)), gO 5 (.mv (.s 17))])))))) (.seq (.reg [gO 36 (.mv (.s 0)), gO 37 (.len (.s 36)), gO 38 (.mv (.s 1)), gO 39 (.len (.s 38)), gO 40 (.bin .lss (.s 37) (.s 39)), gO 4 (.mv (.s 40))]) .ret)))⟩ := by kernel_rfl
theorem Before_z (k : Nat) (a b : List Nat) (ha : a.length ≤ 1000) (hb : b.length ≤ 1000) : runZ MT (orA k) (itA k) 4000000 92 [.sl ((natI a).map I64), .sl ((natI b).map I64)] [] = some (Bo (befL a b), []) := by
 have l1 : (MV.sl ((natI a).map I64)).slen = some a.length := by simp [MV.slen]
 have l2 : (MV.sl ((natI b).map I64)).slen = some b.length := by simp [MV.slen]
 refine runZ_of mf_Before (by simp) ?_
 simp only [argsL]
 repeat (first | apply ef_seq | (apply ef_mv; exact rfl; exact rfl) | apply ef_nil | apply seqQ.normal | apply ef_block)
 refine ef_loopf (α := Nat) (fun i => i ≤ a.length ∧ i ≤ b.length ∧ befL a b = befL (a.drop i) (b.drop i)) (fun i => [(5, I64 (i : Int))]) [(0, .sl ((natI a).map I64)), (1, .sl ((natI b).map I64))] (fun _ => []) (fun i => a.length - i) 0 [5] (fun _ => rfl) (by ((repeat (refine Hold.cons (by exact rfl) ?_)); exact Hold.nil)) (by ((repeat (refine Hold.cons (by exact rfl) ?_)); exact Hold.nil)) rfl rfl ⟨by omega, by omega, rfl⟩ (by simp; omega) ?_
 rintro i ⟨hi, hj, hz⟩
 by_cases hlt : i < a.length
 ·have e1 := at_nat a i hlt
  have HD := drop_at a i hlt
  rw [HD] at hz
  by_cases hlb : i < b.length
  ·have e2 := at_nat b i hlb
   have HD2 := drop_at b i hlb
   rw [HD2, befL] at hz
   generalize a[i] = x at *
   generalize b[i] = y at *
   clear HD HD2
   by_cases c0 : x = y
   ·rw [if_pos c0] at hz
    have HZ := Lib.hid hz
    repeat (first | apply ef_seq | (apply ef_mv; exact rfl; exact rfl) | (apply ef_bin; (iterate 3 exact rfl); (first | exact cmp_t rfl (by first | exact rfl | (simp only [cmpP]; omega)) | exact cmp_f rfl (by simp only [cmpP]; omega) | ((with_reducible refine bin_add (wrap_of ?_ ?_)) <;> omega))) | (apply ef_gy; exact rfl; (exact (rfl : true = true))) | (apply ef_pick; (iterate 3 exact rfl)) | (apply ef_len; exact rfl; exact rfl; (assumption)) | (apply ef_ldr; exact rfl; exact rfl; (exact rfl)) | (apply ef_ias; (iterate 3 exact rfl); (omega); assumption; exact rfl) | apply ef_nil | apply seqQ.normal | apply blockQ.normal | apply ef_block | apply ef_skip | (apply ef_condt; exact rfl; (exact (rfl : true = true))) | (apply ef_condf; exact rfl; (exact (rfl : false = false))))
    (refine loopQ.normal _ _ ⟨i + 1, ⟨hlt, hlb, HZ.out⟩, (by first | (simp only; omega) | omega), ⟨by ((repeat (refine Hold.cons (by exact rfl) ?_)); exact Hold.nil), by ((repeat (refine Hold.cons (by exact rfl) ?_)); exact Hold.nil)⟩, .inl (Nat.le_refl _), (by first | exact List.take_length | exact rfl | exact takeF rfl rfl)⟩)
   ·rw [if_neg c0] at hz
    by_cases c1 : x < y
    ·rw [decide_eq_true c1] at hz
     have HZ := Lib.hid hz
     repeat (first | apply ef_seq | (apply ef_mv; exact rfl; exact rfl) | (apply ef_bin; (iterate 3 exact rfl); (exact cmp_t rfl (by first | exact rfl | (simp only [cmpP]; omega)))) | (apply ef_gy; exact rfl; (exact (rfl : true = true))) | (apply ef_pick; (iterate 3 exact rfl)) | (apply ef_len; exact rfl; exact rfl; (assumption)) | (apply ef_ldr; exact rfl; exact rfl; (exact rfl)) | (apply ef_ias; (iterate 3 exact rfl); (omega); assumption; exact rfl) | apply ef_nil | apply seqQ.normal | apply loopQ.ret | apply ef_ret | apply seqQ.ret | apply blockQ.ret | apply ef_block | apply ef_skip | (apply ef_condt; exact rfl; (exact (rfl : true = true))))
     (refine fin1 rfl (by exact rfl) rfl ?_)
     rw [HZ.out]
    ·rw [decide_eq_false c1] at hz
     have HZ := Lib.hid hz
     repeat (first | apply ef_seq | (apply ef_mv; exact rfl; exact rfl) | (apply ef_bin; (iterate 3 exact rfl); (first | exact cmp_t rfl (by first | exact rfl | (simp only [cmpP]; omega)) | exact cmp_f rfl (by simp only [cmpP]; omega))) | (apply ef_gy; exact rfl; (exact (rfl : true = true))) | (apply ef_pick; (iterate 3 exact rfl)) | (apply ef_len; exact rfl; exact rfl; (assumption)) | (apply ef_ldr; exact rfl; exact rfl; (exact rfl)) | (apply ef_ias; (iterate 3 exact rfl); (omega); assumption; exact rfl) | apply ef_nil | apply seqQ.normal | apply loopQ.ret | apply ef_ret | apply seqQ.ret | apply blockQ.ret | apply ef_block | apply ef_skip | (apply ef_condt; exact rfl; (exact (rfl : true = true))))
     (refine fin1 rfl (by exact rfl) rfl ?_)
     rw [HZ.out]
  ·rw [List.drop_eq_nil_of_le (show b.length ≤ i by omega)] at hz
   have HZ := Lib.hid hz
   repeat (first | apply ef_seq | (apply ef_mv; exact rfl; exact rfl) | (apply ef_bin; (iterate 3 exact rfl); (first | exact cmp_t rfl (by first | exact rfl | (simp only [cmpP]; omega)) | exact cmp_f rfl (by simp only [cmpP]; omega))) | (apply ef_gy; exact rfl; (exact (rfl : true = true))) | (apply ef_pick; (iterate 3 exact rfl)) | (apply ef_len; exact rfl; exact rfl; (assumption)) | apply ef_nil | apply seqQ.normal | apply loopQ.exit | apply ef_ret | apply ef_exit | apply seqQ.exit | apply blockQ.here | (apply ef_condf; exact rfl; (exact (rfl : false = false))))
   (refine fin1 rfl (by exact rfl) rfl ?_)
   rw [HZ.out]; rfl
 ·rw [List.drop_eq_nil_of_le (show a.length ≤ i by omega)] at hz
  by_cases hlb : i < b.length
  ·rw [drop_at b i hlb] at hz
   have HZ := Lib.hid hz
   repeat (first | apply ef_seq | (apply ef_mv; exact rfl; exact rfl) | (apply ef_bin; (iterate 3 exact rfl); (first | exact cmp_t rfl (by first | exact rfl | (simp only [cmpP]; omega)) | exact cmp_f rfl (by simp only [cmpP]; omega))) | (apply ef_gn; exact rfl; (exact (rfl : false = false)); exact rfl) | (apply ef_pick; (iterate 3 exact rfl)) | (apply ef_len; exact rfl; exact rfl; (assumption)) | apply ef_nil | apply seqQ.normal | apply loopQ.exit | apply ef_ret | apply ef_exit | apply seqQ.exit | apply blockQ.here | (apply ef_condf; exact rfl; (exact (rfl : false = false))))
   (refine fin1 rfl (by exact rfl) rfl ?_)
   rw [HZ.out]; rfl
  ·rw [List.drop_eq_nil_of_le (show b.length ≤ i by omega)] at hz
   have HZ := Lib.hid hz
   repeat (first | apply ef_seq | (apply ef_mv; exact rfl; exact rfl) | (apply ef_bin; (iterate 3 exact rfl); (exact cmp_f rfl (by simp only [cmpP]; omega))) | (apply ef_gn; exact rfl; (exact (rfl : false = false)); exact rfl) | (apply ef_pick; (iterate 3 exact rfl)) | (apply ef_len; exact rfl; exact rfl; (assumption)) | apply ef_nil | apply seqQ.normal | apply loopQ.exit | apply ef_ret | apply ef_exit | apply seqQ.exit | apply blockQ.here | (apply ef_condf; exact rfl; (exact (rfl : false = false))))
   (refine fin1 rfl (by exact rfl) rfl ?_)
   rw [HZ.out]; rfl
theorem Before_c (k : Nat) (a b : List Nat) (h : MHeap) {v w : MV} (ha : a.length ≤ 1000) (hb : b.length ≤ 1000) (hv : frz 0 [] h 8 v = some (.sl ((natI a).map I64))) (hw : frz 0 [] h 8 w = some (.sl ((natI b).map I64))) {t : Bool} (ht : befL a b = t) : orA (k + 1) 92 [v, w] h = some (Bo t, h) := by
 subst ht
 exact callL (args' := [.sl ((natI a).map I64), .sl ((natI b).map I64)]) (by simp [List.mapM_cons, hv, hw]) rfl (Before_z k a b ha hb)
theorem bits_and_i64_1 (a : Nat) (ha : a < 9223372036854775808) : binI .and .i64 (a : Int) 1 = some (.int .i64 ((a % 2 : Nat) : Int)) := by
 have h1 : (BitVec.ofInt 64 (a : Int)).toNat = a := by
  rw [BitVec.ofInt_natCast, BitVec.toNat_ofNat]; exact Nat.mod_eq_of_lt (by omega)
 have h2 : (BitVec.ofInt 64 (1 : Int)).toNat = 1 := by decide
 show some (Value.int .i64 (IntKind.i64.wrap ((BitVec.ofInt 64 (a : Int) &&& BitVec.ofInt 64 (1 : Int)).toNat : Int))) = _
 rw [BitVec.toNat_and, h1, h2, Nat.and_one_is_mod, wrap_of (by omega) (by omega)]
theorem shr_i64 {k : Nat} (a : Nat) (hk : k ≤ 63) : shfI .shr .i64 (a : Int) (k : Int) = some (.int .i64 ((a / 2 ^ k : Nat) : Int)) := by
 have e : shfI .shr .i64 (a : Int) (k : Int) = some (.int .i64 ((a : Int).fdiv (2 ^ min (k : Int).toNat 64))) := by
  unfold shfI
  rw [if_neg (by omega)]
  rfl
 rw [e, Int.toNat_natCast, Nat.min_eq_left (by omega)]
 congr 2
 rw [Int.fdiv_eq_ediv_of_nonneg _ (Int.pow_nonneg (by decide))]
 have : ((2 : Int) ^ k) = ((2 ^ k : Nat) : Int) := by rw [Int.natCast_pow]; rfl
 rw [this, Int.natCast_ediv]
theorem mbL_range {Y k : Nat} (hY : Y < 2 ^ k) (hk : k ≤ 63) : (List.range k).filter (fun i => Y.testBit i) = mbL Y := by
 have h64 : Y < 2 ^ 64 := Nat.lt_of_lt_of_le hY (Nat.pow_le_pow_right (by decide) (by omega))
 refine asc_eq (List.Pairwise.filter _ List.pairwise_lt_range) (mbL_asc Y h64) fun i => ?_
 rw [List.mem_filter, List.mem_range, mbL_mem Y h64]
 refine ⟨fun h => h.2, fun h => ⟨?_, h⟩⟩
 refine Classical.byContradiction fun hn => ?_
 have : Y < 2 ^ i := Nat.lt_of_lt_of_le hY (Nat.pow_le_pow_right (by decide) (by omega))
 rw [Nat.testBit_lt_two_pow this] at h
 cases h
theorem filt_next (Y k : Nat) : (List.range (k + 1)).filter (fun i => Y.testBit i) = (List.range k).filter (fun i => Y.testBit i) ++ (if Y.testBit k then [k] else []) := by
 rw [List.range_succ, List.filter_append]
 congr 1
 cases h : Y.testBit k <;> simp [h]
theorem filt_len (Y k : Nat) : ((List.range k).filter (fun i => Y.testBit i)).length ≤ k := by
 have := List.length_filter_le (fun i => Y.testBit i) (List.range k)
 rwa [List.length_range] at this
theorem mf_rMembers : MT.mf 112 = some ⟨21, [(.tmp 2)], (.seq (.reg [gO 2 (.nil0 1)]) (.seq (.reg [gO 3 (.nil0 1)]) (.seq (.seq (.reg [gO 4 (.mv (cI 0))]) (.block 0 (.loop [0, 4, 3] (.seq (.seq (.reg [gO 5 (.mv (.s 0)), gO 6 (.mv (.s 4)), gO 7 (.shf .shr (.s 5) (.s 6)), gO 8 (.bin .gtr (.s 7) (cI 0))]) (.cond (.s 8) .skip (.exit 0))) (.seq (.block 1 (.seq (.reg [gO 11 (.mv (.s 0)), gO 12 (.mv (.s 4)), gO 13 (.shf .shr (.s 11) (.s 12)), gO 14 (.bin .and (.s 13) (cI 1)), gO 15 (.bin .eql (.s 14) (cI 1))]) (.cond (.s 15) (.reg [gO 16 (.mv (.s 3)), gO 17 (.mv (.s 4)), gO 18 (.bsl (.lit (.int .i64 0)) 1 1 [(0, (.s 17))]), gO 19 (.app 1 (.s 16) (.s 18)), gO 3 (.mv (.s 19))]) .skip))) (.reg [gO 9 (.mv (.s 4)), gO 10 (.bin .add (.s 9) (cI 1)), gO 4 (.mv (.s 10))])))))) (.seq (.reg [gO 20 (.mv (.s 3)), gO 2 (.mv (.s 20))]) .ret))))⟩ := by kernel_rfl
set_option maxHeartbeats 1000000 in
theorem rMembers_z (k Y : Nat) (hY : Y < 2 ^ 20) : runZ MT (orA k) (itA k) 4000000 112 [I64 Y] [] = some (.arr 0 0 (mbL Y).length 0, [⟨0, decide ((mbL Y).length = 0), 1, (natI (mbL Y)).map I64⟩]) := by
 refine runZ_of mf_rMembers (by simp) ?_
 simp only [argsL]
 repeat (first | apply ef_seq | (apply ef_mv; exact rfl; exact rfl) | (apply ef_nil0; exact rfl) | apply ef_nil | apply seqQ.normal | apply ef_block)
 refine ef_loopf (α := Nat × Nat × List Nat × List MV) (fun p => p.1 ≤ 20 ∧ p.2.1 = p.2.2.1.length ∧ p.2.2.1 = (List.range p.1).filter (fun i => Y.testBit i) ∧ p.2.2.2 = (natI p.2.2.1).map I64) (fun p => [(4, I64 (p.1 : Int)), (3, .arr 1 0 p.2.1 p.2.1)]) [(0, I64 Y)] (fun p => [⟨0, true, 1, []⟩, ⟨p.2.1, decide (p.2.1 = 0), 1, p.2.2.2⟩]) (fun p => 20 - p.1) (0, 0, [], []) [4, 3] (fun _ => rfl) (by ((repeat (refine Hold.cons (by exact rfl) ?_)); exact Hold.nil)) (by ((repeat (refine Hold.cons (by exact rfl) ?_)); exact Hold.nil)) rfl rfl ⟨by omega, rfl, rfl, rfl⟩ (by simp) ?_
 rintro ⟨i, q, S, rs⟩ ⟨hi, hq, hS, hrs⟩
 try simp only at hi hq hS hrs ⊢
 have hrl : rs.length = q := by rw [hrs, nat_len, hq]
 have hlr : ∀ j, ltL j rs = true := fun j => by rw [hrs]; exact ltL_I j _
 have hql : q ≤ i := by rw [hq, hS]; exact filt_len Y i
 have w1 := shr_i64 (k := i) Y (by omega)
 by_cases hz : Y / 2 ^ i = 0
 ·have hlt : Y < 2 ^ i := by
   rcases Nat.div_eq_zero_iff.1 hz with h | h
   ·have := Nat.two_pow_pos i; omega
   ·exact h
  have hm := mbL_range hlt (by omega)
  rw [← hS] at hm
  rw [hz] at w1
  rw [← hm, ← hq]
  repeat (first | apply ef_seq | (apply ef_mv; exact rfl; exact rfl) | (apply ef_bin; (iterate 3 exact rfl); (exact cmp_f rfl (by simp only [cmpP]; omega))) | (apply ef_shf; (iterate 3 exact rfl); (assumption)) | apply ef_nil | apply seqQ.normal | apply loopQ.exit | apply ef_ret | apply ef_exit | apply seqQ.exit | apply blockQ.here | (apply ef_condf; exact rfl; (exact (rfl : false = false))))
  (apply fin_arr; (· exact rfl); (· exact rfl); (· exact rfl); (· exact rfl); (· (show 0 + _ ≤ rs.length; omega)); (· (exact hlr 0)); (· (show (rs.drop 0).take _ = _; rw [List.drop_zero, List.take_of_length_le (by omega), hrs])); (· exact rfl); (· exact rfl); (· rfl))
 ·have hi2 : i < 20 := by
   refine Classical.byContradiction fun hn => hz ?_
   rw [show i = 20 by omega]
   exact Nat.div_eq_of_lt hY
  have hb : Y / 2 ^ i < 9223372036854775808 := Nat.lt_of_le_of_lt (Nat.div_le_self ..) (by omega)
  have w2 := bits_and_i64_1 (Y / 2 ^ i) hb
  have hN := filt_next Y i
  have ht := Nat.testBit_eq_decide_div_mod_eq (x := Y) (i := i)
  rw [← hS] at hN
  generalize Y / 2 ^ i = d at *
  by_cases hbit : d % 2 = 1
  ·rw [ht, decide_eq_true hbit, if_pos rfl] at hN
   rw [hbit] at w2
   have hN := Lib.hid hN
   clear hS ht
   repeat (first | apply ef_seq | (apply ef_mv; exact rfl; exact rfl) | (apply ef_bin; (iterate 3 exact rfl); (first | assumption | exact cmp_t rfl (by first | exact rfl | (simp only [cmpP]; omega)))) | (apply ef_bsl; exact rfl; (repeat (apply XVs.cons; exact rfl)); exact XVs.nil; exact rfl) | (apply ef_shf; (iterate 3 exact rfl); (assumption)) | apply ef_nil | apply seqQ.normal | apply ef_block | apply ef_skip | (apply ef_condt; exact rfl; (exact (rfl : true = true))))
   (apply ef_app; (· exact rfl); (· exact rfl); (· exact rfl); (· exact rfl); (· exact rfl); (· exact rfl); (· (simp [hrl])); (· exact rfl); (· (simp [hrl]; omega)); (· (exact rfl)); (· exact rfl))
   repeat (first | (apply ef_mv; exact rfl; exact rfl) | (apply ef_bin; (iterate 3 exact rfl); (((with_reducible refine bin_add (wrap_of ?_ ?_)) <;> omega))) | apply ef_nil | apply seqQ.normal | apply blockQ.normal)
   (refine loopQ.normal _ _ ⟨(i + 1, q + 1, S ++ [i], rs ++ [I64 (i : Nat)]), ⟨hi2, by simp [hq], hN.out.symm, by rw [hrs]; simp⟩, (by show 20 - (i + 1) < 20 - i; omega), ⟨by ((repeat (refine Hold.cons (by exact rfl) ?_)); exact Hold.nil), by ((repeat (refine Hold.cons (by exact rfl) ?_)); exact Hold.nil)⟩, .inr ⟨by ((repeat (refine hdl_cons rfl (by first | rfl | (simp [MV.lt, ltL, hlr, ltL_app2, splice, MV.cells])) ?_)); exact hdl_nil), by (simp [hltL, ltL, MV.lt, ltL, hlr, ltL_app2, splice, MV.cells])⟩, by exact rfl⟩)
  ·have h0 : d % 2 = 0 := by omega
   rw [ht, decide_eq_false hbit, if_neg (by decide), List.append_nil] at hN
   rw [h0] at w2
   have hN := Lib.hid hN
   clear hS ht
   repeat (first | apply ef_seq | (apply ef_mv; exact rfl; exact rfl) | (apply ef_bin; (iterate 3 exact rfl); (first | assumption | exact cmp_t rfl (by first | exact rfl | (simp only [cmpP]; omega)) | exact cmp_f rfl (by simp only [cmpP]; omega) | ((with_reducible refine bin_add (wrap_of ?_ ?_)) <;> omega))) | (apply ef_shf; (iterate 3 exact rfl); (assumption)) | apply ef_nil | apply seqQ.normal | apply blockQ.normal | apply ef_block | apply ef_skip | (apply ef_condt; exact rfl; (exact (rfl : true = true))) | (apply ef_condf; exact rfl; (exact (rfl : false = false))))
   (refine loopQ.normal _ _ ⟨(i + 1, q, S, rs), ⟨hi2, hq, hN.out.symm, hrs⟩, (by show 20 - (i + 1) < 20 - i; omega), ⟨by ((repeat (refine Hold.cons (by exact rfl) ?_)); exact Hold.nil), by ((repeat (refine Hold.cons (by exact rfl) ?_)); exact Hold.nil)⟩, .inr ⟨by ((repeat (refine hdl_cons rfl (by first | rfl | (simp [MV.lt, ltL, hlr, ltL_app2, splice, MV.cells])) ?_)); exact hdl_nil), by (simp [hltL, ltL, MV.lt, ltL, hlr, ltL_app2, splice, MV.cells])⟩, by exact rfl⟩)
theorem rMembers_c (k Y : Nat) (hY : Y < 2 ^ 20) (h : MHeap) : orA (k + 1) 112 [I64 Y] h = some (.arr h.length 0 (mbL Y).length 0, h ++ [⟨0, decide ((mbL Y).length = 0), 1, (natI (mbL Y)).map I64⟩]) := by
 have := callA (k := k) (h := h) (args := [I64 Y]) (args' := [I64 Y]) (frzL_lt rfl) rfl (rMembers_z k Y hY) rfl (by simp [okH, ltL_I, pureL_I, -List.map_map])
 simpa [shV, sh1] using this
def OkTg (l : List Tg) : Prop := ∀ x ∈ l, (0 ≤ x.c ∧ x.c ≤ 1000000) ∧ 0 ≤ x.s ∧ x.s ≤ 1000000
theorem at_tg (l : List Tg) {n : Nat} (h : n < l.length) : (l.map encTg)[((n : Nat) : Int).toNat]? = some (encTg (tgI l n)) := by
 rw [Int.toNat_natCast, List.getElem?_map, List.getElem?_eq_getElem h]
 unfold tgI
 rw [List.getD_eq_getElem?_getD, List.getElem?_eq_getElem h]; rfl
theorem tgI_ok {l : List Tg} (ok : OkTg l) {n : Nat} (h : n < l.length) : (0 ≤ (tgI l n).c ∧ (tgI l n).c ≤ 1000000) ∧ 0 ≤ (tgI l n).s ∧ (tgI l n).s ≤ 1000000 := by
 unfold tgI
 rw [List.getD_eq_getElem?_getD, List.getElem?_eq_getElem h]
 exact ok _ (List.getElem_mem h)
theorem mf_rTotals : MT.mf 40 = some ⟨37, [(.tmp 4), (.tmp 5)], (.seq (.reg [gO 4 (.mv (cI 0)), gO 5 (.mv (cI 0))]) (.seq (.reg [gO 6 (.mv (cI 0)), gO 7 (.mv (cI 0))]) (.seq (.seq (.reg [gO 8 (.mv (cI 0))]) (.block 0 (.loop [8, 1, 6, 0, 7] (.seq (.seq (.reg [gO 9 (.mv (.s 8)), gO 10 (.mv (.s 1)), gO 11 (.len (.s 10)), gO 12 (.bin .lss (.s 9) (.s 11))]) (.cond (.s 12) .skip (.exit 0))) (.seq (.block 1 (.reg [gO 15 (.mv (.s 6)), gO 16 (.mv (.s 0)), gO 17 (.mv (.s 1)), gO 18 (.mv (.s 8)), gO 19 (.ia 1 (.s 17) (.s 18)), gO 20 (.ld none (.s 19)), gO 21 (.ia 3 (.s 16) (.s 20)), gO 22 (.fa 1 (.s 21)), gO 23 (.ld none (.s 22)), gO 24 (.bin .add (.s 15) (.s 23)), gO 25 (.mv (.s 7)), gO 26 (.mv (.s 0)), gO 27 (.mv (.s 1)), gO 28 (.mv (.s 8)), gO 29 (.ia 1 (.s 27) (.s 28)), gO 30 (.ld none (.s 29)), gO 31 (.ia 3 (.s 26) (.s 30)), gO 32 (.fa 2 (.s 31)), gO 33 (.ld none (.s 32)), gO 34 (.bin .add (.s 25) (.s 33)), gO 6 (.mv (.s 24)), gO 7 (.mv (.s 34))])) (.reg [gO 13 (.mv (.s 8)), gO 14 (.bin .add (.s 13) (cI 1)), gO 8 (.mv (.s 14))])))))) (.seq (.reg [gO 35 (.mv (.s 6)), gO 36 (.mv (.s 7)), gO 4 (.mv (.s 35)), gO 5 (.mv (.s 36))]) .ret))))⟩ := by kernel_rfl
theorem rTotals_c (k : Nat) (l : List Tg) (S : List Nat) (h : MHeap) {v w : MV} (ok : OkTg l) (hS : ∀ i ∈ S, i < l.length) (hl : S.length ≤ 100) (hv : frz 0 [] h 8 v = some (.sl (l.map encTg))) (hw : frz 0 [] h 8 w = some (.sl ((natI S).map I64))) : orA (k + 1) 40 [v, w] h = some (.tup [I64 (costL l S), I64 (scoreL l S)], h) := by
 have l1 : (MV.sl ((natI S).map I64)).slen = some S.length := by simp [MV.slen]
 refine callTT (args' := [.sl (l.map encTg), .sl ((natI S).map I64)]) (by simp [List.mapM_cons, hv, hw]) rfl (runZ_of mf_rTotals (by simp) ?_)
 simp only [argsL]
 repeat (first | apply ef_seq | (apply ef_mv; exact rfl; exact rfl) | apply ef_nil | apply seqQ.normal | apply ef_block)
 refine ef_loopf (α := Nat × Int × Int) (fun p => p.1 ≤ S.length ∧ (p.2.1 + costL l (S.drop p.1) = costL l S ∧ 0 ≤ p.2.1 ∧ p.2.1 ≤ 1000000 * p.1) ∧ (p.2.2 + scoreL l (S.drop p.1) = scoreL l S ∧ 0 ≤ p.2.2 ∧ p.2.2 ≤ 1000000 * p.1)) (fun p => [(8, I64 (p.1 : Int)), (6, I64 p.2.1), (7, I64 p.2.2)]) [(1, .sl ((natI S).map I64)), (0, .sl (l.map encTg))] (fun _ => []) (fun p => S.length - p.1) (0, 0, 0) [8, 6, 7] (fun _ => rfl) (by ((repeat (refine Hold.cons (by exact rfl) ?_)); exact Hold.nil)) (by ((repeat (refine Hold.cons (by exact rfl) ?_)); exact Hold.nil)) rfl rfl ⟨by omega, ⟨by simp, by simp, by simp⟩, by simp, by simp, by simp⟩ (by simp; omega) ?_
 rintro ⟨i, c, s⟩ ⟨hi, ⟨hc, hc1, hc2⟩, hs, hs1, hs2⟩
 try simp only at hi hc hc1 hc2 hs hs1 hs2 ⊢
 by_cases hlt : i < S.length
 ·have e1 := at_nat S i hlt
  have HD := drop_at S i hlt
  rw [HD, costL] at hc
  rw [HD, scoreL] at hs
  have hm := hS S[i] (List.getElem_mem hlt)
  clear HD
  generalize S[i] = n at *
  have e2 := at_tg l hm
  obtain ⟨⟨b1, b2⟩, b3, b4⟩ := tgI_ok ok hm
  generalize tgI l n = x at *
  repeat (first | apply ef_seq | (apply ef_mv; exact rfl; exact rfl) | (apply ef_bin; (iterate 3 exact rfl); (first | exact cmp_t rfl (by first | exact rfl | (simp only [cmpP]; omega)) | ((with_reducible refine bin_add (wrap_of ?_ ?_)) <;> omega))) | (apply ef_len; exact rfl; exact rfl; (assumption)) | (apply ef_ldr; exact rfl; exact rfl; (exact rfl)) | (apply ef_ias; (iterate 3 exact rfl); (omega); assumption; exact rfl) | (apply ef_far; exact rfl; exact rfl) | apply ef_nil | apply seqQ.normal | apply blockQ.normal | apply ef_block | apply ef_skip | (apply ef_condt; exact rfl; (exact (rfl : true = true))))
  (refine loopQ.normal _ _ ⟨(i + 1, c + x.c, s + x.s), ⟨hlt, ⟨by simp only; omega, by simp only; omega, by simp only; omega⟩, by simp only; omega, by simp only; omega, by simp only; omega⟩, (by show S.length - (i + 1) < S.length - i; omega), ⟨by ((repeat (refine Hold.cons (by exact rfl) ?_)); exact Hold.nil), by ((repeat (refine Hold.cons (by exact rfl) ?_)); exact Hold.nil)⟩, .inl (Nat.le_refl _), (by first | exact List.take_length | exact rfl | exact takeF rfl rfl)⟩)
 ·rw [List.drop_eq_nil_of_le (by omega)] at hc hs
  simp only [costL, scoreL, Int.add_zero] at hc hs
  repeat (first | apply ef_seq | (apply ef_mv; exact rfl; exact rfl) | (apply ef_bin; (iterate 3 exact rfl); (exact cmp_f rfl (by simp only [cmpP]; omega))) | (apply ef_len; exact rfl; exact rfl; (assumption)) | apply ef_nil | apply seqQ.normal | apply loopQ.exit | apply ef_ret | apply ef_exit | apply seqQ.exit | apply blockQ.here | (apply ef_condf; exact rfl; (exact (rfl : false = false))))
  (refine fin2 rfl (by exact rfl) (by exact rfl) ?_)
  rw [hc, hs]
end Go.Proofs.YtnmgpbihknjdjaaGreatDoor

/- Contracts: the best set. -/
namespace Go.Proofs.YtnmgpbihknjdjaaGreatDoor
open Go.RowKit
set_option linter.unusedVariables false
theorem fin_all3 {x : MX2} {A : Sl} {h : MHeap} {t u w id k g : Nat} {o : MObj} {es : List MV} {sz : Nat} {nl : Bool} {a b : Value} (hx : outX x = true) (hv : look A t = some (.arr id 0 k g)) (ha : look A u = some (.lit a)) (hb : look A w = some (.lit b)) (ho : h[id]? = some o) (hg : o.g = g) (hk : k = es.length) (hl : ltL 0 es = true) (he : o.es = es) (hz : o.sz = sz) (hn : o.nl = nl) :
  FinF [.tmp t, .tmp u, .tmp w] (.tup [.arr 0 0 k 0, .lit a, .lit b]) [⟨0, nl, sz, es⟩] x A h := by
 subst hz hn he hk
 refine ⟨hx, [.arr id 0 o.es.length g, .lit a, .lit b], [.arr 0 0 o.es.length 0, .lit a, .lit b], ⟨_, _, rfl, hv, _, _, rfl, ha, _, [], rfl, hb, rfl⟩, ?_, ?_, rfl⟩
 ·simp [impIds]
 ·simp [impIds, expL, ho, hg, hl, frz, MV.lt]
theorem at_endN (M : MHeap) (x : MObj) : (M ++ [x])[M.length]? = some x := by rw [List.getElem?_append_right (Nat.le_refl _)]; simp
theorem at_left {M : MHeap} {x o : MObj} {id : Nat} (h : M[id]? = some o) : (M ++ [x])[id]? = some o := by rw [List.getElem?_append_left (List.getElem?_eq_some_iff.1 h).1, h]
theorem natI_lt (n : Nat) (S : List Nat) : ltL n ((natI S).map I64) = true := ltL_I n _
abbrev setO (S : List Nat) : MObj := ⟨0, decide (S.length = 0), 1, (natI S).map I64⟩
theorem frz_set {M : MHeap} {S : List Nat} {id : Nat} (h : M[id]? = some (setO S)) : frz 0 [] M 8 (.arr id 0 S.length 0) = some (.sl ((natI S).map I64)) :=
 frz_row (o := setO S) h rfl (nat_len S).symm (natI_lt 0 S) rfl
theorem stepB_yes {l : List Tg} {B : Int} {st : List Nat × Int} {S : List Nat} (h1 : costL l S ≤ B) (h2 : st.2 < scoreL l S ∨ scoreL l S = st.2 ∧ befL S st.1 = true) : stepB l B st S = (S, scoreL l S) := by
 unfold stepB; rw [if_pos ⟨h1, h2⟩]
theorem stepB_no1 {l : List Tg} {B : Int} {st : List Nat × Int} {S : List Nat} (h1 : ¬ costL l S ≤ B) : stepB l B st S = st := by
 unfold stepB; rw [if_neg (fun h => h1 h.1)]
theorem stepB_no2 {l : List Tg} {B : Int} {st : List Nat × Int} {S : List Nat} (h1 : ¬ st.2 < scoreL l S) (h2 : ¬ (scoreL l S = st.2 ∧ befL S st.1 = true)) : stepB l B st S = st := by
 unfold stepB; rw [if_neg]
 rintro ⟨_, h | h⟩
 ·exact h1 h
 ·exact h2 h
structure BestM (M : MHeap) (id : Nat) (S : List Nat) (M0 : MHeap) : Prop where
 at_ : M[id]? = some (setO S)
 big : 2 ≤ M.length
 sm : (id < 2 ∧ M = M0) ∨ 2 ≤ id
def nextM (id : Nat) (M : MHeap) (o : MObj) : MHeap := if id < 2 then M else M ++ [o]
theorem BestM.next1 {M M0 : MHeap} {id : Nat} {S : List Nat} {o : MObj} (h : BestM M id S M0) : BestM (nextM id M o) id S M0 := by
 obtain ⟨h1, h2, h3⟩ := h
 unfold nextM
 rcases h3 with ⟨h3, rfl⟩ | h3
 ·rw [if_pos h3]; exact ⟨h1, h2, .inl ⟨h3, rfl⟩⟩
 ·rw [if_neg (by omega)]; exact ⟨at_left h1, by simp; omega, .inr h3⟩
theorem BestM.next2 {M M0 : MHeap} {id : Nat} {S : List Nat} {keep : List Nat} {A : Sl} {t : Nat} {o : MObj} {n : Nat} (h : BestM M id S M0) (hM0 : M0.length = 2) (hcl : hltL 2 M0 = true) (hks : ∀ u ∈ keep, u = t ∨ ∃ v, look A u = some v ∧ v.lt 0 = true) (ht : t ∈ keep) (hA : look A t = some (.arr id 0 n 0)) :
  HeadIs keep 2 A (M ++ [o]) (nextM id M o) := by
 obtain ⟨h1, h2, h3⟩ := h
 unfold nextM
 rcases h3 with ⟨h3, rfl⟩ | h3
 ·rw [if_pos h3]
  have e : (M ++ [o]).take 2 = M := by rw [← hM0, List.take_left' rfl]
  have := HeadIs.cut (keep := keep) (m := 2) (A := A) (h := M ++ [o]) (fun u hu => ?_) (by rw [e]; exact hcl)
  ·rwa [e] at this
  ·rcases hks u hu with rfl | ⟨v, hv, hl⟩
   ·exact ⟨_, hA, by simp only [MV.lt, decide_eq_true_eq]; exact h3⟩
   ·exact ⟨v, hv, MV.lt_le (by omega) v hl⟩
 ·rw [if_neg (by omega)]
  exact .slot t _ ht hA (by simp only [MV.lt, decide_eq_false_iff_not]; omega)
theorem BestM.new1 {M M0 : MHeap} {id : Nat} {S S' : List Nat} (h : BestM M id S M0) : BestM (M ++ [setO S']) M.length S' M0 := by
 have h2 := h.big
 exact ⟨at_endN M _, by simp; omega, .inr h2⟩
theorem BestM.new2 {M M0 : MHeap} {id : Nat} {S : List Nat} {keep : List Nat} {A : Sl} {t : Nat} {o : MObj} {n : Nat} (h : BestM M id S M0) (ht : t ∈ keep) (hA : look A t = some (.arr M.length 0 n 0)) : HeadIs keep 2 A (M ++ [o]) (M ++ [o]) := by
 have h2 := h.big
 exact .slot t _ ht hA (by simp only [MV.lt, decide_eq_false_iff_not]; omega)
end Go.Proofs.YtnmgpbihknjdjaaGreatDoor

/- Contracts: the best set of the program. -/
namespace Go.Proofs.YtnmgpbihknjdjaaGreatDoor
open Go.RowKit
set_option linter.unusedVariables false
theorem mf_BestSet : MT.mf 20 = some mfW_l20 := mfW_q20
theorem BestSet_bad (k : Nat) (l : List Tg) (B e : Int) (h : MHeap) {v : MV} (hx : l.length ≤ 100) (hn : ∀ z ∈ l, z.nm.size ≤ 1000) (hv : frz 0 [] h 8 v = some (.sl (l.map encTg))) (he : bdgE l B = e) (h0 : e ≠ 0) : orA (k + 8) 20 [v, I64 B] h = some (.tup [.arr h.length 0 0 0, I64 0, I64 e], h ++ [⟨0, true, 1, []⟩]) := by
 have hz : runZ MT (orA (k + 7)) (itA (k + 7)) 4000000 20 [.sl (l.map encTg), I64 B] [] = some (.tup [.arr 0 0 0 0, I64 0, I64 e], [⟨0, true, 1, []⟩]) := by
  refine runZ_of mf_BestSet (by simp) ?_
  simp only [argsL]
  have h1 := fun h => budgetErr_c k l B h (v := .sl (l.map encTg)) hx hn (frz_sl (ltL_Tg 0 l)) he
  repeat (first | apply ef_seq | (apply ef_mv; exact rfl; exact rfl) | (apply ef_bin; (iterate 3 exact rfl); (exact cmp_t rfl (by first | exact rfl | (simp only [cmpP]; omega)))) | (apply ef_nil0; exact rfl) | apply ef_nil | apply seqQ.normal | apply ef_ret | apply seqQ.ret | (apply ef_condt; exact rfl; (exact (rfl : true = true))) | (apply ef_call; exact rfl; ((repeat (apply XVs.cons; exact rfl)); exact XVs.nil); (with_reducible exact h1 _)))
  (apply fin_all3; (· exact rfl); (· exact rfl); (· exact rfl); (· exact rfl); (· exact rfl); (· exact rfl); (· exact rfl); (· exact rfl); (· exact rfl); (· exact rfl); (· exact rfl))
 have := callA (k := k + 7) (h := h) (args := [v, I64 B]) (args' := [.sl (l.map encTg), I64 B]) (by simp [List.mapM_cons, hv, frz_lt (m := I64 B) rfl]) rfl hz (by simp [okV, ok1, MV.lt, MV.pure]) (by simp [okH, ltL, pureL])
 simpa [shV, sh1] using this
set_option maxHeartbeats 4000000 in
theorem BestSet_z (k : Nat) (l : List Tg) (B : Int) (hx : l.length ≤ 12) (hn : ∀ z ∈ l, z.nm.size ≤ 1000) (ok : OkTg l) (he : bdgE l B = 0) (hB : 0 ≤ B) :
  runZ MT (orA (k + 7)) (itA (k + 7)) 4000000 20 [.sl (l.map encTg), I64 B] [] = some (.tup [.arr 0 0 (bestF l B (2 ^ l.length)).1.length 0, I64 (bestF l B (2 ^ l.length)).2, I64 0], [setO (bestF l B (2 ^ l.length)).1]) := by
 have hs : (MV.sl (l.map encTg)).slen = some l.length := by simp [MV.slen]
 refine runZ_of mf_BestSet (by simp) ?_
 simp only [argsL]
 have h1 := fun h => budgetErr_c k l B h (v := .sl (l.map encTg)) (by omega) hn (frz_sl (ltL_Tg 0 l)) he
 have hpw : 2 ^ l.length ≤ 2 ^ 12 := Nat.pow_le_pow_right (by decide) hx
 have hsh := u64_shl (m := l.length) (by omega)
 have hlt := fun S => bestF_mb l B l.length S
 obtain ⟨N, hN⟩ : ∃ N, N = 2 ^ l.length := ⟨_, rfl⟩
 rw [← hN] at hsh hpw hlt ⊢
 have hNm : ∀ Y, Y < N → ∀ i ∈ mbL Y, i < l.length := fun Y hY => mbL_lt (by rw [← hN]; exact hY) (by omega)
 have hNl : ∀ Y, Y < N → (mbL Y).length ≤ 12 := fun Y hY => Nat.le_trans (mbL_len (m := l.length) (by rw [← hN]; exact hY) (by omega)) hx
 clear hN
 repeat (first | apply ef_seq | (apply ef_mv; exact rfl; exact rfl) | (apply ef_bin; (iterate 3 exact rfl); (exact cmp_f rfl (by simp only [cmpP]; omega))) | (apply ef_len; exact rfl; exact rfl; (assumption)) | (apply ef_nil0; exact rfl) | (apply ef_shf; (iterate 3 exact rfl); (assumption)) | apply ef_nil | apply seqQ.normal | apply ef_block | apply ef_skip | (apply ef_condf; exact rfl; (exact (rfl : false = false))) | (apply ef_call; exact rfl; ((repeat (apply XVs.cons; exact rfl)); exact XVs.nil); (with_reducible exact h1 _)))
 refine ef_loopg (α := Nat × (List Nat × Int) × Nat × MHeap) (fun a => (a.1 ≤ N ∧ a.2.1 = bestF l B a.1) ∧ BestM a.2.2.2 a.2.2.1 a.2.1.1 [⟨0, true, 1, []⟩, ⟨0, true, 1, []⟩]) (fun a => [(25, U64 (a.1 : Nat)), (9, I64 a.2.1.2), (8, .arr a.2.2.1 0 a.2.1.1.length 0)]) [(24, U64 (N : Nat)), (0, .sl (l.map encTg)), (1, I64 B)] (fun a => a.2.2.2) (fun a => N - a.1)
  (0, ([], 0), 1, [⟨0, true, 1, []⟩, ⟨0, true, 1, []⟩]) [25, 9, 8] (fun _ => rfl) (by ((repeat (refine Hold.cons (by exact rfl) ?_)); exact Hold.nil)) (by ((repeat (refine Hold.cons (by exact rfl) ?_)); exact Hold.nil)) rfl rfl rfl ⟨⟨by omega, rfl⟩, rfl, by simp, .inl ⟨by decide, rfl⟩⟩ (by simp only; omega) ?_
 rintro ⟨Y, ⟨S, m⟩, id, M⟩ ⟨⟨hY, hst⟩, hM⟩
 try simp only at hY hst hM ⊢
 by_cases hYN : Y < N
 ·have hc1 := fun h => members_c (k + 4) Y (by omega) h
  have hml := hNl Y hYN
  have hmi := hNm Y hYN
  have hbn : bestF l B (Y + 1) = stepB l B (bestF l B Y) (mbL Y) := rfl
  rw [← hst] at hbn
  have hbn := Lib.hid hbn
  have hSl : S.length ≤ 12 := by
   obtain ⟨Z, hZ, hZe⟩ := hlt Y hY
   rw [← hst] at hZe
   simp only at hZe
   rw [hZe]
   exact hNl Z hZ
  have wY : IntKind.u64.wrap ((Y : Int) + 1) = ((Y + 1 : Nat) : Int) := by rw [u64_wrap (by omega) (by omega)]; omega
  have mm : mbI Y = natI (mbL Y) := rfl
  rw [mm] at hc1
  clear hst hlt
  generalize mbL Y = T at *
  have hT2 : (⟨0, decide (T.length = 0), 1, (natI T).map I64⟩ : MObj) = setO T := rfl
  rw [hT2] at hc1
  have hat := at_endN M (setO T)
  have hat8 := at_left (x := setO T) hM.at_
  have hokM : MHeap.ok (M ++ [setO T]) M.length 0 1 = true := ok_of hat rfl rfl
  have hT : (MV.arr M.length 0 T.length 0).slen = some T.length := rfl
  repeat (first | apply ef_seq | (apply ef_mv; exact rfl; exact rfl) | (apply ef_bin; (iterate 3 exact rfl); (exact cmp_t rfl (by first | exact rfl | (simp only [cmpP]; omega)))) | (apply ef_len; exact rfl; exact rfl; (assumption)) | apply ef_nil | apply seqQ.normal | apply ef_block | apply ef_skip | (apply ef_condt; exact rfl; (exact (rfl : true = true))) | (apply ef_call; exact rfl; ((repeat (apply XVs.cons; exact rfl)); exact XVs.nil); (with_reducible exact hc1 _)))
  refine ef_loopf (α := Nat × Int × Int) (fun p => p.1 ≤ T.length ∧ (p.2.1 + costL l (T.drop p.1) = costL l T ∧ 0 ≤ p.2.1 ∧ p.2.1 ≤ 1000000 * p.1) ∧ (p.2.2 + scoreL l (T.drop p.1) = scoreL l T ∧ 0 ≤ p.2.2 ∧ p.2.2 ≤ 1000000 * p.1)) (fun p => [(32, I64 (p.1 : Int)), (12, I64 p.2.1), (13, I64 p.2.2)]) [(31, I64 (T.length : Int)), (30, .arr M.length 0 T.length 0), (0, .sl (l.map encTg)), (1, I64 B), (9, I64 m), (11, .arr M.length 0 T.length 0), (8, .arr id 0 S.length 0), (25, U64 (Y : Nat)), (24, U64 (N : Nat))]
   (fun _ => M ++ [setO T]) (fun p => T.length - p.1) (0, 0, 0) [32, 12, 13] (fun _ => rfl) (by ((repeat (refine Hold.cons (by exact rfl) ?_)); exact Hold.nil)) (by ((repeat (refine Hold.cons (by exact rfl) ?_)); exact Hold.nil)) rfl rfl ⟨by omega, ⟨by simp, by simp, by simp⟩, by simp, by simp, by simp⟩ (by simp; omega) ?_
  rintro ⟨i, c, s⟩ ⟨hi, ⟨hc, hc1', hc2⟩, hs, hs1, hs2⟩
  try simp only at hi hc hc1' hc2 hs hs1 hs2 ⊢
  by_cases hil : i < T.length
  ·have e1 : ((natI T).map I64)[0 + ((i : Nat) : Int).toNat]? = some (I64 (T[i] : Nat)) := by rw [Nat.zero_add]; exact at_nat T i hil
   have HD := drop_at T i hil
   rw [HD, costL] at hc
   rw [HD, scoreL] at hs
   have hm := hmi T[i] (List.getElem_mem hil)
   clear HD
   generalize T[i] = n at *
   have e2 := at_tg l hm
   obtain ⟨⟨b1, b2⟩, b3, b4⟩ := tgI_ok ok hm
   generalize tgI l n = x at *
   repeat (first | apply ef_seq | (apply ef_mv; exact rfl; exact rfl) | (apply ef_bin; (iterate 3 exact rfl); (first | exact cmp_t rfl (by first | exact rfl | (simp only [cmpP]; omega)) | ((with_reducible refine bin_add (wrap_of ?_ ?_)) <;> omega))) | (apply ef_ldr; exact rfl; exact rfl; (exact rfl)) | (apply ef_ldp; exact rfl; exact rfl; (assumption); exact rfl; (assumption); (exact rfl)) | (apply ef_ias; (iterate 3 exact rfl); (omega); assumption; exact rfl) | (apply ef_iaa; (iterate 3 exact rfl); (omega); (omega); (assumption)) | (apply ef_far; exact rfl; exact rfl) | apply ef_nil | apply seqQ.normal | apply blockQ.normal | apply ef_block | apply ef_skip | (apply ef_condt; exact rfl; (exact (rfl : true = true))))
   (refine loopQ.normal _ _ ⟨(i + 1, c + x.c, s + x.s), ⟨hil, ⟨by simp only; omega, by simp only; omega, by simp only; omega⟩, by simp only; omega, by simp only; omega, by simp only; omega⟩, (by show T.length - (i + 1) < T.length - i; omega), ⟨by ((repeat (refine Hold.cons (by exact rfl) ?_)); exact Hold.nil), by ((repeat (refine Hold.cons (by exact rfl) ?_)); exact Hold.nil)⟩, .inl (Nat.le_refl _), (by first | exact List.take_length | exact rfl | exact takeF rfl rfl)⟩)
  ·rw [List.drop_eq_nil_of_le (by omega)] at hc hs
   simp only [costL, scoreL, Int.add_zero] at hc hs
   have hcmp := cmpR_neg T S
   have hco := fun h (q1 : frz 0 [] h 8 (.arr M.length 0 T.length 0) = some (.sl ((natI T).map I64))) (q2 : frz 0 [] h 8 (.arr id 0 S.length 0) = some (.sl ((natI S).map I64))) => Compare_c (k + 4) T S h (v := .arr M.length 0 T.length 0) (w := .arr id 0 S.length 0) (by omega) (by omega) q1 q2
   have hco1 := hco _ (frz_set hat) (frz_set hat8)
   clear hco
   generalize cmpR T S = q at *
   by_cases hcB : c ≤ B
   ·by_cases hsm : m < s
    ·repeat (first | apply ef_seq | (apply ef_mv; exact rfl; exact rfl) | (apply ef_bin; (iterate 3 exact rfl); (first | exact cmp_t rfl (by first | exact rfl | (simp only [cmpP]; omega)) | exact cmp_f rfl (by simp only [cmpP]; omega) | exact rfl)) | (apply ef_gy; exact rfl; (exact (rfl : true = true))) | (apply ef_gn; exact rfl; (exact (rfl : true = true)); exact rfl) | (apply ef_gu; exact rfl; exact rfl) | (apply ef_pick; (iterate 3 exact rfl)) | apply ef_nil | apply seqQ.normal | apply loopQ.exit | apply ef_exit | apply seqQ.exit | apply blockQ.normal | apply blockQ.here | (apply ef_condt; exact rfl; (exact (rfl : true = true))) | (apply ef_condf; exact rfl; (exact (rfl : false = false))))
     rw [wY]
     refine loopQ.normal _ _ ⟨(Y + 1, (T, s), M.length, M ++ [setO T]), ⟨⟨hYN, by simp only; rw [hbn.out, stepB_yes (by omega) (.inl (by simp only; omega)), hs]⟩, hM.new1⟩, by show N - (Y + 1) < N - Y; omega, ⟨by ((repeat (refine Hold.cons (by exact rfl) ?_)); exact Hold.nil), by ((repeat (refine Hold.cons (by exact rfl) ?_)); exact Hold.nil)⟩, hM.new2 (t := 8) (by simp) (by exact rfl)⟩
    ·by_cases hse : s = m
     ·by_cases hq : q < 0
      ·have hbf := hcmp.1 hq
       repeat (first | apply ef_seq | (apply ef_mv; exact rfl; exact rfl) | (apply ef_bin; (iterate 3 exact rfl); (first | exact cmp_t rfl (by first | exact rfl | (simp only [cmpP]; omega)) | exact cmp_f rfl (by simp only [cmpP]; omega) | exact rfl)) | (apply ef_gy; exact rfl; (first | exact (rfl : true = true) | exact (rfl : false = false))) | (apply ef_pick; (iterate 3 exact rfl)) | apply ef_nil | apply seqQ.normal | apply loopQ.exit | apply ef_exit | apply seqQ.exit | apply blockQ.normal | apply blockQ.here | (apply ef_condt; exact rfl; (exact (rfl : true = true))) | (apply ef_condf; exact rfl; (exact (rfl : false = false))) | (apply ef_call; exact rfl; ((repeat (apply XVs.cons; exact rfl)); exact XVs.nil); (with_reducible exact hco1)))
       rw [wY]
       refine loopQ.normal _ _ ⟨(Y + 1, (T, s), M.length, M ++ [setO T]), ⟨⟨hYN, by simp only; rw [hbn.out, stepB_yes (by omega) (.inr ⟨by simp only; omega, hbf⟩), hs]⟩, hM.new1⟩, by show N - (Y + 1) < N - Y; omega, ⟨by ((repeat (refine Hold.cons (by exact rfl) ?_)); exact Hold.nil), by ((repeat (refine Hold.cons (by exact rfl) ?_)); exact Hold.nil)⟩, hM.new2 (t := 8) (by simp) (by exact rfl)⟩
      ·have hbf : ¬ befL T S = true := fun h => hq (hcmp.2 h)
       repeat (first | apply ef_seq | (apply ef_mv; exact rfl; exact rfl) | (apply ef_bin; (iterate 3 exact rfl); (first | exact cmp_t rfl (by first | exact rfl | (simp only [cmpP]; omega)) | exact cmp_f rfl (by simp only [cmpP]; omega) | exact rfl)) | (apply ef_gy; exact rfl; (first | exact (rfl : true = true) | exact (rfl : false = false))) | (apply ef_pick; (iterate 3 exact rfl)) | apply ef_nil | apply seqQ.normal | apply loopQ.exit | apply ef_exit | apply seqQ.exit | apply blockQ.normal | apply blockQ.here | apply ef_skip | (apply ef_condf; exact rfl; (exact (rfl : false = false))) | (apply ef_call; exact rfl; ((repeat (apply XVs.cons; exact rfl)); exact XVs.nil); (with_reducible exact hco1)))
       rw [wY]
       refine loopQ.normal _ _ ⟨(Y + 1, (S, m), id, nextM id M (setO T)), ⟨⟨hYN, by simp only; rw [hbn.out, stepB_no2 (by simp only; omega) (fun h => hbf h.2)]⟩, hM.next1⟩, by show N - (Y + 1) < N - Y; omega, ⟨by ((repeat (refine Hold.cons (by exact rfl) ?_)); exact Hold.nil), by ((repeat (refine Hold.cons (by exact rfl) ?_)); exact Hold.nil)⟩, hM.next2 (t := 8) rfl rfl ?_ (by simp) (by exact rfl)⟩
       intro u hu
       simp only [List.mem_cons, List.not_mem_nil, or_false] at hu
       rcases hu with rfl | rfl | rfl | rfl | rfl | rfl
       all_goals first | exact .inl rfl | exact .inr ⟨_, rfl, rfl⟩ | exact .inr ⟨_, rfl, by simp [MV.lt, ltL_Tg]⟩
     ·repeat (first | apply ef_seq | (apply ef_mv; exact rfl; exact rfl) | (apply ef_bin; (iterate 3 exact rfl); (first | exact cmp_t rfl (by first | exact rfl | (simp only [cmpP]; omega)) | exact cmp_f rfl (by simp only [cmpP]; omega) | exact rfl)) | (apply ef_gy; exact rfl; (first | exact (rfl : true = true) | exact (rfl : false = false))) | (apply ef_gn; exact rfl; (exact (rfl : false = false)); exact rfl) | (apply ef_pick; (iterate 3 exact rfl)) | apply ef_nil | apply seqQ.normal | apply loopQ.exit | apply ef_exit | apply seqQ.exit | apply blockQ.normal | apply blockQ.here | apply ef_skip | (apply ef_condf; exact rfl; (exact (rfl : false = false))))
      rw [wY]
      refine loopQ.normal _ _ ⟨(Y + 1, (S, m), id, nextM id M (setO T)), ⟨⟨hYN, by simp only; rw [hbn.out, stepB_no2 (by simp only; omega) (fun h => hse (by have := h.1; simp only at this; omega))]⟩, hM.next1⟩, by show N - (Y + 1) < N - Y; omega, ⟨by ((repeat (refine Hold.cons (by exact rfl) ?_)); exact Hold.nil), by ((repeat (refine Hold.cons (by exact rfl) ?_)); exact Hold.nil)⟩, hM.next2 (t := 8) rfl rfl ?_ (by simp) (by exact rfl)⟩
      intro u hu
      simp only [List.mem_cons, List.not_mem_nil, or_false] at hu
      rcases hu with rfl | rfl | rfl | rfl | rfl | rfl
      all_goals first | exact .inl rfl | exact .inr ⟨_, rfl, rfl⟩ | exact .inr ⟨_, rfl, by simp [MV.lt, ltL_Tg]⟩
   ·repeat (first | apply ef_seq | (apply ef_mv; exact rfl; exact rfl) | (apply ef_bin; (iterate 3 exact rfl); (first | exact cmp_f rfl (by simp only [cmpP]; omega) | exact rfl)) | (apply ef_gn; exact rfl; (exact (rfl : false = false)); exact rfl) | (apply ef_gu; exact rfl; exact rfl) | (apply ef_pick; (iterate 3 exact rfl)) | apply ef_nil | apply seqQ.normal | apply loopQ.exit | apply ef_exit | apply seqQ.exit | apply blockQ.normal | apply blockQ.here | apply ef_skip | (apply ef_condf; exact rfl; (exact (rfl : false = false))))
    rw [wY]
    refine loopQ.normal _ _ ⟨(Y + 1, (S, m), id, nextM id M (setO T)), ⟨⟨hYN, by simp only; rw [hbn.out, stepB_no1 (by omega)]⟩, hM.next1⟩, by show N - (Y + 1) < N - Y; omega, ⟨by ((repeat (refine Hold.cons (by exact rfl) ?_)); exact Hold.nil), by ((repeat (refine Hold.cons (by exact rfl) ?_)); exact Hold.nil)⟩, hM.next2 (t := 8) rfl rfl ?_ (by simp) (by exact rfl)⟩
    intro u hu
    simp only [List.mem_cons, List.not_mem_nil, or_false] at hu
    rcases hu with rfl | rfl | rfl | rfl | rfl | rfl
    all_goals first | exact .inl rfl | exact .inr ⟨_, rfl, rfl⟩ | exact .inr ⟨_, rfl, by simp [MV.lt, ltL_Tg]⟩
 ·have hYe : Y = N := by omega
  subst hYe
  rw [← hst]
  have hat := hM.at_
  repeat (first | apply ef_seq | (apply ef_mv; exact rfl; exact rfl) | (apply ef_bin; (iterate 3 exact rfl); (exact cmp_f rfl (by simp only [cmpP]; omega))) | apply ef_nil | apply seqQ.normal | apply loopQ.exit | apply ef_ret | apply ef_exit | apply seqQ.exit | apply blockQ.here | (apply ef_condf; exact rfl; (exact (rfl : false = false))))
  (apply fin_all3; (· exact rfl); (· exact rfl); (· exact rfl); (· exact rfl); (· exact hat); (· exact rfl); (· exact (nat_len S).symm); (· exact natI_lt 0 S); (· exact rfl); (· exact rfl); (· exact rfl))
theorem BestSet_c (k : Nat) (l : List Tg) (B : Int) (h : MHeap) {v : MV} (hx : l.length ≤ 12) (hn : ∀ z ∈ l, z.nm.size ≤ 1000) (ok : OkTg l) (hv : frz 0 [] h 8 v = some (.sl (l.map encTg))) (he : bdgE l B = 0) (hB : 0 ≤ B) :
  orA (k + 8) 20 [v, I64 B] h = some (.tup [.arr h.length 0 (bestF l B (2 ^ l.length)).1.length 0, I64 (bestF l B (2 ^ l.length)).2, I64 0], h ++ [setO (bestF l B (2 ^ l.length)).1]) := by
 have := callA (k := k + 7) (h := h) (args := [v, I64 B]) (args' := [.sl (l.map encTg), I64 B]) (by simp [List.mapM_cons, hv, frz_lt (m := I64 B) rfl]) rfl (BestSet_z k l B hx hn ok he hB) (by simp [okV, ok1, MV.lt, MV.pure]) (by simp [okH, natI_lt, pureL_I, -List.map_map])
 simpa [shV, sh1] using this
end Go.Proofs.YtnmgpbihknjdjaaGreatDoor

/- Contracts: the best set of the document. -/
namespace Go.Proofs.YtnmgpbihknjdjaaGreatDoor
open Go.RowKit
set_option linter.unusedVariables false
theorem i64_shl {m : Nat} (hm : m ≤ 62) : shfI .shl .i64 1 (m : Int) = some (.int .i64 ((2 ^ m : Nat) : Int)) := by
 have h2 : 2 ^ m ≤ 2 ^ 62 := Nat.pow_le_pow_right (by omega) hm
 have e : shfI .shl .i64 1 (m : Int) = some (.int .i64 (IntKind.i64.wrap (1 * 2 ^ min m 64))) := by
  unfold shfI
  rw [if_neg (by omega)]
  rfl
 have e2 : ((2 : Int) ^ m) = ((2 ^ m : Nat) : Int) := by rw [Int.natCast_pow]; rfl
 have hw : IntKind.i64.wrap ((2 ^ m : Nat) : Int) = ((2 ^ m : Nat) : Int) := by
  generalize 2 ^ m = q at *
  exact wrap_of (by omega) (by omega)
 rw [e, Nat.min_eq_left (by omega), Int.one_mul, e2, hw]
theorem fin_all2 {x : MX2} {A : Sl} {h : MHeap} {t u id k g : Nat} {o : MObj} {es : List MV} {sz : Nat} {nl : Bool} {a : Value} (hx : outX x = true) (hv : look A t = some (.arr id 0 k g)) (ha : look A u = some (.lit a)) (ho : h[id]? = some o) (hg : o.g = g) (hk : k = es.length) (hl : ltL 0 es = true) (he : o.es = es) (hz : o.sz = sz) (hn : o.nl = nl) :
  FinF [.tmp t, .tmp u] (.tup [.arr 0 0 k 0, .lit a]) [⟨0, nl, sz, es⟩] x A h := by
 subst hz hn he hk
 refine ⟨hx, [.arr id 0 o.es.length g, .lit a], [.arr 0 0 o.es.length 0, .lit a], ⟨_, _, rfl, hv, _, [], rfl, ha, rfl⟩, ?_, ?_, rfl⟩
 ·simp [impIds]
 ·simp [impIds, expL, ho, hg, hl, frz, MV.lt]
theorem mf_Best : MT.mf 23 = some ⟨49, [(.tmp 4), (.tmp 5)], (.seq (.reg [gO 4 (.nil0 1), gO 5 (.mv (cI 0))]) (.seq (.reg [gO 6 (.nil0 1)]) (.seq (.reg [gO 7 (.mv (cI 0))]) (.seq (.seq (.reg [gO 8 (.mv (cI 1))]) (.block 0 (.loop [8, 0, 1, 7, 6] (.seq (.seq (.reg [gO 12 (.mv (.s 8)), gO 13 (.mv (.s 0)), gO 14 (.len (.s 13)), gO 15 (.shf .shl (cI 1) (.s 14)), gO 16 (.bin .lss (.s 12) (.s 15))]) (.cond (.s 16) .skip (.exit 0))) (.seq (.block 1 (.seq (.reg [gO 19 (.mv (.s 8)), gO 20 (.call 112 [.s 19]), gO 9 (.mv (.s 20))]) (.seq (.reg [gO 22 (.mv (.s 0)), gO 23 (.mv (.s 9)), gO 24 (.call 40 [.s 22, .s 23]), gO 21 (.mv (.s 24)), gO 25 (.ext (.s 21) 0), gO 26 (.ext (.s 21) 1), gO 10 (.mv (.s 25)), gO 11 (.mv (.s 26))]) (.seq (.reg [gO 27 (.mv (.s 10)), gO 28 (.mv (.s 1)), gO 29 (.bin .leq (.s 27) (.s 28)), gO 30 (.mv (.s 29)), ⟨some (30, true), some 31, .mv (.s 11)⟩, ⟨some (30, true), some 32, .mv (.s 7)⟩, ⟨some (30, true), some 33, .bin .gtr (.s 31) (.s 32)⟩, ⟨some (30, true), some 34, .mv (.s 33)⟩, ⟨some (34, false), some 35, .mv (.s 11)⟩, ⟨some (34, false), some 36, .mv (.s 7)⟩, ⟨some (34, false), some 37, .bin .eql (.s 35) (.s 36)⟩, ⟨some (34, false), some 38, .mv (.s 37)⟩, ⟨some (38, true), some 39, .mv (.s 9)⟩, ⟨some (38, true), some 40, .mv (.s 6)⟩, ⟨some (38, true), some 41, .call 92 [.s 39, .s 40]⟩, ⟨some (34, false), some 42, .pick (.s 38) (.s 41) cF⟩, ⟨some (30, true), some 43, .pick (.s 34) cT (.s 42)⟩, gO 44 (.pick (.s 30) (.s 43) cF)]) (.cond (.s 44) (.reg [gO 45 (.mv (.s 9)), gO 46 (.mv (.s 11)), gO 6 (.mv (.s 45)), gO 7 (.mv (.s 46))]) .skip))))) (.reg [gO 17 (.mv (.s 8)), gO 18 (.bin .add (.s 17) (cI 1)), gO 8 (.mv (.s 18))])))))) (.seq (.reg [gO 47 (.mv (.s 6)), gO 48 (.mv (.s 7)), gO 4 (.mv (.s 47)), gO 5 (.mv (.s 48))]) .ret)))))⟩ := by kernel_rfl
set_option maxHeartbeats 4000000 in
theorem Best_z (k : Nat) (l : List Tg) (B : Int) (hx : l.length ≤ 12) (ok : OkTg l) (hB : 0 ≤ B) :
  runZ MT (orA (k + 1)) (itA (k + 1)) 4000000 23 [.sl (l.map encTg), I64 B] [] = some (.tup [.arr 0 0 (bestF l B (2 ^ l.length)).1.length 0, I64 (bestF l B (2 ^ l.length)).2], [setO (bestF l B (2 ^ l.length)).1]) := by
 have hs : (MV.sl (l.map encTg)).slen = some l.length := by simp [MV.slen]
 refine runZ_of mf_Best (by simp) ?_
 simp only [argsL]
 have hpw : 2 ^ l.length ≤ 2 ^ 12 := Nat.pow_le_pow_right (by decide) hx
 have hsh := i64_shl (m := l.length) (by omega)
 have hlt := fun S => bestF_mb l B l.length S
 have h1N : 1 ≤ 2 ^ l.length := Nat.two_pow_pos _
 obtain ⟨N, hN⟩ : ∃ N, N = 2 ^ l.length := ⟨_, rfl⟩
 rw [← hN] at hsh hpw hlt h1N ⊢
 have hNm : ∀ Y, Y < N → ∀ i ∈ mbL Y, i < l.length := fun Y hY => mbL_lt (by rw [← hN]; exact hY) (by omega)
 have hNl : ∀ Y, Y < N → (mbL Y).length ≤ 12 := fun Y hY => Nat.le_trans (mbL_len (m := l.length) (by rw [← hN]; exact hY) (by omega)) hx
 clear hN
 repeat (first | apply ef_seq | (apply ef_mv; exact rfl; exact rfl) | (apply ef_nil0; exact rfl) | apply ef_nil | apply seqQ.normal | apply ef_block)
 refine ef_loopg (α := Nat × (List Nat × Int) × Nat × MHeap) (fun a => (a.1 ≤ N ∧ a.2.1 = bestF l B a.1) ∧ BestM a.2.2.2 a.2.2.1 a.2.1.1 [⟨0, true, 1, []⟩, ⟨0, true, 1, []⟩]) (fun a => [(8, I64 (a.1 : Nat)), (7, I64 a.2.1.2), (6, .arr a.2.2.1 0 a.2.1.1.length 0)]) [(0, .sl (l.map encTg)), (1, I64 B)] (fun a => a.2.2.2) (fun a => N - a.1)
  (1, ([], 0), 1, [⟨0, true, 1, []⟩, ⟨0, true, 1, []⟩]) [8, 7, 6] (fun _ => rfl) (by ((repeat (refine Hold.cons (by exact rfl) ?_)); exact Hold.nil)) (by ((repeat (refine Hold.cons (by exact rfl) ?_)); exact Hold.nil)) rfl rfl rfl ⟨⟨h1N, (bestF_one l B).symm⟩, rfl, by simp, .inl ⟨by decide, rfl⟩⟩ (by simp only; omega) ?_
 rintro ⟨Y, ⟨S, m⟩, id, M⟩ ⟨⟨hY, hst⟩, hM⟩
 try simp only at hY hst hM ⊢
 by_cases hYN : Y < N
 ·have hc1 := fun h => rMembers_c k Y (by omega) h
  have hml := hNl Y hYN
  have hmi := hNm Y hYN
  have hbn : bestF l B (Y + 1) = stepB l B (bestF l B Y) (mbL Y) := rfl
  rw [← hst] at hbn
  have hbn := Lib.hid hbn
  have hSl : S.length ≤ 12 := by
   obtain ⟨Z, hZ, hZe⟩ := hlt Y hY
   rw [← hst] at hZe
   simp only at hZe
   rw [hZe]
   exact hNl Z hZ
  clear hst hlt
  generalize mbL Y = T at *
  have hT2 : (⟨0, decide (T.length = 0), 1, (natI T).map I64⟩ : MObj) = setO T := rfl
  rw [hT2] at hc1
  have hat := at_endN M (setO T)
  have hat8 := at_left (x := setO T) hM.at_
  have hT : (MV.arr M.length 0 T.length 0).slen = some T.length := rfl
  have h2 := fun (h : MHeap) (q : frz 0 [] h 8 (.arr M.length 0 T.length 0) = some (.sl ((natI T).map I64))) => rTotals_c k l T h (v := .sl (l.map encTg)) (w := .arr M.length 0 T.length 0) ok hmi (by omega) (frz_sl (ltL_Tg 0 l)) q
  have h2 := h2 _ (frz_set hat)
  have hco := fun (h : MHeap) (q1 : frz 0 [] h 8 (.arr M.length 0 T.length 0) = some (.sl ((natI T).map I64))) (q2 : frz 0 [] h 8 (.arr id 0 S.length 0) = some (.sl ((natI S).map I64))) => Before_c k T S h (v := .arr M.length 0 T.length 0) (w := .arr id 0 S.length 0) (by omega) (by omega) q1 q2 rfl
  have hco1 := hco _ (frz_set hat) (frz_set hat8)
  clear hco
  obtain ⟨c, hc⟩ : ∃ c, costL l T = c := ⟨_, rfl⟩
  obtain ⟨s, hs2⟩ : ∃ s, scoreL l T = s := ⟨_, rfl⟩
  rw [hc, hs2] at h2
  have HC := Lib.hid hc
  have HS := Lib.hid hs2
  obtain ⟨b, hbf⟩ : ∃ b, befL T S = b := ⟨_, rfl⟩
  rw [hbf] at hco1
  have HB := Lib.hid hbf
  clear hc hs2 hbf
  by_cases hcB : c ≤ B
  ·by_cases hsm : m < s
   ·repeat (first | apply ef_seq | (apply ef_mv; exact rfl; exact rfl) | (apply ef_bin; (iterate 3 exact rfl); (first | exact cmp_t rfl (by first | exact rfl | (simp only [cmpP]; omega)) | ((with_reducible refine bin_add (wrap_of ?_ ?_)) <;> omega))) | (apply ef_gy; exact rfl; (exact (rfl : true = true))) | (apply ef_gn; exact rfl; (exact (rfl : true = true)); exact rfl) | (apply ef_gu; exact rfl; exact rfl) | (apply ef_pick; (iterate 3 exact rfl)) | (apply ef_len; exact rfl; exact rfl; (assumption)) | (apply ef_ext; (iterate 3 exact rfl)) | (apply ef_shf; (iterate 3 exact rfl); (assumption)) | apply ef_nil | apply seqQ.normal | apply blockQ.normal | apply ef_block | apply ef_skip | (apply ef_condt; exact rfl; (exact (rfl : true = true))) | (apply ef_call; exact rfl; ((repeat (apply XVs.cons; exact rfl)); exact XVs.nil); (with_reducible first | exact hc1 _ | exact h2)))
    refine loopQ.normal _ _ ⟨(Y + 1, (T, s), M.length, M ++ [setO T]), ⟨⟨hYN, by simp only; rw [hbn.out, stepB_yes (by rw [HC.out]; omega) (.inl (by rw [HS.out]; simp only; omega)), HS.out]⟩, hM.new1⟩, by show N - (Y + 1) < N - Y; omega, ⟨by ((repeat (refine Hold.cons (by exact rfl) ?_)); exact Hold.nil), by ((repeat (refine Hold.cons (by exact rfl) ?_)); exact Hold.nil)⟩, hM.new2 (t := 6) (by simp) (by exact rfl)⟩
   ·by_cases hse : s = m
    ·cases b
     ·repeat (first | apply ef_seq | (apply ef_mv; exact rfl; exact rfl) | (apply ef_bin; (iterate 3 exact rfl); (first | exact cmp_t rfl (by first | exact rfl | (simp only [cmpP]; omega)) | exact cmp_f rfl (by simp only [cmpP]; omega) | ((with_reducible refine bin_add (wrap_of ?_ ?_)) <;> omega))) | (apply ef_gy; exact rfl; (first | exact (rfl : true = true) | exact (rfl : false = false))) | (apply ef_pick; (iterate 3 exact rfl)) | (apply ef_len; exact rfl; exact rfl; (assumption)) | (apply ef_ext; (iterate 3 exact rfl)) | (apply ef_shf; (iterate 3 exact rfl); (assumption)) | apply ef_nil | apply seqQ.normal | apply blockQ.normal | apply ef_block | apply ef_skip | (apply ef_condt; exact rfl; (exact (rfl : true = true))) | (apply ef_condf; exact rfl; (exact (rfl : false = false))) | (apply ef_call; exact rfl; ((repeat (apply XVs.cons; exact rfl)); exact XVs.nil); (with_reducible first | exact hc1 _ | exact h2 | exact hco1)))
      refine loopQ.normal _ _ ⟨(Y + 1, (S, m), id, nextM id M (setO T)), ⟨⟨hYN, by simp only; rw [hbn.out, stepB_no2 (by rw [HS.out]; simp only; omega) (fun h => by rw [HB.out] at h; exact absurd h.2 (by decide))]⟩, hM.next1⟩, by show N - (Y + 1) < N - Y; omega, ⟨by ((repeat (refine Hold.cons (by exact rfl) ?_)); exact Hold.nil), by ((repeat (refine Hold.cons (by exact rfl) ?_)); exact Hold.nil)⟩, hM.next2 (t := 6) rfl rfl ?_ (by simp) (by exact rfl)⟩
      intro u hu
      simp only [List.mem_cons, List.not_mem_nil, or_false] at hu
      rcases hu with rfl | rfl | rfl | rfl | rfl
      all_goals first | exact .inl rfl | exact .inr ⟨_, rfl, rfl⟩ | exact .inr ⟨_, rfl, by simp [MV.lt, ltL_Tg]⟩
     ·repeat (first | apply ef_seq | (apply ef_mv; exact rfl; exact rfl) | (apply ef_bin; (iterate 3 exact rfl); (first | exact cmp_t rfl (by first | exact rfl | (simp only [cmpP]; omega)) | exact cmp_f rfl (by simp only [cmpP]; omega) | ((with_reducible refine bin_add (wrap_of ?_ ?_)) <;> omega))) | (apply ef_gy; exact rfl; (first | exact (rfl : true = true) | exact (rfl : false = false))) | (apply ef_pick; (iterate 3 exact rfl)) | (apply ef_len; exact rfl; exact rfl; (assumption)) | (apply ef_ext; (iterate 3 exact rfl)) | (apply ef_shf; (iterate 3 exact rfl); (assumption)) | apply ef_nil | apply seqQ.normal | apply blockQ.normal | apply ef_block | apply ef_skip | (apply ef_condt; exact rfl; (exact (rfl : true = true))) | (apply ef_call; exact rfl; ((repeat (apply XVs.cons; exact rfl)); exact XVs.nil); (with_reducible first | exact hc1 _ | exact h2 | exact hco1)))
      refine loopQ.normal _ _ ⟨(Y + 1, (T, s), M.length, M ++ [setO T]), ⟨⟨hYN, by simp only; rw [hbn.out, stepB_yes (by rw [HC.out]; omega) (.inr ⟨by rw [HS.out]; simp only; omega, HB.out⟩), HS.out]⟩, hM.new1⟩, by show N - (Y + 1) < N - Y; omega, ⟨by ((repeat (refine Hold.cons (by exact rfl) ?_)); exact Hold.nil), by ((repeat (refine Hold.cons (by exact rfl) ?_)); exact Hold.nil)⟩, hM.new2 (t := 6) (by simp) (by exact rfl)⟩
    ·repeat (first | apply ef_seq | (apply ef_mv; exact rfl; exact rfl) | (apply ef_bin; (iterate 3 exact rfl); (first | exact cmp_t rfl (by first | exact rfl | (simp only [cmpP]; omega)) | exact cmp_f rfl (by simp only [cmpP]; omega) | ((with_reducible refine bin_add (wrap_of ?_ ?_)) <;> omega))) | (apply ef_gy; exact rfl; (first | exact (rfl : true = true) | exact (rfl : false = false))) | (apply ef_gn; exact rfl; (exact (rfl : false = false)); exact rfl) | (apply ef_pick; (iterate 3 exact rfl)) | (apply ef_len; exact rfl; exact rfl; (assumption)) | (apply ef_ext; (iterate 3 exact rfl)) | (apply ef_shf; (iterate 3 exact rfl); (assumption)) | apply ef_nil | apply seqQ.normal | apply blockQ.normal | apply ef_block | apply ef_skip | (apply ef_condt; exact rfl; (exact (rfl : true = true))) | (apply ef_condf; exact rfl; (exact (rfl : false = false))) | (apply ef_call; exact rfl; ((repeat (apply XVs.cons; exact rfl)); exact XVs.nil); (with_reducible first | exact hc1 _ | exact h2)))
     refine loopQ.normal _ _ ⟨(Y + 1, (S, m), id, nextM id M (setO T)), ⟨⟨hYN, by simp only; rw [hbn.out, stepB_no2 (by rw [HS.out]; simp only; omega) (fun h => hse (by have := h.1; rw [HS.out] at this; exact this))]⟩, hM.next1⟩, by show N - (Y + 1) < N - Y; omega, ⟨by ((repeat (refine Hold.cons (by exact rfl) ?_)); exact Hold.nil), by ((repeat (refine Hold.cons (by exact rfl) ?_)); exact Hold.nil)⟩, hM.next2 (t := 6) rfl rfl ?_ (by simp) (by exact rfl)⟩
     intro u hu
     simp only [List.mem_cons, List.not_mem_nil, or_false] at hu
     rcases hu with rfl | rfl | rfl | rfl | rfl
     all_goals first | exact .inl rfl | exact .inr ⟨_, rfl, rfl⟩ | exact .inr ⟨_, rfl, by simp [MV.lt, ltL_Tg]⟩
  ·repeat (first | apply ef_seq | (apply ef_mv; exact rfl; exact rfl) | (apply ef_bin; (iterate 3 exact rfl); (first | exact cmp_t rfl (by first | exact rfl | (simp only [cmpP]; omega)) | exact cmp_f rfl (by simp only [cmpP]; omega) | ((with_reducible refine bin_add (wrap_of ?_ ?_)) <;> omega))) | (apply ef_gn; exact rfl; (exact (rfl : false = false)); exact rfl) | (apply ef_gu; exact rfl; exact rfl) | (apply ef_pick; (iterate 3 exact rfl)) | (apply ef_len; exact rfl; exact rfl; (assumption)) | (apply ef_ext; (iterate 3 exact rfl)) | (apply ef_shf; (iterate 3 exact rfl); (assumption)) | apply ef_nil | apply seqQ.normal | apply blockQ.normal | apply ef_block | apply ef_skip | (apply ef_condt; exact rfl; (exact (rfl : true = true))) | (apply ef_condf; exact rfl; (exact (rfl : false = false))) | (apply ef_call; exact rfl; ((repeat (apply XVs.cons; exact rfl)); exact XVs.nil); (with_reducible first | exact hc1 _ | exact h2)))
   refine loopQ.normal _ _ ⟨(Y + 1, (S, m), id, nextM id M (setO T)), ⟨⟨hYN, by simp only; rw [hbn.out, stepB_no1 (by rw [HC.out]; omega)]⟩, hM.next1⟩, by show N - (Y + 1) < N - Y; omega, ⟨by ((repeat (refine Hold.cons (by exact rfl) ?_)); exact Hold.nil), by ((repeat (refine Hold.cons (by exact rfl) ?_)); exact Hold.nil)⟩, hM.next2 (t := 6) rfl rfl ?_ (by simp) (by exact rfl)⟩
   intro u hu
   simp only [List.mem_cons, List.not_mem_nil, or_false] at hu
   rcases hu with rfl | rfl | rfl | rfl | rfl
   all_goals first | exact .inl rfl | exact .inr ⟨_, rfl, rfl⟩ | exact .inr ⟨_, rfl, by simp [MV.lt, ltL_Tg]⟩
 ·have hYe : Y = N := by omega
  subst hYe
  rw [← hst]
  have hat := hM.at_
  repeat (first | apply ef_seq | (apply ef_mv; exact rfl; exact rfl) | (apply ef_bin; (iterate 3 exact rfl); (exact cmp_f rfl (by simp only [cmpP]; omega))) | (apply ef_len; exact rfl; exact rfl; (assumption)) | (apply ef_shf; (iterate 3 exact rfl); (assumption)) | apply ef_nil | apply seqQ.normal | apply loopQ.exit | apply ef_ret | apply ef_exit | apply seqQ.exit | apply blockQ.here | (apply ef_condf; exact rfl; (exact (rfl : false = false))))
  (apply fin_all2; (· exact rfl); (· exact rfl); (· exact rfl); (· exact hat); (· exact rfl); (· exact (nat_len S).symm); (· exact natI_lt 0 S); (· exact rfl); (· exact rfl); (· exact rfl))
theorem Best_c (k : Nat) (l : List Tg) (B : Int) (h : MHeap) {v : MV} (hx : l.length ≤ 12) (ok : OkTg l) (hv : frz 0 [] h 8 v = some (.sl (l.map encTg))) (hB : 0 ≤ B) :
  orA (k + 2) 23 [v, I64 B] h = some (.tup [.arr h.length 0 (bestF l B (2 ^ l.length)).1.length 0, I64 (bestF l B (2 ^ l.length)).2], h ++ [setO (bestF l B (2 ^ l.length)).1]) := by
 have := callA (k := k + 1) (h := h) (args := [v, I64 B]) (args' := [.sl (l.map encTg), I64 B]) (by simp [List.mapM_cons, hv, frz_lt (m := I64 B) rfl]) rfl (Best_z k l B hx ok hB) (by simp [okV, ok1, MV.lt, MV.pure]) (by simp [okH, natI_lt, pureL_I, -List.map_map])
 simpa [shV, sh1] using this
theorem tgE_ok {ns : List ByteArray} {x : Tg} (h : tgE ns x = 0) : (1 ≤ x.c ∧ x.c ≤ 1000000) ∧ 0 ≤ x.s ∧ x.s ≤ 1000000 := by
 unfold tgE at h
 cases h1 : nameUB x.nm <;> rw [h1] at h
 ·simp at h
 ·cases h2 : ns.any (fun o => o == x.nm) <;> rw [h2] at h
  ·cases h3 : (inB x.c 1 1000000 && inB x.s 0 1000000) <;> rw [h3] at h
   ·simp at h
   ·rw [Bool.and_eq_true, inB_iff, inB_iff] at h3
    exact h3
  ·simp at h
theorem firT_ok (l : List Tg) : ∀ (r : List Tg) (i : Nat), (firT l i r).2 = 0 → ∀ x ∈ r, (1 ≤ x.c ∧ x.c ≤ 1000000) ∧ 0 ≤ x.s ∧ x.s ≤ 1000000
 | [], _, _, x, hx => by cases hx
 | z :: r, i, h, x, hx => by
  rw [firT] at h
  by_cases he : tgE ((l.take i).map Tg.nm) z = 0
  ·rw [if_pos he] at h
   rcases List.mem_cons.1 hx with rfl | hx
   ·exact tgE_ok he
   ·exact firT_ok l r (i + 1) h x hx
  ·rw [if_neg he] at h
   exact absurd h he
theorem itmE_ok {l : List Tg} (h : (itmE l).2 = 0) : OkTg l := by
 unfold itmE at h
 by_cases h1 : 12 < l.length
 ·rw [if_pos h1] at h; exact absurd h (by decide)
 ·rw [if_neg h1] at h
  intro x hx
  have := firT_ok l l 0 h x hx
  exact ⟨⟨by omega, this.1.2⟩, this.2⟩
end Go.Proofs.YtnmgpbihknjdjaaGreatDoor

/- TargetSets: the walk. -/
namespace Go.Proofs.YtnmgpbihknjdjaaGreatDoor
open Go.RowKit
set_option linter.unusedVariables false
theorem mf_lawBs : MT.mf 3 = some ⟨91, [(.tmp 4)], (.seq (.reg [gO 4 (.mv cF)]) (.seq (.seq (.reg [gO 14 (.call 15 []), gO 15 (.un .not (.s 14))]) (.cond (.s 15) (.seq (.reg [gO 4 (.mv cF)]) .ret) .skip)) (.seq (.seq (.reg [gO 16 (.mv (.s 0)), gO 17 (.call 16 [.s 16]), gO 18 (.un .not (.s 17)), gO 19 (.mv (.s 18)), ⟨some (19, false), some 20, .mv (.s 0)⟩, ⟨some (19, false), some 21, .call 17 [.s 20]⟩, ⟨some (19, false), some 22, .bin .eql (.s 21) (cI 0)⟩, ⟨some (19, false), some 23, .mv (.s 22)⟩, ⟨some (23, true), some 24, .mv (.s 0)⟩, ⟨some (23, true), some 25, .len (.s 24)⟩, ⟨some (23, true), some 26, .bin .gtr (.s 25) (cI 8)⟩, ⟨some (19, false), some 27, .pick (.s 23) (.s 26) cF⟩, gO 28 (.pick (.s 19) cT (.s 27))]) (.cond (.s 28) (.seq (.reg [gO 4 (.mv cT)]) .ret) .skip)) (.seq (.reg [gO 30 (.mv (.s 0)), gO 31 (.call 19 [.s 30]), gO 32 (.call 18 [.s 31]), gO 29 (.mv (.s 32)), gO 33 (.ext (.s 29) 0), gO 34 (.ext (.s 29) 1), gO 5 (.mv (.s 33)), gO 6 (.mv (.s 34))]) (.seq (.reg [gO 36 (.mv (.s 0)), gO 37 (.call 19 [.s 36]), gO 38 (.mv (.s 1)), gO 39 (.call 20 [.s 37, .s 38]), gO 35 (.mv (.s 39)), gO 40 (.ext (.s 35) 0), gO 41 (.ext (.s 35) 1), gO 42 (.ext (.s 35) 2), gO 7 (.mv (.s 40)), gO 8 (.mv (.s 41)), gO 9 (.mv (.s 42))]) (.seq (.reg [gO 44 (.mv (.s 0)), gO 45 (.call 21 [.s 44]), gO 43 (.mv (.s 45)), gO 46 (.ext (.s 43) 0), gO 47 (.ext (.s 43) 1), gO 10 (.mv (.s 46)), gO 11 (.mv (.s 47))]) (.seq (.seq (.reg [gO 48 (.mv (.s 6)), gO 49 (.mv (.s 11)), gO 50 (.bin .neq (.s 48) (.s 49)), gO 51 (.mv (.s 50)), ⟨some (51, false), some 52, .mv (.s 5)⟩, ⟨some (51, false), some 53, .mv (.s 10)⟩, ⟨some (51, false), some 54, .bin .neq (.s 52) (.s 53)⟩, gO 55 (.pick (.s 51) cT (.s 54))]) (.cond (.s 55) (.seq (.reg [gO 4 (.mv cF)]) .ret) .skip)) (.seq (.seq (.reg [gO 56 (.mv (.s 0)), gO 57 (.mv (.s 1)), gO 58 (.call 22 [.s 56, .s 57]), gO 11 (.mv (.s 58))]) (.seq (.reg [gO 59 (.mv (.s 11)), gO 60 (.bin .neq (.s 59) (cI 0))]) (.cond (.s 60) (.seq (.reg [gO 61 (.mv (.s 9)), gO 62 (.mv (.s 11)), gO 63 (.bin .eql (.s 61) (.s 62)), gO 64 (.mv (.s 63)), ⟨some (64, true), some 65, .mv (.s 7)⟩, ⟨some (64, true), some 66, .len (.s 65)⟩, ⟨some (64, true), some 67, .bin .eql (.s 66) (cI 0)⟩, gO 68 (.pick (.s 64) (.s 67) cF), gO 69 (.mv (.s 68)), ⟨some (69, true), some 70, .mv (.s 8)⟩, ⟨some (69, true), some 71, .bin .eql (.s 70) (cI 0)⟩, gO 72 (.pick (.s 69) (.s 71) cF), gO 4 (.mv (.s 72))]) .ret) .skip))) (.seq (.reg [gO 74 (.mv (.s 0)), gO 75 (.mv (.s 1)), gO 76 (.call 23 [.s 74, .s 75]), gO 73 (.mv (.s 76)), gO 77 (.ext (.s 73) 0), gO 78 (.ext (.s 73) 1), gO 12 (.mv (.s 77)), gO 13 (.mv (.s 78))]) (.seq (.reg [gO 79 (.mv (.s 9)), gO 80 (.bin .eql (.s 79) (cI 0)), gO 81 (.mv (.s 80)), ⟨some (81, true), some 82, .mv (.s 7)⟩, ⟨some (81, true), some 83, .mv (.s 12)⟩, ⟨some (81, true), some 84, .call 24 [.s 82, .s 83]⟩, gO 85 (.pick (.s 81) (.s 84) cF), gO 86 (.mv (.s 85)), ⟨some (86, true), some 87, .mv (.s 8)⟩, ⟨some (86, true), some 88, .mv (.s 13)⟩, ⟨some (86, true), some 89, .bin .eql (.s 87) (.s 88)⟩, gO 90 (.pick (.s 86) (.s 89) cF), gO 4 (.mv (.s 90))]) .ret))))))))))⟩ := by kernel_rfl
theorem fewT_ok {l : List Tg} (h : fewT l = true) : l.length ≤ 14 ∧ ∀ z ∈ l, z.nm.size ≤ 20 := by
 unfold fewT at h
 rw [Bool.and_eq_true, decide_eq_true_eq, List.all_eq_true] at h
 exact ⟨h.1, fun z hz => by simpa using h.2 z hz⟩
set_option maxHeartbeats 4000000 in
theorem TargetSets_z (l : List Tg) (B : Int) (hlen : (l.length : Int) ≤ 9223372036854775807) (hsz : ∀ z ∈ l, (z.nm.size : Int) ≤ 9223372036854775807) :
  runZ MT (orA 14) (itA 14) 4000000 3 [.sl (l.map encTg), I64 B] [] = some (Bo true, []) := by
 refine runZ_of mf_lawBs (by simp) ?_
 simp only [argsL]
 have hs : (MV.sl (l.map encTg)).slen = some l.length := by simp [MV.slen]
 cases hfew : fewT l
 ·repeat (first | apply ef_seq | (apply ef_mv; exact rfl; exact rfl) | (apply ef_gn; exact rfl; (exact (rfl : true = true)); exact rfl) | (apply ef_gu; exact rfl; exact rfl) | (apply ef_pick; (iterate 3 exact rfl)) | (apply ef_notT; exact rfl; exact rfl) | (apply ef_notF; exact rfl; exact rfl) | apply ef_nil | apply seqQ.normal | apply ef_ret | apply seqQ.ret | apply ef_skip | (apply ef_condt; exact rfl; (exact (rfl : true = true))) | (apply ef_condf; exact rfl; (exact (rfl : false = false))) | (apply ef_call; exact rfl; ((repeat (apply XVs.cons; exact rfl)); exact XVs.nil); (with_reducible first | exact awake_c _ | exact Few_c 13 l _ hlen hsz hfew)))
  (refine fin1 rfl (by exact rfl) rfl ?_)
  rfl
 obtain ⟨hx, hn⟩ := fewT_ok hfew
 have hn' : ∀ z ∈ l, z.nm.size ≤ 1000 := fun z hz => by have := hn z hz; omega
 have aw := fun h => awake_c h
 have fw := fun h => Few_c 13 l h hlen hsz hfew
 have cp := fun h => CopyItems_c 13 l h (by omega)
 have fz : ∀ (M : MHeap) (T : MHeap), frz 0 [] (M ++ [⟨0, false, 3, l.map encTg⟩] ++ T) 8 (.arr M.length 0 l.length 0) = some (.sl (l.map encTg)) := fun M T => by
  refine frz_row (o := ⟨0, false, 3, l.map encTg⟩) ?_ rfl (by simp) (ltL_Tg 0 l) rfl
  rw [List.append_assoc, List.getElem?_append_right (Nat.le_refl _)]; simp
 have fz0 : ∀ (M : MHeap), frz 0 [] (M ++ [⟨0, false, 3, l.map encTg⟩]) 8 (.arr M.length 0 l.length 0) = some (.sl (l.map encTg)) := fun M => by
  have := fz M []
  rwa [List.append_nil] at this
 have fs : ∀ h, frz 0 [] h 8 (.sl (l.map encTg)) = some (.sl (l.map encTg)) := fun h => frz_sl (ltL_Tg 0 l)
 have r1 := fun h => rCheckItems_c 12 l h (by omega) hn' (fs h)
 have r0 := fun h => rItemsErr_c 11 l h (by omega) hn' (fs h)
 have c1 := fun M => CheckItems_c 8 l (M ++ [⟨0, false, 3, l.map encTg⟩]) (by omega) hn' (fz0 M)
 have r2 := fun e h (he : bdgE l B = e) => rBudgetErr_c 10 l B h (by omega) hn' (fs h) he
 by_cases hbe : bdgE l B = 0
 ·have hbe2 := hbe
  unfold bdgE at hbe2
  obtain ⟨hi, hbe2⟩ := firstE_nil hbe2
  obtain ⟨hb, _⟩ := firstE_nil hbe2
  rw [unl_zero (by decide), inB_iff] at hb
  have ok := itmE_ok hi
  have r3 := fun h => r2 0 h hbe
  clear r2
  generalize itmE l = p at *
  obtain ⟨pi, pe⟩ := p
  simp only at hi
  subst hi
  by_cases h8 : 8 < l.length
  ·repeat (first | apply ef_seq | (apply ef_mv; exact rfl; exact rfl) | (apply ef_bin; (iterate 3 exact rfl); (exact cmp_t rfl (by first | exact rfl | (simp only [cmpP]; omega)))) | (apply ef_gy; exact rfl; (first | exact (rfl : true = true) | exact (rfl : false = false))) | (apply ef_pick; (iterate 3 exact rfl)) | (apply ef_len; exact rfl; exact rfl; (assumption)) | (apply ef_notT; exact rfl; exact rfl) | apply ef_nil | apply seqQ.normal | apply ef_ret | apply seqQ.ret | apply ef_skip | (apply ef_condt; exact rfl; (exact (rfl : true = true))) | (apply ef_condf; exact rfl; (exact (rfl : false = false))) | (apply ef_call; exact rfl; ((repeat (apply XVs.cons; exact rfl)); exact XVs.nil); (with_reducible first | exact aw _ | exact fw _ | exact r0 _)))
   (refine fin1 rfl (by exact rfl) rfl ?_)
   rfl
  ·have c2 := fun M => BestSet_c 6 l B (M ++ [⟨0, false, 3, l.map encTg⟩]) (by omega) hn' ok (fz0 M) hbe hb.1
   have r4 := fun h => Best_c 12 l B h (by omega) ok (fs h) hb.1
   have hS : (bestF l B (2 ^ l.length)).1.length < 1000000 := by
    obtain ⟨Z, hZ, hZe⟩ := bestF_mb l B l.length _ (Nat.le_refl _)
    rw [hZe]
    have := mbL_len (m := l.length) hZ (by omega)
    omega
   generalize bestF l B (2 ^ l.length) = R at *
   obtain ⟨S, m⟩ := R
   simp only at hS c2 r4
   repeat (first | apply ef_seq | (apply ef_mv; exact rfl; exact rfl) | (apply ef_bin; (iterate 3 exact rfl); (first | exact cmp_t rfl (by first | exact rfl | (simp only [cmpP]; omega)) | exact cmp_f rfl (by simp only [cmpP]; omega))) | (apply ef_gy; exact rfl; (first | exact (rfl : true = true) | exact (rfl : false = false))) | (apply ef_pick; (iterate 3 exact rfl)) | (apply ef_len; exact rfl; exact rfl; (assumption)) | (apply ef_notT; exact rfl; exact rfl) | (apply ef_ext; (iterate 3 exact rfl)) | apply ef_nil | apply seqQ.normal | apply ef_skip | (apply ef_condf; exact rfl; (exact (rfl : false = false))) | (apply ef_call; exact rfl; ((repeat (apply XVs.cons; exact rfl)); exact XVs.nil); (with_reducible first | exact aw _ | exact fw _ | exact r0 _ | exact cp _ | exact c1 _ | exact c2 _ | exact r1 _ | exact r3 _ | exact r4 _)))
   (apply ef_call; (· exact rfl); (· ((repeat (apply XVs.cons; exact rfl)); exact XVs.nil)); · exact bInts_c 13 (natI S) (natI S) _ (by rw [List.length_map]; exact hS) (frz_row (o := setO S) rfl rfl (nat_len S).symm (natI_lt 0 S) rfl) (frz_row (o := setO S) rfl rfl (nat_len S).symm (natI_lt 0 S) rfl) (beq_self_eq_true (natI S)))
   repeat (first | (apply ef_mv; exact rfl; exact rfl) | (apply ef_bin; (iterate 3 exact rfl); (exact cmp_t rfl (by first | exact rfl | (simp only [cmpP]; omega)))) | (apply ef_gy; exact rfl; (exact (rfl : true = true))) | (apply ef_pick; (iterate 3 exact rfl)) | apply ef_nil | apply seqQ.normal | apply ef_ret)
   (refine fin1 rfl (by exact rfl) rfl ?_)
   rfl
 ·obtain ⟨e, he⟩ : ∃ e, bdgE l B = e := ⟨_, rfl⟩
  have r3 := fun h => r2 e h he
  clear r2
  have c2 := fun M => BestSet_bad 6 l B e (M ++ [⟨0, false, 3, l.map encTg⟩]) (by omega) hn' (fz0 M) he (by rw [← he]; exact hbe)
  rw [he] at hbe
  clear he
  generalize itmE l = p at *
  obtain ⟨pi, pe⟩ := p
  by_cases h0 : pe = 0
  ·by_cases h8 : 8 < l.length
   ·repeat (first | apply ef_seq | (apply ef_mv; exact rfl; exact rfl) | (apply ef_bin; (iterate 3 exact rfl); (exact cmp_t rfl (by first | exact rfl | (simp only [cmpP]; omega)))) | (apply ef_gy; exact rfl; (first | exact (rfl : true = true) | exact (rfl : false = false))) | (apply ef_pick; (iterate 3 exact rfl)) | (apply ef_len; exact rfl; exact rfl; (assumption)) | (apply ef_notT; exact rfl; exact rfl) | apply ef_nil | apply seqQ.normal | apply ef_ret | apply seqQ.ret | apply ef_skip | (apply ef_condt; exact rfl; (exact (rfl : true = true))) | (apply ef_condf; exact rfl; (exact (rfl : false = false))) | (apply ef_call; exact rfl; ((repeat (apply XVs.cons; exact rfl)); exact XVs.nil); (with_reducible first | exact aw _ | exact fw _ | exact r0 _)))
    (refine fin1 rfl (by exact rfl) rfl ?_)
    rfl
   ·repeat (first | apply ef_seq | (apply ef_mv; exact rfl; exact rfl) | (apply ef_bin; (iterate 3 exact rfl); (first | exact cmp_t rfl (by first | exact rfl | (simp only [cmpP]; omega)) | exact cmp_f rfl (by simp only [cmpP]; omega))) | (apply ef_gy; exact rfl; (first | exact (rfl : true = true) | exact (rfl : false = false))) | (apply ef_pick; (iterate 3 exact rfl)) | (apply ef_len; exact rfl; exact rfl; (first | assumption | exact rfl)) | (apply ef_notT; exact rfl; exact rfl) | (apply ef_ext; (iterate 3 exact rfl)) | apply ef_nil | apply seqQ.normal | apply ef_ret | apply seqQ.ret | apply ef_skip | (apply ef_condt; exact rfl; (exact (rfl : true = true))) | (apply ef_condf; exact rfl; (exact (rfl : false = false))) | (apply ef_call; exact rfl; ((repeat (apply XVs.cons; exact rfl)); exact XVs.nil); (with_reducible first | exact aw _ | exact fw _ | exact r0 _ | exact cp _ | exact c1 _ | exact c2 _ | exact r1 _ | exact r3 _)))
    (refine fin1 rfl (by exact rfl) rfl ?_)
    rfl
  ·repeat (first | apply ef_seq | (apply ef_mv; exact rfl; exact rfl) | (apply ef_bin; (iterate 3 exact rfl); (first | exact cmp_t rfl (by first | exact rfl | (simp only [cmpP]; omega)) | exact cmp_f rfl (by simp only [cmpP]; omega))) | (apply ef_gy; exact rfl; (first | exact (rfl : true = true) | exact (rfl : false = false))) | (apply ef_gn; exact rfl; (exact (rfl : false = false)); exact rfl) | (apply ef_pick; (iterate 3 exact rfl)) | (apply ef_len; exact rfl; exact rfl; (exact rfl)) | (apply ef_notT; exact rfl; exact rfl) | (apply ef_ext; (iterate 3 exact rfl)) | apply ef_nil | apply seqQ.normal | apply ef_ret | apply seqQ.ret | apply ef_skip | (apply ef_condt; exact rfl; (exact (rfl : true = true))) | (apply ef_condf; exact rfl; (exact (rfl : false = false))) | (apply ef_call; exact rfl; ((repeat (apply XVs.cons; exact rfl)); exact XVs.nil); (with_reducible first | exact aw _ | exact fw _ | exact r0 _ | exact cp _ | exact c1 _ | exact c2 _ | exact r1 _ | exact r3 _)))
   (refine fin1 rfl (by exact rfl) rfl ?_)
   rfl
end Go.Proofs.YtnmgpbihknjdjaaGreatDoor

/- TargetSets: from values of the small language to the program's. -/
namespace Go.Proofs.YtnmgpbihknjdjaaGreatDoor
open Go.ChangeShapes Go.WideShapes Go.ChangeAt Go.RowKit
def tgSh : Sh := .agg [.str, i64Sh, i64Sh]
structure TgB (c : Tg) : Prop where
 sz : (c.nm.size : Int) ≤ 9223372036854775807
theorem fits_tg {m : MV} (h : Fits tgSh m) : ∃ c : { c : Tg // TgB c }, m = encTg c.val := by
 obtain ⟨ms, h', rfl⟩ := fits_agg h
 obtain ⟨m1, r1, rfl, h1, h⟩ := fitsL_cons h'
 obtain ⟨m2, r2, rfl, h2, h⟩ := fitsL_cons h
 obtain ⟨m3, r3, rfl, h3, h⟩ := fitsL_cons h
 obtain rfl := fitsL_nil h
 obtain ⟨a, rfl, ha⟩ := fits_strd h1
 obtain ⟨b, rfl⟩ := fits_i64d h2
 obtain ⟨c, rfl⟩ := fits_i64d h3
 exact ⟨⟨⟨a, b, c⟩, ⟨ha⟩⟩, rfl⟩
theorem fits_tgs {m : MV} (h : Fits (.slice tgSh) m) : ∃ l : List Tg, m = .sl (l.map encTg) ∧ (l.length : Int) ≤ 9223372036854775807 ∧ ∀ z ∈ l, (z.nm.size : Int) ≤ 9223372036854775807 := by
 obtain ⟨l, rfl, hl⟩ := fits_list (fun c : { c : Tg // TgB c } => encTg c.val) (fun m h => fits_tg h) h
 refine ⟨l.map Subtype.val, by rw [List.map_map]; rfl, by rw [List.length_map]; omega, fun z hz => ?_⟩
 obtain ⟨c, _, rfl⟩ := List.mem_map.1 hz
 exact c.2.sz
def setsShs : List Sh := [.slice tgSh, i64Sh]
theorem sets_runs (ms : List MV) (h : FitsL setsShs ms) : runZ MT (orA 14) (itA 14) 4000000 3 ms [] = some (.lit (.bool true), []) := by
 obtain ⟨m1, r1, rfl, h1, h⟩ := fitsL_cons h
 obtain ⟨m2, r2, rfl, h2, h⟩ := fitsL_cons h
 obtain rfl := fitsL_nil h
 obtain ⟨l, rfl, q1, q2⟩ := fits_tgs h1
 obtain ⟨a, rfl⟩ := fits_i64d h2
 exact TargetSets_z l a q1 q2
set_option maxRecDepth 100000 in
theorem sets_lifted (os : Os) (started : os.Started) (H : Type) (enc : TypeId × Value → H) :
  ReturnsInHanded {} Tryz.checked os 3 .any (fun w args => (Rows.targetSetsSpec.pre enc Tryz.prog Tryz.f3 [] false w args ∧ laidMetH Tryz.prog Rows.targetSetsRow.laid w) ∧ sizedMet enc Tryz.prog Tryz.f3 (OpenSpec.ofChange Rows.targetSetsSpec) false w args)
   (Rows.targetSetsSpec.post enc Tryz.prog Tryz.f3 false true false false) := by
 refine returnsInHanded_of_change_and (C := Tryz.checked) (X := fun w _ => laidMetH Tryz.prog Rows.targetSetsRow.laid w) (fun _ _ _ hh h => h.of_heap hh) Tryz.own started (by kernel_rfl) Tryz.func3
  (ChangeSpec.witness_shaped (enc := enc) (C := Tryz.checked) (os := os) (X := fun w _ => laidMetH Tryz.prog Rows.targetSetsRow.laid w) false (World.doorLaid Tryz.prog 200 os) #[.slice none 0 0, .int .i64 0] 8 rfl (World.shaped_of_RefB (by kernel_rfl) (by kernel_rfl)) (by kernel_rfl) (by kernel_rfl) (by kernel_rfl)
   (laidMetH_of_parts3 (fuel := 8) (laidMet_of_run' 8 (by kernel_rfl) (by kernel_rfl)) (by kernel_rfl) (by kernel_rfl))) ?_
 intro W base args ds gs before hval hW _ _ hL _
 exact law_contractT (orZ_ok (by kernel_rfl) (tabOf_ok Tryz.prog) tA_ok (tI_ok) 14) setsShs (by kernel_rfl) (by kernel_rfl) rfl rfl (fun ds h => by match ds, h with | [_, _], _ => exact ⟨rfl, rfl, rfl⟩) sets_runs W base args ds gs before hval hW
  (tabs_laid hL (List.mem_cons_of_mem _ (List.mem_cons_self ..)))
end Go.Proofs.YtnmgpbihknjdjaaGreatDoor

/- Facts of the whole program that each row asks for. -/
namespace Go.Proofs.YtnmgpbihknjdjaaGreatDoor
open Go
theorem jfA : laidOutB Tryz.pinned.checked.prog = true := by kernel_rfl
theorem jfB : mapsRowed Tryz.pinned.checked.prog = true := by kernel_rfl
theorem jfC : (Tryz.pinned.checked.prog.stops == []) = true := by kernel_rfl
theorem jfD : (Tryz.pinned.checked.prog.stopKnobs == []) = true := by kernel_rfl
theorem jfE : Tryz.pinned.checked.prog.stopsHeard = true := by kernel_rfl
theorem jfF : Tryz.pinned.checked.prog.mayEnter = true := by kernel_rfl
theorem jfG : (false == Tryz.pinned.checked.prog.plainKeys) = true := by kernel_rfl
theorem and_t {a b : Bool} (h : a = true) (g : b = true) : (a && b) = true := by rw [h, g]; rfl
end Go.Proofs.YtnmgpbihknjdjaaGreatDoor

/- The row of TargetSets. -/
namespace Go.Proofs.YtnmgpbihknjdjaaGreatDoor
open Go Go.ChangeShapes Go.WideShapes Go.ChangeAt Go.RowKit
set_option linter.unusedVariables false
theorem jfsets_0 : Rows.targetSetsRow.wf (OpenSpec.ofChange Rows.targetSetsSpec) = true := by kernel_rfl
theorem jfsets_3 : Tryz.f3.params.all (Tryz.pinned.checked.prog.readableRec ·) = true := by kernel_rfl
theorem jfsets_4 : namedTie Tryz.pinned.checked.prog Rows.targetSetsRow.named Rows.targetSetsSpec.vars = true := by kernel_rfl
theorem jfsets_5 : (Rows.targetSetsRow.stops == []) = true := by kernel_rfl
theorem jfsets_7 : (Rows.targetSetsRow.knobs == []) = true := by kernel_rfl
theorem jfsets_9 : (Rows.targetSetsRow.inPlace == Tryz.pinned.checked.prog.inPlace 3) = true := by kernel_rfl
theorem jfsets_10 : (Rows.targetSetsRow.unfollowed == Tryz.pinned.checked.prog.unfollowed 3) = true := by kernel_rfl
theorem jfsets_11 : (Rows.targetSetsRow.recurses == Tryz.pinned.checked.prog.recurses 3) = true := by kernel_rfl
theorem jfsets_12 : (Rows.targetSetsRow.named == Tryz.pinned.checked.prog.varsNamed 3) = true := by kernel_rfl
theorem jfsets_13 : (Rows.targetSetsRow.maps == (Tryz.f3.params.toList ++ Rows.targetSetsSpec.plain.varTypes Tryz.pinned.checked.prog).any (Tryz.pinned.checked.prog.mapsRec ·)) = true := by kernel_rfl
theorem jfsets_14 : (Rows.targetSetsRow.ifaces == (Tryz.f3.params.toList ++ Rows.targetSetsSpec.plain.varTypes Tryz.pinned.checked.prog).any (Tryz.pinned.checked.prog.ifacesRec ·)) = true := by kernel_rfl
theorem jfsets_15 : (Rows.targetSetsRow.mapsOut == Tryz.pinned.checked.prog.mapsAmong Tryz.f3.resultTypes.toList) = true := by kernel_rfl
theorem jfsets_16 : (Rows.targetSetsRow.loops == (Tryz.f3.params.toList ++ Rows.targetSetsSpec.plain.varTypes Tryz.pinned.checked.prog).any (Tryz.pinned.checked.prog.loopsFrom ·)) = true := by kernel_rfl
theorem jfsets_17 : (Rows.targetSetsRow.wideKeys == (Tryz.f3.params.toList ++ Rows.targetSetsSpec.plain.varTypes Tryz.pinned.checked.prog ++ Tryz.f3.resultTypes.toList).any (Tryz.pinned.checked.prog.wideKeysFrom ·)) = true := by kernel_rfl
theorem jfsets_18 : Rows.targetSetsSpec.vars.all (Tryz.pinned.checked.prog.varReadable ·) = true := by kernel_rfl
theorem jfsets_19 : Tryz.f3.resultTypes.all (fun t => Tryz.pinned.checked.prog.readableRec t && decide (t < Tryz.pinned.checked.prog.types.size)) = true := by kernel_rfl
theorem jfsets_20 : (Rows.targetSetsRow.ifacesOut == Tryz.f3.resultTypes.toList.any (Tryz.pinned.checked.prog.ifacesRec ·)) = true := by kernel_rfl
theorem jfsets_21 : (Rows.targetSetsRow.loopsOut == Tryz.f3.resultTypes.toList.any (Tryz.pinned.checked.prog.loopsFrom ·)) = true := by kernel_rfl
theorem jfsets_23 : Rows.targetSetsRow.shortTexts.isNone = true := by kernel_rfl
theorem jfsets_26 : (Rows.targetSetsRow.lifted == Tryz.pinned.checked.prog.liftsFinal) = true := by kernel_rfl
theorem jfsets_27 : (Tryz.pinned.checked.prog.make == some Rows.targetSetsRow.make) = true := by kernel_rfl
theorem jfsets_29 : (Rows.targetSetsRow.pinned == Rows.targetSetsRow.pinnedBy) = true := by kernel_rfl
theorem jfsets_30 : (Rows.targetSetsRow.veiled == (Tryz.f3.params.toList ++ Rows.targetSetsSpec.plain.varTypes Tryz.pinned.checked.prog ++ Tryz.f3.resultTypes.toList).any (Tryz.pinned.checked.prog.veiledRec ·)) = true := by kernel_rfl
theorem jfsets_31 : Rows.targetSetsRow.veiledFits Tryz.pinned.checked.prog Tryz.f3.params.toList (Tryz.f3.params.toList ++ Rows.targetSetsSpec.plain.varTypes Tryz.pinned.checked.prog ++ Tryz.f3.resultTypes.toList) = true := by kernel_rfl
theorem jfsets : joinedFacts Tryz.pinned.checked.prog 3 Tryz.f3 Rows.targetSetsSpec Rows.targetSetsRow = true := by
 unfold joinedFacts
 refine and_t (and_t (and_t (and_t (and_t (and_t (and_t (and_t (and_t (and_t (and_t (and_t (and_t (and_t (and_t (and_t (and_t (and_t (and_t (and_t (and_t (and_t (and_t (and_t (and_t (and_t (and_t (and_t (and_t (and_t (and_t jfsets_0 jfA) jfB) jfsets_3) jfsets_4) jfsets_5) jfC) jfsets_7) jfD) jfsets_9) jfsets_10) jfsets_11) jfsets_12) jfsets_13) jfsets_14) jfsets_15) jfsets_16) jfsets_17) jfsets_18) jfsets_19) jfsets_20) jfsets_21) jfG) jfsets_23) jfE) jfF) jfsets_26) jfsets_27) (by kernel_rfl)) jfsets_29) jfsets_30) jfsets_31
theorem targetSets_row : Rows.targetSetsRow.holds Tryz.pinned (OpenSpec.ofChange Rows.targetSetsSpec) :=
 OpenClaim.holds_of_wide 3 Tryz.f3 rfl rfl rfl rfl rfl rfl rfl ⟨rfl, rfl, rfl, rfl, rfl⟩ rfl rfl rfl rfl rfl (by kernel_rfl) Tryz.func3 jfsets
  (of_decide_eq_true (by kernel_rfl)) (by unfold Func.isWrapper; rw [if_neg (of_decide_eq_false (by kernel_rfl))]; exact ⟨rfl, rfl⟩)
  (fun os started H enc _ => sets_lifted os started H enc)
end Go.Proofs.YtnmgpbihknjdjaaGreatDoor
