/- Bounds: what the law asks (plain laws). -/
import Derived.Laws.Bits64b
import Derived.Test.YtnmgpbihknjdjaaGreatDoorCards
import Derived.Test.YtnmgpbihknjdjaaGreatDoorTie
import Derived.LaidMore
import Derived.LaidOnce
import Derived.SevenTiedAt
import Derived.Stop.Joined
import Derived.Test.YtnmgpbihknjdjaaGreatDoorBoundedProofsPe
set_option linter.unusedVariables false
set_option linter.unusedSimpArgs false
/- Contracts: names. -/
namespace Go.Proofs.YtnmgpbihknjdjaaGreatDoor
open Go.RowKit
set_option linter.unusedVariables false
abbrev encU (c : UInt8) : MV := .lit (.int .u8 (c.toNat : Int))
theorem bits_or_u8 (a b : Nat) (ha : a < 256) (hb : b < 256) : bits .or .u8 (a : Int) (b : Int) = ((a ||| b : Nat) : Int) := by
 have hx : a ||| b < 2 ^ 8 := Nat.or_lt_two_pow (by omega) (by omega)
 have h1 : (BitVec.ofInt 8 (a : Int)).toNat = a := by
  rw [BitVec.ofInt_natCast, BitVec.toNat_ofNat]; exact Nat.mod_eq_of_lt (by omega)
 have h2 : (BitVec.ofInt 8 (b : Int)).toNat = b := by
  rw [BitVec.ofInt_natCast, BitVec.toNat_ofNat]; exact Nat.mod_eq_of_lt (by omega)
 show IntKind.u8.wrap ((BitVec.ofInt 8 (a : Int) ||| BitVec.ofInt 8 (b : Int)).toNat : Int) = _
 rw [BitVec.toNat_or, h1, h2, IntKind.wrap_u8]
 omega
theorem or32 : ∀ c : UInt8, binI .or .u8 (c.toNat : Int) 32 = some (.int .u8 ((c.toNat ||| 32 : Nat) : Int)) := by
 intro c
 have key : ∀ n : Fin 256, binI .or .u8 ((n.val : Nat) : Int) 32 = some (.int .u8 ((n.val ||| 32 : Nat) : Int)) := by
  intro n
  obtain ⟨n, hn⟩ := n
  have h1 := bits_or_u8 n 32 hn (by decide)
  rw [show ((32 : Nat) : Int) = 32 from rfl] at h1
  show some (Value.int .u8 (bits .or .u8 (n : Int) 32)) = _
  rw [h1]
 exact key ⟨c.toNat, c.toNat_lt⟩
theorem chUB_of {i : Nat} {c : UInt8} {t : Bool} (h : letUB c = t) : chUB i c = (t || (i != 0 && (c.toNat == 45 || inB c.toNat 48 57))) := by
 unfold chUB
 rw [h]
 congr 2
 rw [Bool.eq_iff_iff]
 simp only [Bool.or_eq_true, Bool.and_eq_true, decide_eq_true_eq, inB_iff, beq_iff_eq]
 omega
theorem mf_isName : MT.mf 106 = some mfW_l106 := mfW_q106
theorem isName_z (k : Nat) (b : ByteArray) (hx : b.size ≤ 1000) : runZ MT (orA (k + 1)) (itA (k + 1)) 4000000 106 [.lit (.string b)] [] = some (Bo (nameUB b), []) := by
 refine runZ_of mf_isName (by simp) ?_
 simp only [argsL]
 unfold nameUB
 have hbs : b.size = b.data.toList.length := Array.length_toList.symm
 rw [hbs] at hx
 have hl0 : (MV.sl (b.data.toList.map fun c => (MV.lit (.int .u8 c.toNat) : MV))).slen = some b.data.toList.length := by simp [MV.slen]
 repeat (first | apply ef_seq | (apply ef_mv; exact rfl; exact rfl) | (apply ef_len; exact rfl; exact rfl; (assumption)) | (apply ef_s2b; exact rfl; exact rfl) | apply ef_nil | apply seqQ.normal | apply ef_block)
 have hfe : (b.data.toList.map fun c => (MV.lit (.int .u8 c.toNat) : MV)) = b.data.toList.map encU := rfl
 rw [hfe]
 rw [hfe] at hl0
 generalize b.data.toList = l at *
 refine ef_loopf (α := Nat) (fun i => i ≤ l.length ∧ charsUB 0 l = charsUB i (l.drop i)) (fun i => [(9, I64 (i : Int))]) [(8, I64 (l.length : Int)), (7, .sl (l.map encU)), (0, .lit (.string b))] (fun _ => []) (fun i => l.length - i) 0 [9] (fun _ => rfl) (by ((repeat (refine Hold.cons (by exact rfl) ?_)); exact Hold.nil)) (by ((repeat (refine Hold.cons (by exact rfl) ?_)); exact Hold.nil)) rfl rfl ⟨by omega, rfl⟩ (by simp; omega) ?_
 rintro i ⟨hi, hz⟩
 by_cases hlt : i < l.length
 ·have e1 := at_map encU l i hlt
  have HD := Lib.hid (drop_at l i hlt)
  have HZ := Lib.hid hz
  clear hz
  generalize l[i] = c at e1 HD
  have ho := or32 c
  have hlet := or_let c
  have hcl := c.toNat_lt
  obtain ⟨t, ht⟩ : ∃ t, letUB c = t := ⟨_, rfl⟩
  have HC := Lib.hid (chUB_of (i := i) ht)
  rw [ht] at hlet
  have hw := fun h => within_c k ((c.toNat ||| 32 : Nat) : Int) 97 122 h hlet
  have hle : c.toNat ||| 32 < 256 := Nat.or_lt_two_pow (n := 8) hcl (by decide)
  generalize c.toNat ||| 32 = m at *
  obtain ⟨d, hd⟩ : ∃ d, inB c.toNat 48 57 = d := ⟨_, rfl⟩
  have hw2 := fun h => within_c k (c.toNat : Int) 48 57 h hd
  rw [hd] at HC
  clear hd hlet ht
  cases t
  ·by_cases h0 : i = 0
   ·subst h0
    repeat (first | apply ef_seq | (apply ef_mv; exact rfl; exact rfl) | (apply ef_bin; (iterate 3 exact rfl); (first | assumption | exact cmp_t rfl (by first | exact rfl | (simp only [cmpP]; omega)))) | (apply ef_gy; exact rfl; (exact (rfl : true = true))) | (apply ef_gn; exact rfl; (exact (rfl : true = true)); exact rfl) | (apply ef_gu; exact rfl; exact rfl) | (apply ef_pick; (iterate 3 exact rfl)) | (apply ef_ldr; exact rfl; exact rfl; (exact rfl)) | (apply ef_ias; (iterate 3 exact rfl); (omega); assumption; exact rfl) | (apply ef_notF; exact rfl; exact rfl) | (apply ef_cv; exact rfl; exact rfl; (exact wrap_of (by omega) (by omega))) | apply ef_nil | apply seqQ.normal | apply loopQ.ret | apply ef_ret | apply seqQ.ret | apply blockQ.ret | apply ef_block | apply ef_skip | (apply ef_condt; exact rfl; (exact (rfl : true = true))) | (apply ef_call; exact rfl; ((repeat (apply XVs.cons; exact rfl)); exact XVs.nil); (with_reducible exact hw _)))
    (refine fin1 rfl (by exact rfl) rfl ?_)
    rw [HZ.out, HD.out, charsUB, HC.out]; rfl
   ·by_cases h45 : c.toNat = 45
    ·repeat (first | apply ef_seq | (apply ef_mv; exact rfl; exact rfl) | (apply ef_bin; (iterate 3 exact rfl); (first | assumption | exact cmp_t rfl (by first | exact rfl | (simp only [cmpP]; omega)) | exact cmp_f rfl (by simp only [cmpP]; omega) | ((with_reducible refine bin_add (wrap_of ?_ ?_)) <;> omega))) | (apply ef_gy; exact rfl; (first | exact (rfl : true = true) | exact (rfl : false = false))) | (apply ef_gn; exact rfl; (exact (rfl : false = false)); exact rfl) | (apply ef_pick; (iterate 3 exact rfl)) | (apply ef_ldr; exact rfl; exact rfl; (exact rfl)) | (apply ef_ias; (iterate 3 exact rfl); (omega); assumption; exact rfl) | (apply ef_notF; exact rfl; exact rfl) | (apply ef_cv; exact rfl; exact rfl; (exact wrap_of (by omega) (by omega))) | apply ef_nil | apply seqQ.normal | apply blockQ.normal | apply ef_block | apply ef_skip | (apply ef_condt; exact rfl; (exact (rfl : true = true))) | (apply ef_condf; exact rfl; (exact (rfl : false = false))) | (apply ef_call; exact rfl; ((repeat (apply XVs.cons; exact rfl)); exact XVs.nil); (with_reducible exact hw _)))
     (refine loopQ.normal _ _ ⟨i + 1, ⟨hlt, by rw [HZ.out, HD.out, charsUB, HC.out]; simp [h0, h45]⟩, (by first | (simp only; omega) | omega), ⟨by ((repeat (refine Hold.cons (by exact rfl) ?_)); exact Hold.nil), by ((repeat (refine Hold.cons (by exact rfl) ?_)); exact Hold.nil)⟩, .inl (Nat.le_refl _), (by first | exact List.take_length | exact rfl | exact takeF rfl rfl)⟩)
    ·cases d
     ·repeat (first | apply ef_seq | (apply ef_mv; exact rfl; exact rfl) | (apply ef_bin; (iterate 3 exact rfl); (first | assumption | exact cmp_t rfl (by first | exact rfl | (simp only [cmpP]; omega)) | exact cmp_f rfl (by simp only [cmpP]; omega))) | (apply ef_gy; exact rfl; (first | exact (rfl : true = true) | exact (rfl : false = false))) | (apply ef_pick; (iterate 3 exact rfl)) | (apply ef_ldr; exact rfl; exact rfl; (exact rfl)) | (apply ef_ias; (iterate 3 exact rfl); (omega); assumption; exact rfl) | (apply ef_notF; exact rfl; exact rfl) | (apply ef_cv; exact rfl; exact rfl; (exact wrap_of (by omega) (by omega))) | apply ef_nil | apply seqQ.normal | apply loopQ.ret | apply ef_ret | apply seqQ.ret | apply blockQ.ret | apply ef_block | apply ef_skip | (apply ef_condt; exact rfl; (exact (rfl : true = true))) | (apply ef_call; exact rfl; ((repeat (apply XVs.cons; exact rfl)); exact XVs.nil); (with_reducible first | exact hw _ | exact hw2 _)))
      (refine fin1 rfl (by exact rfl) rfl ?_)
      rw [HZ.out, HD.out, charsUB, HC.out]; simp [h45]
     ·repeat (first | apply ef_seq | (apply ef_mv; exact rfl; exact rfl) | (apply ef_bin; (iterate 3 exact rfl); (first | assumption | exact cmp_t rfl (by first | exact rfl | (simp only [cmpP]; omega)) | exact cmp_f rfl (by simp only [cmpP]; omega) | ((with_reducible refine bin_add (wrap_of ?_ ?_)) <;> omega))) | (apply ef_gy; exact rfl; (first | exact (rfl : true = true) | exact (rfl : false = false))) | (apply ef_pick; (iterate 3 exact rfl)) | (apply ef_ldr; exact rfl; exact rfl; (exact rfl)) | (apply ef_ias; (iterate 3 exact rfl); (omega); assumption; exact rfl) | (apply ef_notT; exact rfl; exact rfl) | (apply ef_notF; exact rfl; exact rfl) | (apply ef_cv; exact rfl; exact rfl; (exact wrap_of (by omega) (by omega))) | apply ef_nil | apply seqQ.normal | apply blockQ.normal | apply ef_block | apply ef_skip | (apply ef_condt; exact rfl; (exact (rfl : true = true))) | (apply ef_condf; exact rfl; (exact (rfl : false = false))) | (apply ef_call; exact rfl; ((repeat (apply XVs.cons; exact rfl)); exact XVs.nil); (with_reducible first | exact hw _ | exact hw2 _)))
      (refine loopQ.normal _ _ ⟨i + 1, ⟨hlt, by rw [HZ.out, HD.out, charsUB, HC.out]; simp [h0]⟩, (by first | (simp only; omega) | omega), ⟨by ((repeat (refine Hold.cons (by exact rfl) ?_)); exact Hold.nil), by ((repeat (refine Hold.cons (by exact rfl) ?_)); exact Hold.nil)⟩, .inl (Nat.le_refl _), (by first | exact List.take_length | exact rfl | exact takeF rfl rfl)⟩)
  ·repeat (first | apply ef_seq | (apply ef_mv; exact rfl; exact rfl) | (apply ef_bin; (iterate 3 exact rfl); (first | assumption | exact cmp_t rfl (by first | exact rfl | (simp only [cmpP]; omega)) | ((with_reducible refine bin_add (wrap_of ?_ ?_)) <;> omega))) | (apply ef_gn; exact rfl; (exact (rfl : false = false)); exact rfl) | (apply ef_gu; exact rfl; exact rfl) | (apply ef_pick; (iterate 3 exact rfl)) | (apply ef_ldr; exact rfl; exact rfl; (exact rfl)) | (apply ef_ias; (iterate 3 exact rfl); (omega); assumption; exact rfl) | (apply ef_notT; exact rfl; exact rfl) | (apply ef_cv; exact rfl; exact rfl; (exact wrap_of (by omega) (by omega))) | apply ef_nil | apply seqQ.normal | apply blockQ.normal | apply ef_block | apply ef_skip | (apply ef_condt; exact rfl; (exact (rfl : true = true))) | (apply ef_condf; exact rfl; (exact (rfl : false = false))) | (apply ef_call; exact rfl; ((repeat (apply XVs.cons; exact rfl)); exact XVs.nil); (with_reducible exact hw _)))
   (refine loopQ.normal _ _ ⟨i + 1, ⟨hlt, by rw [HZ.out, HD.out, charsUB, HC.out]; simp⟩, (by first | (simp only; omega) | omega), ⟨by ((repeat (refine Hold.cons (by exact rfl) ?_)); exact Hold.nil), by ((repeat (refine Hold.cons (by exact rfl) ?_)); exact Hold.nil)⟩, .inl (Nat.le_refl _), (by first | exact List.take_length | exact rfl | exact takeF rfl rfl)⟩)
 ·rw [List.drop_eq_nil_of_le (by omega)] at hz
  have hsz : (b.size : Int) = (l.length : Int) := by omega
  repeat (first | apply ef_seq | (apply ef_mv; exact rfl; exact rfl) | (apply ef_bin; (iterate 3 exact rfl); (exact cmp_f rfl (by simp only [cmpP]; omega))) | (apply ef_sln; exact rfl; exact rfl) | apply ef_nil | apply seqQ.normal | apply loopQ.exit | apply ef_ret | apply ef_exit | apply seqQ.exit | apply blockQ.here | (apply ef_condf; exact rfl; (exact (rfl : false = false))) | (apply ef_call; exact rfl; ((repeat (apply XVs.cons; exact rfl)); exact XVs.nil); (with_reducible exact within_c k _ 1 12 _ rfl)))
  (refine fin1 rfl (by exact rfl) rfl ?_)
  rw [hz, hsz]; simp [charsUB]
theorem isName_c (k : Nat) (b : ByteArray) (h : MHeap) (hx : b.size ≤ 1000) {t : Bool} (ht : nameUB b = t) : orA (k + 2) 106 [.lit (.string b)] h = some (Bo t, h) := by
 subst ht
 exact callL (args' := [.lit (.string b)]) (frz_lits [.string b]) rfl (isName_z k b hx)
end Go.Proofs.YtnmgpbihknjdjaaGreatDoor

/- Contracts: names, as the document says. -/
namespace Go.Proofs.YtnmgpbihknjdjaaGreatDoor
open Go.RowKit
set_option linter.unusedVariables false
theorem mf_bIsName : MT.mf 110 = some ⟨55, [(.tmp 2)], (.seq (.reg [gO 2 (.mv cF)]) (.seq (.seq (.reg [gO 6 (.mv (.s 0)), gO 7 (.sln (.s 6)), gO 8 (.bin .lss (.s 7) (cI 1)), gO 9 (.mv (.s 8)), ⟨some (9, false), some 10, .mv (.s 0)⟩, ⟨some (9, false), some 11, .sln (.s 10)⟩, ⟨some (9, false), some 12, .bin .gtr (.s 11) (cI 12)⟩, gO 13 (.pick (.s 9) cT (.s 12))]) (.cond (.s 13) (.seq (.reg [gO 2 (.mv cF)]) .ret) .skip)) (.seq (.seq (.reg [gO 3 (.mv (cI 0))]) (.block 0 (.loop [3, 0] (.seq (.seq (.reg [gO 14 (.mv (.s 3)), gO 15 (.mv (.s 0)), gO 16 (.sln (.s 15)), gO 17 (.bin .lss (.s 14) (.s 16))]) (.cond (.s 17) .skip (.exit 0))) (.seq (.block 1 (.seq (.reg [gO 20 (.mv (.s 0)), gO 21 (.mv (.s 3)), gO 22 (.sx (.s 20) (.s 21)), gO 4 (.mv (.s 22))]) (.seq (.reg [gO 23 (.mv (.s 4)), gO 24 (.bin .geq (.s 23) (.c (.lit (.int .u8 97)))), gO 25 (.mv (.s 24)), ⟨some (25, true), some 26, .mv (.s 4)⟩, ⟨some (25, true), some 27, .bin .leq (.s 26) (.c (.lit (.int .u8 122)))⟩, gO 28 (.pick (.s 25) (.s 27) cF), gO 29 (.mv (.s 28)), ⟨some (29, false), some 30, .mv (.s 4)⟩, ⟨some (29, false), some 31, .bin .geq (.s 30) (.c (.lit (.int .u8 65)))⟩, ⟨some (29, false), some 32, .mv (.s 31)⟩, ⟨some (32, true), some 33, .mv (.s 4)⟩, ⟨some (32, true), some 34, .bin .leq (.s 33) (.c (.lit (.int .u8 90)))⟩, ⟨some (29, false), some 35, .pick (.s 32) (.s 34) cF⟩, gO 36 (.pick (.s 29) cT (.s 35)), gO 5 (.mv (.s 36))]) (.seq (.reg [gO 37 (.mv (.s 5)), gO 38 (.un .not (.s 37)), gO 39 (.mv (.s 38)), ⟨some (39, true), some 40, .mv (.s 3)⟩, ⟨some (39, true), some 41, .bin .eql (.s 40) (cI 0)⟩, ⟨some (39, true), some 42, .mv (.s 41)⟩, ⟨some (42, false), some 43, .mv (.s 4)⟩, ⟨some (42, false), some 44, .bin .neq (.s 43) (.c (.lit (.int .u8 45)))⟩, ⟨some (42, false), some 45, .mv (.s 44)⟩, ⟨some (45, true), some 46, .mv (.s 4)⟩, ⟨some (45, true), some 47, .bin .lss (.s 46) (.c (.lit (.int .u8 48)))⟩, ⟨some (45, true), some 48, .mv (.s 47)⟩, ⟨some (48, false), some 49, .mv (.s 4)⟩, ⟨some (48, false), some 50, .bin .gtr (.s 49) (.c (.lit (.int .u8 57)))⟩, ⟨some (45, true), some 51, .pick (.s 48) cT (.s 50)⟩, ⟨some (42, false), some 52, .pick (.s 45) (.s 51) cF⟩, ⟨some (39, true), some 53, .pick (.s 42) cT (.s 52)⟩, gO 54 (.pick (.s 39) (.s 53) cF)]) (.cond (.s 54) (.seq (.reg [gO 2 (.mv cF)]) .ret) .skip))))) (.reg [gO 18 (.mv (.s 3)), gO 19 (.bin .add (.s 18) (cI 1)), gO 3 (.mv (.s 19))])))))) (.seq (.reg [gO 2 (.mv cT)]) .ret))))⟩ := by kernel_rfl
set_option maxHeartbeats 1000000 in
theorem bIsName_z (k : Nat) (b : ByteArray) (hx : b.size ≤ 1000) : runZ MT (orA k) (itA k) 4000000 110 [.lit (.string b)] [] = some (Bo (nameUB b), []) := by
 refine runZ_of mf_bIsName (by simp) ?_
 simp only [argsL]
 have hbs : b.size = b.data.toList.length := Array.length_toList.symm
 have hN := Lib.hid (show nameUB b = (charsUB 0 b.data.toList && inB b.size 1 12) from rfl)
 by_cases h1 : b.size < 1
 ·repeat (first | apply ef_seq | (apply ef_mv; exact rfl; exact rfl) | (apply ef_bin; (iterate 3 exact rfl); (exact cmp_t rfl (by first | exact rfl | (simp only [cmpP]; omega)))) | (apply ef_gn; exact rfl; (exact (rfl : true = true)); exact rfl) | (apply ef_pick; (iterate 3 exact rfl)) | (apply ef_sln; exact rfl; exact rfl) | apply ef_nil | apply seqQ.normal | apply ef_ret | apply seqQ.ret | (apply ef_condt; exact rfl; (exact (rfl : true = true))))
  (refine fin1 rfl (by exact rfl) rfl ?_)
  rw [hN.out, show inB b.size 1 12 = false by simp [inB]; omega, Bool.and_false]
 by_cases h2 : 12 < b.size
 ·repeat (first | apply ef_seq | (apply ef_mv; exact rfl; exact rfl) | (apply ef_bin; (iterate 3 exact rfl); (first | exact cmp_t rfl (by first | exact rfl | (simp only [cmpP]; omega)) | exact cmp_f rfl (by simp only [cmpP]; omega))) | (apply ef_gy; exact rfl; (exact (rfl : false = false))) | (apply ef_pick; (iterate 3 exact rfl)) | (apply ef_sln; exact rfl; exact rfl) | apply ef_nil | apply seqQ.normal | apply ef_ret | apply seqQ.ret | (apply ef_condt; exact rfl; (exact (rfl : true = true))))
  (refine fin1 rfl (by exact rfl) rfl ?_)
  rw [hN.out, show inB b.size 1 12 = false by simp [inB]; omega, Bool.and_false]
 have hN2 := Lib.hid (show nameUB b = charsUB 0 b.data.toList by rw [hN.out, show inB b.size 1 12 = true by rw [inB_iff]; omega, Bool.and_true])
 clear hN
 repeat (first | apply ef_seq | (apply ef_mv; exact rfl; exact rfl) | (apply ef_bin; (iterate 3 exact rfl); (exact cmp_f rfl (by simp only [cmpP]; omega))) | (apply ef_gy; exact rfl; (exact (rfl : false = false))) | (apply ef_pick; (iterate 3 exact rfl)) | (apply ef_sln; exact rfl; exact rfl) | apply ef_nil | apply seqQ.normal | apply ef_block | apply ef_skip | (apply ef_condf; exact rfl; (exact (rfl : false = false))))
 refine ef_loopf (α := Nat) (fun i => i ≤ b.size ∧ charsUB 0 b.data.toList = charsUB i (b.data.toList.drop i)) (fun i => [(3, I64 (i : Int))]) [(0, .lit (.string b))] (fun _ => []) (fun i => b.size - i) 0 [3] (fun _ => rfl) (by ((repeat (refine Hold.cons (by exact rfl) ?_)); exact Hold.nil)) (by ((repeat (refine Hold.cons (by exact rfl) ?_)); exact Hold.nil)) rfl rfl ⟨by omega, rfl⟩ (by simp; omega) ?_
 rintro i ⟨hi, hz⟩
 try simp only at hi hz ⊢
 by_cases hlt : i < b.size
 ·have hlt' : i < b.data.toList.length := by omega
  have e1 : b.data.toList[((i : Nat) : Int).toNat]? = some b.data.toList[i] := by
   rw [Int.toNat_natCast, List.getElem?_eq_getElem hlt']
  have HD := Lib.hid (drop_at b.data.toList i hlt')
  have HZ := Lib.hid hz
  clear hz
  generalize b.data.toList[i] = c at e1 HD
  have hcl := c.toNat_lt
  have HC : ∀ t, letUB c = t → charsUB 0 b.data.toList = ((t || (i != 0 && (c.toNat == 45 || inB c.toNat 48 57))) && charsUB (i + 1) (b.data.toList.drop (i + 1))) := fun t ht => by
   rw [HZ.out, HD.out, charsUB, chUB_of ht]
  have HL : letUB c = ((decide (97 ≤ c.toNat) && decide (c.toNat ≤ 122)) || (decide (65 ≤ c.toNat) && decide (c.toNat ≤ 90))) := rfl
  replace HC := Lib.hid HC
  by_cases a1 : 97 ≤ c.toNat
  ·by_cases a2 : c.toNat ≤ 122
   ·replace HL := Lib.hid (show letUB c = true by rw [HL]; simp [a1, a2])
    repeat (first | apply ef_seq | (apply ef_mv; exact rfl; exact rfl) | (apply ef_bin; (iterate 3 exact rfl); (first | exact cmp_t rfl (by first | exact rfl | (simp only [cmpP]; omega)) | ((with_reducible refine bin_add (wrap_of ?_ ?_)) <;> omega))) | (apply ef_gy; exact rfl; (exact (rfl : true = true))) | (apply ef_gn; exact rfl; (first | exact (rfl : true = true) | exact (rfl : false = false)); exact rfl) | (apply ef_gu; exact rfl; exact rfl) | (apply ef_pick; (iterate 3 exact rfl)) | (apply ef_notT; exact rfl; exact rfl) | (apply ef_sx; (iterate 3 exact rfl); omega; (assumption)) | (apply ef_sln; exact rfl; exact rfl) | apply ef_nil | apply seqQ.normal | apply blockQ.normal | apply ef_block | apply ef_skip | (apply ef_condt; exact rfl; (exact (rfl : true = true))) | (apply ef_condf; exact rfl; (exact (rfl : false = false))))
    (refine loopQ.normal _ _ ⟨i + 1, ⟨hlt, by rw [HC.out _ HL.out]; simp⟩, (by first | (simp only; omega) | omega), ⟨by ((repeat (refine Hold.cons (by exact rfl) ?_)); exact Hold.nil), by ((repeat (refine Hold.cons (by exact rfl) ?_)); exact Hold.nil)⟩, .inl (Nat.le_refl _), (by first | exact List.take_length | exact rfl | exact takeF rfl rfl)⟩)
   ·replace HL := Lib.hid (show letUB c = false by rw [HL]; simp [a2]; omega)
    have HN := Lib.hid (show charsUB 0 b.data.toList = false by
     rw [HC.out _ HL.out, show (c.toNat == 45) = false by simp; omega, show inB c.toNat 48 57 = false by simp [inB]; omega]; simp)
    by_cases h0 : i = 0
    ·repeat (first | apply ef_seq | (apply ef_mv; exact rfl; exact rfl) | (apply ef_bin; (iterate 3 exact rfl); (first | exact cmp_t rfl (by first | exact rfl | (simp only [cmpP]; omega)) | exact cmp_f rfl (by simp only [cmpP]; omega))) | (apply ef_gy; exact rfl; (first | exact (rfl : true = true) | exact (rfl : false = false))) | (apply ef_gn; exact rfl; (exact (rfl : true = true)); exact rfl) | (apply ef_gu; exact rfl; exact rfl) | (apply ef_pick; (iterate 3 exact rfl)) | (apply ef_notF; exact rfl; exact rfl) | (apply ef_sx; (iterate 3 exact rfl); omega; (assumption)) | (apply ef_sln; exact rfl; exact rfl) | apply ef_nil | apply seqQ.normal | apply loopQ.ret | apply ef_ret | apply seqQ.ret | apply blockQ.ret | apply ef_block | apply ef_skip | (apply ef_condt; exact rfl; (exact (rfl : true = true))))
     (refine fin1 rfl (by exact rfl) rfl ?_)
     rw [hN2.out, HN.out]
    ·repeat (first | apply ef_seq | (apply ef_mv; exact rfl; exact rfl) | (apply ef_bin; (iterate 3 exact rfl); (first | exact cmp_t rfl (by first | exact rfl | (simp only [cmpP]; omega)) | exact cmp_f rfl (by simp only [cmpP]; omega))) | (apply ef_gy; exact rfl; (first | exact (rfl : true = true) | exact (rfl : false = false))) | (apply ef_pick; (iterate 3 exact rfl)) | (apply ef_notF; exact rfl; exact rfl) | (apply ef_sx; (iterate 3 exact rfl); omega; (assumption)) | (apply ef_sln; exact rfl; exact rfl) | apply ef_nil | apply seqQ.normal | apply loopQ.ret | apply ef_ret | apply seqQ.ret | apply blockQ.ret | apply ef_block | apply ef_skip | (apply ef_condt; exact rfl; (exact (rfl : true = true))))
     (refine fin1 rfl (by exact rfl) rfl ?_)
     rw [hN2.out, HN.out]
  ·by_cases a3 : 65 ≤ c.toNat
   ·by_cases a4 : c.toNat ≤ 90
    ·replace HL := Lib.hid (show letUB c = true by rw [HL]; simp [a3, a4])
     repeat (first | apply ef_seq | (apply ef_mv; exact rfl; exact rfl) | (apply ef_bin; (iterate 3 exact rfl); (first | exact cmp_t rfl (by first | exact rfl | (simp only [cmpP]; omega)) | exact cmp_f rfl (by simp only [cmpP]; omega) | ((with_reducible refine bin_add (wrap_of ?_ ?_)) <;> omega))) | (apply ef_gy; exact rfl; (first | exact (rfl : true = true) | exact (rfl : false = false))) | (apply ef_gn; exact rfl; (exact (rfl : false = false)); exact rfl) | (apply ef_gu; exact rfl; exact rfl) | (apply ef_pick; (iterate 3 exact rfl)) | (apply ef_notT; exact rfl; exact rfl) | (apply ef_sx; (iterate 3 exact rfl); omega; (assumption)) | (apply ef_sln; exact rfl; exact rfl) | apply ef_nil | apply seqQ.normal | apply blockQ.normal | apply ef_block | apply ef_skip | (apply ef_condt; exact rfl; (exact (rfl : true = true))) | (apply ef_condf; exact rfl; (exact (rfl : false = false))))
     (refine loopQ.normal _ _ ⟨i + 1, ⟨hlt, by rw [HC.out _ HL.out]; simp⟩, (by first | (simp only; omega) | omega), ⟨by ((repeat (refine Hold.cons (by exact rfl) ?_)); exact Hold.nil), by ((repeat (refine Hold.cons (by exact rfl) ?_)); exact Hold.nil)⟩, .inl (Nat.le_refl _), (by first | exact List.take_length | exact rfl | exact takeF rfl rfl)⟩)
    ·replace HL := Lib.hid (show letUB c = false by rw [HL]; simp [a1, a4])
     have HN := Lib.hid (show charsUB 0 b.data.toList = false by
      rw [HC.out _ HL.out, show (c.toNat == 45) = false by simp; omega, show inB c.toNat 48 57 = false by simp [inB]; omega]; simp)
     by_cases h0 : i = 0
     ·repeat (first | apply ef_seq | (apply ef_mv; exact rfl; exact rfl) | (apply ef_bin; (iterate 3 exact rfl); (first | exact cmp_t rfl (by first | exact rfl | (simp only [cmpP]; omega)) | exact cmp_f rfl (by simp only [cmpP]; omega))) | (apply ef_gy; exact rfl; (first | exact (rfl : true = true) | exact (rfl : false = false))) | (apply ef_gn; exact rfl; (first | exact (rfl : true = true) | exact (rfl : false = false)); exact rfl) | (apply ef_gu; exact rfl; exact rfl) | (apply ef_pick; (iterate 3 exact rfl)) | (apply ef_notF; exact rfl; exact rfl) | (apply ef_sx; (iterate 3 exact rfl); omega; (assumption)) | (apply ef_sln; exact rfl; exact rfl) | apply ef_nil | apply seqQ.normal | apply loopQ.ret | apply ef_ret | apply seqQ.ret | apply blockQ.ret | apply ef_block | apply ef_skip | (apply ef_condt; exact rfl; (exact (rfl : true = true))))
      (refine fin1 rfl (by exact rfl) rfl ?_)
      rw [hN2.out, HN.out]
     ·repeat (first | apply ef_seq | (apply ef_mv; exact rfl; exact rfl) | (apply ef_bin; (iterate 3 exact rfl); (first | exact cmp_t rfl (by first | exact rfl | (simp only [cmpP]; omega)) | exact cmp_f rfl (by simp only [cmpP]; omega))) | (apply ef_gy; exact rfl; (first | exact (rfl : true = true) | exact (rfl : false = false))) | (apply ef_gn; exact rfl; (exact (rfl : false = false)); exact rfl) | (apply ef_pick; (iterate 3 exact rfl)) | (apply ef_notF; exact rfl; exact rfl) | (apply ef_sx; (iterate 3 exact rfl); omega; (assumption)) | (apply ef_sln; exact rfl; exact rfl) | apply ef_nil | apply seqQ.normal | apply loopQ.ret | apply ef_ret | apply seqQ.ret | apply blockQ.ret | apply ef_block | apply ef_skip | (apply ef_condt; exact rfl; (exact (rfl : true = true))))
      (refine fin1 rfl (by exact rfl) rfl ?_)
      rw [hN2.out, HN.out]
   ·replace HL := Lib.hid (show letUB c = false by rw [HL]; simp [a1, a3])
    by_cases h0 : i = 0
    ·repeat (first | apply ef_seq | (apply ef_mv; exact rfl; exact rfl) | (apply ef_bin; (iterate 3 exact rfl); (first | exact cmp_t rfl (by first | exact rfl | (simp only [cmpP]; omega)) | exact cmp_f rfl (by simp only [cmpP]; omega))) | (apply ef_gy; exact rfl; (first | exact (rfl : true = true) | exact (rfl : false = false))) | (apply ef_gn; exact rfl; (first | exact (rfl : true = true) | exact (rfl : false = false)); exact rfl) | (apply ef_gu; exact rfl; exact rfl) | (apply ef_pick; (iterate 3 exact rfl)) | (apply ef_notF; exact rfl; exact rfl) | (apply ef_sx; (iterate 3 exact rfl); omega; (assumption)) | (apply ef_sln; exact rfl; exact rfl) | apply ef_nil | apply seqQ.normal | apply loopQ.ret | apply ef_ret | apply seqQ.ret | apply blockQ.ret | apply ef_block | apply ef_skip | (apply ef_condt; exact rfl; (exact (rfl : true = true))))
     (refine fin1 rfl (by exact rfl) rfl ?_)
     rw [hN2.out, HC.out _ HL.out]; simp [h0]
    ·by_cases b1 : c.toNat = 45
     ·repeat (first | apply ef_seq | (apply ef_mv; exact rfl; exact rfl) | (apply ef_bin; (iterate 3 exact rfl); (first | exact cmp_t rfl (by first | exact rfl | (simp only [cmpP]; omega)) | exact cmp_f rfl (by simp only [cmpP]; omega) | ((with_reducible refine bin_add (wrap_of ?_ ?_)) <;> omega))) | (apply ef_gy; exact rfl; (first | exact (rfl : true = true) | exact (rfl : false = false))) | (apply ef_gn; exact rfl; (exact (rfl : false = false)); exact rfl) | (apply ef_gu; exact rfl; exact rfl) | (apply ef_pick; (iterate 3 exact rfl)) | (apply ef_notF; exact rfl; exact rfl) | (apply ef_sx; (iterate 3 exact rfl); omega; (assumption)) | (apply ef_sln; exact rfl; exact rfl) | apply ef_nil | apply seqQ.normal | apply blockQ.normal | apply ef_block | apply ef_skip | (apply ef_condt; exact rfl; (exact (rfl : true = true))) | (apply ef_condf; exact rfl; (exact (rfl : false = false))))
      (refine loopQ.normal _ _ ⟨i + 1, ⟨hlt, by rw [HC.out _ HL.out]; simp [h0, b1]⟩, (by first | (simp only; omega) | omega), ⟨by ((repeat (refine Hold.cons (by exact rfl) ?_)); exact Hold.nil), by ((repeat (refine Hold.cons (by exact rfl) ?_)); exact Hold.nil)⟩, .inl (Nat.le_refl _), (by first | exact List.take_length | exact rfl | exact takeF rfl rfl)⟩)
     ·by_cases b2 : c.toNat < 48
      ·repeat (first | apply ef_seq | (apply ef_mv; exact rfl; exact rfl) | (apply ef_bin; (iterate 3 exact rfl); (first | exact cmp_t rfl (by first | exact rfl | (simp only [cmpP]; omega)) | exact cmp_f rfl (by simp only [cmpP]; omega))) | (apply ef_gy; exact rfl; (first | exact (rfl : true = true) | exact (rfl : false = false))) | (apply ef_gn; exact rfl; (first | exact (rfl : true = true) | exact (rfl : false = false)); exact rfl) | (apply ef_pick; (iterate 3 exact rfl)) | (apply ef_notF; exact rfl; exact rfl) | (apply ef_sx; (iterate 3 exact rfl); omega; (assumption)) | (apply ef_sln; exact rfl; exact rfl) | apply ef_nil | apply seqQ.normal | apply loopQ.ret | apply ef_ret | apply seqQ.ret | apply blockQ.ret | apply ef_block | apply ef_skip | (apply ef_condt; exact rfl; (exact (rfl : true = true))))
       (refine fin1 rfl (by exact rfl) rfl ?_)
       rw [hN2.out, HC.out _ HL.out, show (c.toNat == 45) = false by simp; omega, show inB c.toNat 48 57 = false by simp [inB]; omega]; simp
      ·by_cases b3 : 57 < c.toNat
       ·repeat (first | apply ef_seq | (apply ef_mv; exact rfl; exact rfl) | (apply ef_bin; (iterate 3 exact rfl); (first | exact cmp_t rfl (by first | exact rfl | (simp only [cmpP]; omega)) | exact cmp_f rfl (by simp only [cmpP]; omega))) | (apply ef_gy; exact rfl; (first | exact (rfl : true = true) | exact (rfl : false = false))) | (apply ef_gn; exact rfl; (exact (rfl : false = false)); exact rfl) | (apply ef_pick; (iterate 3 exact rfl)) | (apply ef_notF; exact rfl; exact rfl) | (apply ef_sx; (iterate 3 exact rfl); omega; (assumption)) | (apply ef_sln; exact rfl; exact rfl) | apply ef_nil | apply seqQ.normal | apply loopQ.ret | apply ef_ret | apply seqQ.ret | apply blockQ.ret | apply ef_block | apply ef_skip | (apply ef_condt; exact rfl; (exact (rfl : true = true))))
        (refine fin1 rfl (by exact rfl) rfl ?_)
        rw [hN2.out, HC.out _ HL.out, show (c.toNat == 45) = false by simp; omega, show inB c.toNat 48 57 = false by simp [inB]; omega]; simp
       ·repeat (first | apply ef_seq | (apply ef_mv; exact rfl; exact rfl) | (apply ef_bin; (iterate 3 exact rfl); (first | exact cmp_t rfl (by first | exact rfl | (simp only [cmpP]; omega)) | exact cmp_f rfl (by simp only [cmpP]; omega) | ((with_reducible refine bin_add (wrap_of ?_ ?_)) <;> omega))) | (apply ef_gy; exact rfl; (first | exact (rfl : true = true) | exact (rfl : false = false))) | (apply ef_gn; exact rfl; (exact (rfl : false = false)); exact rfl) | (apply ef_pick; (iterate 3 exact rfl)) | (apply ef_notF; exact rfl; exact rfl) | (apply ef_sx; (iterate 3 exact rfl); omega; (assumption)) | (apply ef_sln; exact rfl; exact rfl) | apply ef_nil | apply seqQ.normal | apply blockQ.normal | apply ef_block | apply ef_skip | (apply ef_condt; exact rfl; (exact (rfl : true = true))) | (apply ef_condf; exact rfl; (exact (rfl : false = false))))
        (refine loopQ.normal _ _ ⟨i + 1, ⟨hlt, by rw [HC.out _ HL.out, show inB c.toNat 48 57 = true by rw [inB_iff]; omega]; simp [h0]⟩, (by first | (simp only; omega) | omega), ⟨by ((repeat (refine Hold.cons (by exact rfl) ?_)); exact Hold.nil), by ((repeat (refine Hold.cons (by exact rfl) ?_)); exact Hold.nil)⟩, .inl (Nat.le_refl _), (by first | exact List.take_length | exact rfl | exact takeF rfl rfl)⟩)
 ·rw [List.drop_eq_nil_of_le (by omega)] at hz
  have hz := Lib.hid hz
  repeat (first | apply ef_seq | (apply ef_mv; exact rfl; exact rfl) | (apply ef_bin; (iterate 3 exact rfl); (exact cmp_f rfl (by simp only [cmpP]; omega))) | (apply ef_sln; exact rfl; exact rfl) | apply ef_nil | apply seqQ.normal | apply loopQ.exit | apply ef_ret | apply ef_exit | apply seqQ.exit | apply blockQ.here | (apply ef_condf; exact rfl; (exact (rfl : false = false))))
  (refine fin1 rfl (by exact rfl) rfl ?_)
  rw [hN2.out, hz.out]; rfl
theorem bIsName_c (k : Nat) (b : ByteArray) (h : MHeap) (hx : b.size ≤ 1000) {t : Bool} (ht : nameUB b = t) : orA (k + 1) 110 [.lit (.string b)] h = some (Bo t, h) := by
 subst ht
 exact callL (args' := [.lit (.string b)]) (frz_lits [.string b]) rfl (bIsName_z k b hx)
end Go.Proofs.YtnmgpbihknjdjaaGreatDoor

/- The first item that is not valid (plain). -/
namespace Go.Proofs.YtnmgpbihknjdjaaGreatDoor
set_option linter.unusedVariables false
def firG {α : Type} (G : Nat → α → Int) : Nat → List α → Int × Int
 | _, [] => (0, 0)
 | i, c :: l => if G i c = 0 then firG G (i + 1) l else (i, G i c)
def fIg {α : Type} (P : α → Bool) : List α → Nat → Int
 | [], _ => -1
 | z :: zs, i => if P z then i else fIg P zs (i + 1)
theorem fIg_nn {α : Type} (P : α → Bool) : ∀ (zs : List α) (s : Nat), decide (0 ≤ fIg P zs s) = zs.any P
 | [], s => rfl
 | z :: zs, s => by
  rw [fIg, List.any_cons]
  cases hz : P z
  ·rw [if_neg (by decide), fIg_nn P zs (s + 1), Bool.false_or]
  ·rw [if_pos rfl]; simp
end Go.Proofs.YtnmgpbihknjdjaaGreatDoor

/- Contracts: calendars. -/
namespace Go.Proofs.YtnmgpbihknjdjaaGreatDoor
open Go.RowKit
set_option linter.unusedVariables false
end Go.Proofs.YtnmgpbihknjdjaaGreatDoor

/- Contracts: closed times. -/
namespace Go.Proofs.YtnmgpbihknjdjaaGreatDoor
open Go.RowKit
set_option linter.unusedVariables false
end Go.Proofs.YtnmgpbihknjdjaaGreatDoor

/- Small helpers about memory. -/
namespace Go.Proofs.YtnmgpbihknjdjaaGreatDoor
open Go.RowKit
set_option linter.unusedVariables false
structure Bx (p : Prop) : Prop where
 out : p
end Go.Proofs.YtnmgpbihknjdjaaGreatDoor

/- Contracts: the numbers of a set; the program. -/
namespace Go.Proofs.YtnmgpbihknjdjaaGreatDoor
open Go.RowKit Go.Lib
set_option linter.unusedVariables false
set_option linter.unusedSimpArgs false
theorem ltL_app2 (m : Nat) : ∀ (a b : List MV), ltL m (a ++ b) = (ltL m a && ltL m b)
 | [], b => by simp [ltL]
 | x :: a, b => by simp [ltL, ltL_app2 m a b, Bool.and_assoc]
theorem frz_row {h : MHeap} {id k g : Nat} {o : MObj} {es : List MV} (ho : h[id]? = some o) (hg : o.g = g) (hk : k = es.length) (hl : ltL 0 es = true) (he : o.es = es) : frz 0 [] h 8 (.arr id 0 k g) = some (.sl es) := by
 subst he hk
 exact frz_arr ho hg (by simp) hl (by simp)
abbrev U64 (n : Int) : MV := .lit (.int .u64 n)
theorem u64_wrap {z : Int} (h0 : 0 ≤ z) (h1 : z < 18446744073709551616) : IntKind.u64.wrap z = z := by rw [IntKind.wrap_u64]; omega
theorem u64_and {a b : Nat} (ha : a < 18446744073709551616) (hb : b < 18446744073709551616) : binI .and .u64 (a : Int) (b : Int) = some (.int .u64 ((a &&& b : Nat) : Int)) := by
 have := bits_and_u64_nat a b ha hb
 have e : binI .and .u64 (a : Int) (b : Int) = some (.int .u64 (bits .and .u64 (a : Int) (b : Int))) := rfl
 rw [e, this]
theorem u64_sub {a b : Int} (h0 : 0 ≤ a - b) (h1 : a - b < 18446744073709551616) : binI .sub .u64 a b = some (.int .u64 (a - b)) := by
 have e : binI .sub .u64 a b = some (.int .u64 (IntKind.u64.wrap (a - b))) := rfl
 rw [e, u64_wrap h0 h1]
theorem u64_shl {m : Nat} (hm : m ≤ 63) : shfI .shl .u64 1 (m : Int) = some (.int .u64 ((2 ^ m : Nat) : Int)) := by
 have h2 : 2 ^ m ≤ 2 ^ 63 := Nat.pow_le_pow_right (by omega) hm
 have hq : ∀ q : Nat, q ≤ 2 ^ 63 → IntKind.u64.wrap (q : Int) = q := fun q hq => u64_wrap (by omega) (by omega)
 have e : shfI .shl .u64 1 (m : Int) = some (.int .u64 (IntKind.u64.wrap (1 * 2 ^ min m 64))) := by
  unfold shfI
  rw [if_neg (by omega)]
  rfl
 have e2 : ((2 : Int) ^ m) = ((2 ^ m : Nat) : Int) := by rw [Int.natCast_pow]; rfl
 rw [e, Nat.min_eq_left (by omega), Int.one_mul, e2, hq _ h2]
theorem tz64_c (k : Nat) (x : Nat) (hx : x < 18446744073709551616) (h : MHeap) : orA (k + 1) 205 [U64 x] h = some (I64 (ctz 64 x : Nat), h) := by
 have hT : tA 205 [U64 x] [] = some (I64 (ctz 64 x : Nat), []) := by
  unfold tA tTz
  rw [if_pos rfl, if_pos rfl]
  show (if 0 ≤ (x : Int) ∧ (x : Int) < 18446744073709551616 then _ else _) = _
  rw [if_pos (by omega)]; rfl
 have := callT (k := k) (h := h) (args := [U64 x]) (args' := [U64 x]) (frzL_lt rfl) hT (by simp [okV, ok1, MV.lt, MV.pure]) rfl
 simpa [shV, sh1] using this
theorem mf_tz : MT.mf 178 = some mfW_l178 := mfW_q178
theorem tz_c (k : Nat) (x : Nat) (hx : x < 18446744073709551616) (h : MHeap) : orA (k + 2) 178 [U64 x] h = some (I64 (ctz 64 x : Nat), h) := by
 refine callL (args' := [U64 x]) (frzL_lt rfl) rfl (runZ_of mf_tz (by simp) ?_)
 simp only [argsL]
 have w := fun h => tz64_c k x hx h
 generalize ctz 64 x = z at *
 repeat (first | apply ef_seq | (apply ef_mv; exact rfl; exact rfl) | apply ef_nil | apply seqQ.normal | apply ef_ret | apply ef_skip | (apply ef_condf; exact rfl; (exact (rfl : false = false))) | (apply ef_call; exact rfl; ((repeat (apply XVs.cons; exact rfl)); exact XVs.nil); (with_reducible exact w _)))
 (refine fin1 rfl (by exact rfl) rfl ?_)
 rfl
abbrev mbI (x : Nat) : List Int := (mbL x).map fun i : Nat => (i : Int)
theorem mf_members : MT.mf 108 = some mfW_l108 := mfW_q108
set_option maxHeartbeats 1000000 in
theorem members_z (k X : Nat) (hX : X < 18446744073709551616) :
  runZ MT (orA (k + 2)) (itA (k + 2)) 4000000 108 [U64 X] [] = some (.arr 0 0 (mbL X).length 0, [⟨0, decide ((mbL X).length = 0), 1, (mbI X).map I64⟩]) := by
 refine runZ_of mf_members (by simp) ?_
 simp only [argsL]
 repeat (first | apply ef_seq | (apply ef_nil0; exact rfl) | apply ef_nil | apply seqQ.normal | apply ef_block)
 refine ef_loopf (α := Nat × Nat × List Nat × List MV) (fun p => p.1 < 18446744073709551616 ∧ p.2.1 = p.2.2.1.length ∧ mbL X = p.2.2.1 ++ mbL p.1 ∧ p.2.2.2 = (p.2.2.1.map fun i : Nat => (i : Int)).map I64) (fun p => [(0, U64 (p.1 : Nat)), (3, .arr 1 0 p.2.1 p.2.1)]) [] (fun p => [⟨0, true, 1, []⟩, ⟨p.2.1, decide (p.2.1 = 0), 1, p.2.2.2⟩]) (fun p => (mbL p.1).length) (X, 0, [], []) [0, 3] (fun _ => rfl) (by ((repeat (refine Hold.cons (by exact rfl) ?_)); exact Hold.nil)) (by ((repeat (refine Hold.cons (by exact rfl) ?_)); exact Hold.nil)) rfl rfl ⟨hX, rfl, rfl, rfl⟩ (by show (mbL X).length < 4000000; have := mbL_len64 hX; omega) ?_
 rintro ⟨x, q, ds, rs⟩ ⟨hx, hql, hz, hrs⟩
 try simp only at hx hql hz hrs ⊢
 have hrl : rs.length = q := by rw [hrs, List.length_map, List.length_map, hql]
 have hlr : ∀ j, ltL j rs = true := fun j => by rw [hrs]; exact ltL_I j _
 have hdl : q ≤ 64 := by
  have h1 := mbL_len64 hX
  rw [hz, List.length_append] at h1
  omega
 by_cases h0 : x = 0
 ·subst h0
  rw [mbL_zero, List.append_nil] at hz
  have hmi : mbI X = ds.map fun i : Nat => (i : Int) := by unfold mbI; rw [hz]
  rw [hmi, hz, ← hql]
  repeat (first | apply ef_seq | (apply ef_mv; exact rfl; exact rfl) | (apply ef_bin; (iterate 3 exact rfl); (exact cmp_f rfl (by simp only [cmpP]; omega))) | apply ef_nil | apply seqQ.normal | apply loopQ.exit | apply ef_ret | apply ef_exit | apply seqQ.exit | apply blockQ.here | (apply ef_condf; exact rfl; (exact (rfl : false = false))))
  (apply fin_arr; (· exact rfl); (· exact rfl); (· exact rfl); (· exact rfl); (· (show 0 + _ ≤ rs.length; omega)); (· (exact hlr 0)); (· (show (rs.drop 0).take _ = _; rw [List.drop_zero, List.take_of_length_le (by omega), hrs])); (· exact rfl); (· exact rfl); (· rfl))
 ·have e1 : binI .sub .u64 (x : Int) 1 = some (.int .u64 ((x - 1 : Nat) : Int)) := by rw [u64_sub (by omega) (by omega), show (x : Int) - 1 = ((x - 1 : Nat) : Int) by omega]
  have e2 : binI .and .u64 (x : Int) ((x - 1 : Nat) : Int) = some (.int .u64 (clrB x : Nat)) := u64_and hx (by omega)
  have w1 := fun h => tz_c k x hx h
  have hl := clrB_lt h0
  have hm := mbL_pos h0
  generalize clrB x = y at *
  generalize ctz 64 x = z at *
  repeat (first | apply ef_seq | (apply ef_mv; exact rfl; exact rfl) | (apply ef_bin; (iterate 3 exact rfl); (exact cmp_t rfl (by first | exact rfl | (simp only [cmpP]; omega)))) | (apply ef_bsl; exact rfl; (repeat (apply XVs.cons; exact rfl)); exact XVs.nil; exact rfl) | apply ef_nil | apply seqQ.normal | apply ef_block | apply ef_skip | (apply ef_condt; exact rfl; (exact (rfl : true = true))) | (apply ef_call; exact rfl; ((repeat (apply XVs.cons; exact rfl)); exact XVs.nil); (with_reducible exact w1 _)))
  (apply ef_app; (· exact rfl); (· exact rfl); (· exact rfl); (· exact rfl); (· exact rfl); (· exact rfl); (· (simp [hrl])); (· exact rfl); (· (simp [hrl]; omega)); (· (exact rfl)); (· exact rfl))
  repeat (first | (apply ef_mv; exact rfl; exact rfl) | (apply ef_bin; (iterate 3 exact rfl); (assumption)) | apply ef_nil | apply seqQ.normal | apply blockQ.normal)
  (refine loopQ.normal _ _ ⟨(y, q + 1, ds ++ [z], rs ++ [I64 (z : Nat)]), ⟨by omega, by simp [hql], by rw [hz, hm, List.append_assoc]; rfl, by rw [hrs]; simp⟩, (by show (mbL y).length < (mbL x).length; rw [hm]; simp), ⟨by ((repeat (refine Hold.cons (by exact rfl) ?_)); exact Hold.nil), by ((repeat (refine Hold.cons (by exact rfl) ?_)); exact Hold.nil)⟩, .inr ⟨by ((repeat (refine hdl_cons rfl (by first | rfl | (simp [MV.lt, ltL, hlr, ltL_app2, splice, MV.cells])) ?_)); exact hdl_nil), by (simp [hltL, ltL, MV.lt, ltL, hlr, ltL_app2, splice, MV.cells])⟩, by exact rfl⟩)
theorem members_c (k X : Nat) (hX : X < 18446744073709551616) (h : MHeap) :
  orA (k + 3) 108 [U64 X] h = some (.arr h.length 0 (mbL X).length 0, h ++ [⟨0, decide ((mbL X).length = 0), 1, (mbI X).map I64⟩]) := by
 have := callA (k := k + 2) (h := h) (args := [U64 X]) (args' := [U64 X]) (frzL_lt rfl) rfl (members_z k X hX) rfl (by simp [okH, ltL_I, pureL_I, -List.map_map])
 simpa [shV, sh1] using this
end Go.Proofs.YtnmgpbihknjdjaaGreatDoor

/- Contracts: closed times on a date, the first permitted date. -/
namespace Go.Proofs.YtnmgpbihknjdjaaGreatDoor
open Go.RowKit
set_option linter.unusedVariables false
end Go.Proofs.YtnmgpbihknjdjaaGreatDoor

/- Contracts: the first permitted date. -/
namespace Go.Proofs.YtnmgpbihknjdjaaGreatDoor
open Go.RowKit
set_option linter.unusedVariables false
end Go.Proofs.YtnmgpbihknjdjaaGreatDoor

/- Contracts: the document's calendars. -/
namespace Go.Proofs.YtnmgpbihknjdjaaGreatDoor
open Go.RowKit
set_option linter.unusedVariables false
end Go.Proofs.YtnmgpbihknjdjaaGreatDoor

/- The examples: closed calls. -/
namespace Go.Proofs.YtnmgpbihknjdjaaGreatDoor
open Go.RowKit
theorem items_z (k : Nat) : runZ MT (orA k) (itA k) 4000000 94 [] [] = some (.arr 0 0 3 0, [⟨0, false, 3, itemE⟩]) := by kernel_rfl
theorem hole_z (k : Nat) : runZ MT (orA k) (itA k) 4000000 95 [] [] = some (holeX, []) := by kernel_rfl
theorem cal_z (k : Nat) : runZ MT (orA k) (itA k) 4000000 98 [] [] = some (.arr 0 0 3 0, [⟨0, false, 3, calE⟩]) := by kernel_rfl
theorem best_f : runFf (orL tA mfW 4000000 12) noI 4000000 mfW_l20 [itemX, I64 8] [] = some (.tup [.arr 0 0 2 0, I64 16, I64 0], [⟨0, false, 1, [I64 0, I64 2]⟩]) := by kernel_rfl
theorem cuts_f : runFf (orL tA mfW 4000000 12) noI 4000000 mfW_l26 [holeX, layX] [] = some (.tup [.agg [I64 80, I64 1, I64 400, I64 3], I64 0], []) := by kernel_rfl
theorem price_f : runFf (orL tA mfW 4000000 12) noI 4000000 mfW_l35 [itemX, I64 8] [] = some (.tup [.agg [I64 7, I64 4], I64 0], []) := by kernel_rfl
theorem early_f : runFf (orL tA mfW 4000000 12) noI 4000000 mfW_l49 [calX, I64 355, I64 10] [] = some (.tup [I64 376, I64 0], []) := by kernel_rfl
end Go.Proofs.YtnmgpbihknjdjaaGreatDoor

/- Chapter 9: the first body. -/
namespace Go.Proofs.YtnmgpbihknjdjaaGreatDoor
open Go.RowKit
set_option linter.unusedVariables false
def pickB (R C : List (Int × Int)) (w : List Nat) (i : Nat) : Option Nat := (rowSets C.length (R.getD i (0, 0)).1 (R.getD i (0, 0)).2).find? fun s => possB R C (prefP (w ++ [s]))
def bodyB (R C : List (Int × Int)) : Nat → List Nat
 | 0 => []
 | i + 1 => bodyB R C i ++ [(pickB R C (bodyB R C i) i).getD 0]
theorem bodyB_len (R C : List (Int × Int)) : ∀ i, (bodyB R C i).length = i
 | 0 => rfl
 | i + 1 => by simp [bodyB, bodyB_len R C i]
theorem natL_pure : ∀ w : List Nat, pureL (natL w) = true
 | [] => rfl
 | s :: w => by
  show (true && pureL (natL w)) = true
  rw [natL_pure w]; rfl
inductive RowAt (M : MHeap) : MV → List Nat → Prop
 | none : RowAt M (.lit (.slice none 0 0)) []
 | some (id g : Nat) (w : List Nat) : w ≠ [] → M[id]? = some ⟨g, false, 1, natL w⟩ → RowAt M (.arr id 0 w.length g) w
theorem clone_c (k : Nat) {M : MHeap} {v : MV} {w : List Nat} (hv : RowAt M v w) (hl : w.length ≤ 1000) : orA (k + 1) 148 [v] M = some (.arr M.length 0 w.length 0, M ++ [⟨0, w.isEmpty, 1, natL w⟩]) := by
 cases hv with
 | none =>
  have hz : runZ MT (orA k) (itA k) 4000000 148 [.lit (.slice none 0 0)] [] = some (.arr 0 0 0 0, [⟨0, true, 1, []⟩]) := by kernel_rfl
  have := callA (k := k) (h := M) (args := [.lit (.slice none 0 0)]) (args' := [.lit (.slice none 0 0)]) rfl rfl hz rfl rfl
  simpa [shV, sh1] using this
 | some id g w hne hM =>
  obtain ⟨s, w', rfl⟩ : ∃ s w', w = s :: w' := by
   cases w with
   | nil => exact absurd rfl hne
   | cons s w' => exact ⟨s, w', rfl⟩
  have hf : [MV.arr id 0 (s :: w').length g].mapM (frz 0 [] M 8) = some [.sl (natL (s :: w'))] := by
   have h1 : frz 0 [] M 8 (.arr id 0 (s :: w').length g) = some (.sl (natL (s :: w'))) := by
    have h2 := natL_lt 0 (s :: w')
    have h3 : ((natL (s :: w')).drop 0).take (s :: w').length = natL (s :: w') := by rw [List.drop_zero, List.take_of_length_le (by simp)]
    simp only [frz, MV.lt, Nat.not_lt_zero, decide_false, Bool.false_eq_true, if_false, List.contains_nil, hM, List.length_map, Nat.zero_add, Nat.le_refl, and_self, if_true, h2, h3]
   simp only [List.mapM_cons, List.mapM_nil, h1]; rfl
  have := callA (k := k) (h := M) hf rfl (clone_z k s w' hl) rfl (by have h2 := natL_lt 0 (s :: w'); simp only [okH, List.all_cons, List.all_nil, Bool.and_true, h2, Bool.true_and]; rw [Bool.or_eq_true]; exact .inr (natL_pure _))
  simpa [shV, sh1] using this
def tryM (M : MHeap) (w : List Nat) (s : Nat) : MHeap := M ++ [⟨1, false, 1, natL (w ++ [s])⟩, ⟨0, false, 1, [I64 s]⟩, ⟨0, false, 1, [.arr M.length 0 (w.length + 1) 1]⟩]
theorem tryM_0 (M : MHeap) (w : List Nat) (s : Nat) : (tryM M w s)[M.length]? = some ⟨1, false, 1, natL (w ++ [s])⟩ := by
 unfold tryM; rw [List.getElem?_append_right (Nat.le_refl _)]; simp
theorem tryM_2 (M : MHeap) (w : List Nat) (s : Nat) : (tryM M w s)[M.length + 2]? = some ⟨0, false, 1, [.arr M.length 0 (w.length + 1) 1]⟩ := by
 unfold tryM; rw [List.getElem?_append_right (by omega)]; simp
theorem tryM_at {M : MHeap} {w : List Nat} {s i : Nat} {o : MObj} (h : M[i]? = some o) : (tryM M w s)[i]? = some o := by
 unfold tryM; rw [List.getElem?_append_left (List.getElem?_eq_some_iff.1 h).1, h]
theorem tryM_cl {M : MHeap} (w : List Nat) (s : Nat) (hc : hltL M.length M = true) : hltL (M.length + 3) (tryM M w s) = true := by
 have h1 := hltL_le (show M.length ≤ M.length + 3 by omega) hc
 unfold tryM hltL at *
 rw [List.all_append, h1]
 simp only [List.all_cons, List.all_nil, ltL, MV.lt, natL_lt, Bool.and_true, Bool.true_and, decide_eq_true_eq]
 omega
theorem frz_try (M : MHeap) (w : List Nat) (s g : Nat) (R C : List (Int × Int)) : [encS R C, .fn g 0 [.ptr (M.length + 2) 0 0 0]].mapM (frz 0 [] (tryM M w s) 8) = some [encS R C, .fn g 0 [.rp (.sl (natL (w ++ [s]))) 0]] := by
 have h0 := encS_lt 0 R C
 have h2 := natL_lt 0 (w ++ [s])
 have h3 : ((natL (w ++ [s])).drop 0).take (w.length + 1) = natL (w ++ [s]) := by rw [List.drop_zero, List.take_of_length_le (by simp)]
 have hl : 0 + (w.length + 1) ≤ (natL (w ++ [s])).length := by simp
 have e0 : frz 0 [] (tryM M w s) 8 (encS R C) = some (encS R C) := frz_lt h0
 have e1 : frz 0 [] (tryM M w s) 6 (.arr M.length 0 (w.length + 1) 1) = some (.sl (natL (w ++ [s]))) := by
  simp only [frz, MV.lt, Nat.not_lt_zero, decide_false, Bool.false_eq_true, if_false, List.contains_nil, tryM_0, hl, and_self, if_true, h2, h3]
 have e2 : frz 0 [] (tryM M w s) 7 (.ptr (M.length + 2) 0 0 0) = some (.rp (.sl (natL (w ++ [s]))) 0) := by
  have e3 : frz 0 [] (tryM M w s) 7 (.ptr (M.length + 2) 0 0 0) = (match (tryM M w s)[M.length + 2]? with
   | some o => if o.g = 0 then match o.es[0]? with
     | some e => if e.lt 0 then some (.rp e 0) else (frz 0 [] (tryM M w s) 6 e).map fun e' => .rp e' 0
     | none => none
    else none
   | none => none) := rfl
  rw [e3, tryM_2]
  simp only [if_true, List.getElem?_cons_zero]
  have e4 : (MV.arr M.length 0 (w.length + 1) 1).lt 0 = false := by simp [MV.lt]
  rw [e4, e1]; rfl
 have e5 : frz 0 [] (tryM M w s) 8 (.fn g 0 [.ptr (M.length + 2) 0 0 0]) = some (.fn g 0 [.rp (.sl (natL (w ++ [s]))) 0]) := by
  have e6 : frz 0 [] (tryM M w s) 8 (.fn g 0 [.ptr (M.length + 2) 0 0 0]) = ([MV.ptr (M.length + 2) 0 0 0].mapM (frz 0 [] (tryM M w s) 7)).map (.fn g 0) := rfl
  rw [e6]
  simp only [List.mapM_cons, List.mapM_nil, e2]; rfl
 simp only [List.mapM_cons, List.mapM_nil, e0, e5]; rfl
structure StB (R C : List (Int × Int)) (w : List Nat) (M : MHeap) : Prop where
 m0 : M[0]? = some ⟨0, false, 2, [encS R C]⟩
 m1 : M[2]? = some ⟨0, false, 2, [encS R C]⟩
 m2 : ∃ v, M[3]? = some ⟨0, false, 1, [v]⟩ ∧ RowAt M v w
 cl : hltL M.length M = true
theorem mf_body : MT.mf 62 = some ⟨39, [(.tmp 2), (.tmp 3)], (.seq (.reg [gO 1 (.box 2 (.s 0)), gO 2 (.nil0 1), gO 3 (.mv (cI 0))]) (.seq (.reg [gO 11 (.ld (some 2) (.s 1)), gO 12 (.call 146 [.s 11]), gO 10 (.mv (.s 12)), gO 13 (.ext (.s 10) 0), gO 14 (.ext (.s 10) 1), gO 4 (.new (.agg [(.lit (.slice none 0 0)), (.lit (.slice none 0 0))])), ⟨none, none, .st 2 (.s 4) (.s 13)⟩, gO 5 (.mv (.s 14))]) (.seq (.seq (.reg [gO 15 (.mv (.s 5)), gO 16 (.bin .neq (.s 15) (cI 0))]) (.cond (.s 16) (.seq (.reg [gO 17 (.mv (.s 5)), gO 2 (.nil0 1), gO 3 (.mv (.s 17))]) .ret) .skip)) (.seq (.reg [gO 6 (.new (.lit (.slice none 0 0)))]) (.seq (.seq (.reg [gO 18 (.fa 0 (.s 1)), gO 19 (.ld none (.s 18)), gO 20 (.len (.s 19)), gO 21 (.mv (cI 0))]) (.block 0 (.loop [21, 20, 4, 6] (.seq (.reg [gO 22 (.bin .lss (.s 21) (.s 20))]) (.seq (.cond (.s 22) .skip (.exit 0)) (.seq (.block 1 (.seq (.reg [gO 23 (.mv (.s 21)), gO 7 (.mv (.s 23))]) (.seq (.reg [gO 24 (.ld (some 2) (.s 4)), gO 25 (.mv (.s 7)), gO 26 (.call 147 [.s 24, .s 25])]) (.block 2 (.rf [6, 4] (.s 26) [27] (.reg [gO 8 (.mv (.s 27))]) (.block 3 (.seq (.reg [gO 28 (.ld none (.s 6)), gO 29 (.call 148 [.s 28]), gO 30 (.mv (.s 8)), gO 31 (.bsl (.lit (.int .i64 0)) 1 1 [(0, (.s 30))]), gO 32 (.app 1 (.s 29) (.s 31)), gO 9 (.new (.lit (.slice none 0 0))), ⟨none, none, .st 1 (.s 9) (.s 32)⟩]) (.seq (.reg [gO 33 (.ld (some 2) (.s 4)), gO 34 (.mf 150 0 [.s 9]), gO 35 (.call 149 [.s 33, .s 34])]) (.cond (.s 35) (.seq (.reg [gO 36 (.ld none (.s 9)), ⟨none, none, .st 1 (.s 6) (.s 36)⟩]) (.exit 2)) .skip))))))))) (.reg [gO 37 (.bin .add (.s 21) (cI 1)), gO 21 (.mv (.s 37))]))))))) (.seq (.reg [gO 38 (.ld none (.s 6)), gO 2 (.mv (.s 38)), gO 3 (.mv (cI 0))]) .ret))))))⟩ := by kernel_rfl
set_option maxHeartbeats 4000000 in
theorem body_z (k : Nat) (R C : List (Int × Int)) (hR : R.length ≤ 5) (hC : C.length ≤ 5) (hop : ∀ h, orA (k + 7) 146 [encS R C] h = some (.tup [encS R C, I64 0], h)) (hpk : ∀ i, i < R.length → (pickB R C (bodyB R C i) i).isSome = true) (hne : 0 < R.length) :
  runZ MT (orA (k + 7)) (itA (k + 7)) 4000000 62 [encS R C] [] = some (.tup [.arr 0 0 R.length 0, I64 0], [⟨0, false, 1, natL (bodyB R C R.length)⟩]) := by
 refine runZ_of mf_body (by simp) ?_
 simp only [argsL]
 have hrl : (MV.sl (R.map encP)).slen = some R.length := by simp [MV.slen]
 repeat (first | apply ef_seq | (apply ef_mv; exact rfl; exact rfl) | (apply ef_bin; (iterate 3 exact rfl); (exact cmp_f rfl (by simp only [cmpP]; omega))) | (apply ef_len; exact rfl; exact rfl; (assumption)) | (apply ef_ldp; exact rfl; exact rfl; (exact rfl); exact rfl; (exact rfl); (first | exact rd_2 rfl rfl | exact rfl)) | (apply ef_fap; exact rfl; exact rfl) | (apply ef_ext; (iterate 3 exact rfl)) | (apply ef_box; (iterate 4 exact rfl)) | (apply ef_newst; (iterate 3 exact rfl); (exact rfl); exact rfl) | (apply ef_new; exact rfl) | (apply ef_nil0; exact rfl) | apply ef_nil | apply seqQ.normal | apply ef_block | apply ef_skip | (apply ef_condf; exact rfl; (exact (rfl : false = false))) | (apply ef_call; exact rfl; ((repeat (apply XVs.cons; exact rfl)); exact XVs.nil); (with_reducible exact hop _)))
 refine ef_loopg (α := Nat × MHeap) (fun a => a.1 ≤ R.length ∧ StB R C (bodyB R C a.1) a.2 ∧ 4 ≤ a.2.length ∧ (a.1 ≠ 0 → ∃ id n g, a.2[3]? = some ⟨0, false, 1, [.arr id 0 n g]⟩ ∧ 4 ≤ id)) (fun a => [(21, I64 (a.1 : Int))]) [(20, I64 (R.length : Int)), (4, .ptr 2 0 0 0), (6, .ptr 3 0 0 0)] (fun a => a.2) (fun a => R.length - a.1)
  (0, [⟨0, false, 2, [encS R C]⟩, ⟨0, true, 1, []⟩, ⟨0, false, 2, [encS R C]⟩, ⟨0, false, 1, [.lit (.slice none 0 0)]⟩]) [21] (fun _ => rfl) (by ((repeat (refine Hold.cons (by exact rfl) ?_)); exact Hold.nil)) (by ((repeat (refine Hold.cons (by exact rfl) ?_)); exact Hold.nil)) rfl rfl rfl ?_ (by simp; omega) ?_
 ·refine ⟨Nat.zero_le _, ⟨rfl, rfl, ⟨_, rfl, .none⟩, ?_⟩, by simp, fun h => absurd rfl h⟩
  have h1 := encS_lt 4 R C
  simp only [hltL, List.all_cons, List.all_nil, ltL, h1, Bool.and_true, Bool.true_and, List.length_cons, List.length_nil]
  rfl
 rintro ⟨i, M⟩ ⟨hi, hI, hlen, hbig⟩
 obtain ⟨m0, m1, ⟨v, m2, hv⟩, hcl⟩ := hI
 by_cases hi2 : i < R.length
 ·have hp := hpk i hi2
  obtain ⟨r, hr⟩ : ∃ r, R[i]? = some r := ⟨R[i], by simp [hi2]⟩
  have hrd : R.getD i (0, 0) = r := by rw [List.getD_eq_getElem?_getD, hr]; rfl
  have hwl := bodyB_len R C i
  have hnext : bodyB R C (i + 1) = bodyB R C i ++ [(pickB R C (bodyB R C i) i).getD 0] := rfl
  generalize bodyB R C i = w at *
  obtain ⟨pk, hpk2⟩ := Option.isSome_iff_exists.1 hp
  rw [hpk2, Option.getD_some] at hnext
  unfold pickB at hpk2
  rw [hrd] at hpk2
  repeat (first | apply ef_seq | (apply ef_mv; exact rfl; exact rfl) | (apply ef_bin; (iterate 3 exact rfl); (exact cmp_t rfl (by first | exact rfl | (simp only [cmpP]; omega)))) | (apply ef_ldp; exact rfl; exact rfl; (assumption); exact rfl; (exact rfl); (exact rd_2 rfl rfl)) | apply ef_nil | apply seqQ.normal | apply ef_block | apply ef_skip | (apply ef_condt; exact rfl; (exact (rfl : true = true))) | (apply ef_call; exact rfl; ((repeat (apply XVs.cons; exact rfl)); exact XVs.nil); (with_reducible exact rows_c (k + 6) R C i _)))
  refine ef_rf (α := MHeap) (ids := []) (fun j Y => ∀ s ∈ (rowSets C.length r.1 r.2).take j, possB R C (prefP (w ++ [s])) = false) [(6, .ptr 3 0 0 0), (4, .ptr 2 0 0 0)] (fun Y => M ++ Y) (fun _ => M) [] (by exact rfl) (rows1_it (k + 5) R C i r hC hr _) (by simp)
   (idsL_lt0 (by have h1 := encS_lt 0 R C; show ((encS R C).lt 0 && ((I64 i).lt 0 && true)) = true; rw [h1]; rfl)) (by ((repeat (refine Hold.cons (by exact rfl) ?_)); exact Hold.nil)) rfl rfl rfl (fun s hs => by simp at hs) (by simp) (fun j Y _ => ?_) ?_ ?_
  ·have h1 : HeadIs [6, 4] M.length ((26, rowsF R C i) :: (25, I64 i) :: (24, encS R C) :: (7, I64 i) :: (23, I64 i) :: (22, .lit (.bool true)) :: ([(21, I64 i)] ++ [(20, I64 R.length), (4, .ptr 2 0 0 0), (6, .ptr 3 0 0 0)])) (M ++ Y) ((M ++ Y).take M.length) := .cut (fun t ht => by
    simp only [List.mem_cons, List.not_mem_nil, or_false] at ht
    rcases ht with rfl | rfl
    ·exact ⟨_, rfl, by simp only [MV.lt, decide_eq_true_eq]; simp only at hlen; omega⟩
    ·exact ⟨_, rfl, by simp only [MV.lt, decide_eq_true_eq]; simp only at hlen; omega⟩) (by rw [List.take_left]; exact hcl)
   rw [List.take_left] at h1
   exact h1
  ·intro j Y x hx hno
   simp only [List.getElem?_map, Option.map_eq_some_iff] at hx
   obtain ⟨s, hs, rfl⟩ := hx
   obtain ⟨o1, ho1⟩ : ∃ o1 : MObj, o1 = ⟨0, w.isEmpty, 1, natL w⟩ := ⟨_, rfl⟩
   have hcl2 := clone_c (k + 6) hv (by simp only at hi; omega)
   rw [← ho1] at hcl2
   show Ef _ _ _ _ _ _ ((27, I64 s) :: [(6, .ptr 3 0 0 0), (4, .ptr 2 0 0 0)]) _ _
   simp only at m0 m1 m2 ⊢
   have hrv : rdCells v.cells 0 none = some v := by cases hv <;> rfl
   repeat (first | (apply ef_mv; exact rfl; exact rfl) | apply ef_nil)
   apply preQ.normal
   repeat (first | apply ef_seq | apply ef_block)
   (apply ef_ldp; (· exact rfl); (· exact rfl); (· exact m2); (· exact rfl); (· exact rfl); (· exact hrv))
   (apply ef_call; (· exact rfl); (· ((repeat (apply XVs.cons; exact rfl)); exact XVs.nil)); · exact hcl2)
   repeat (first | (apply ef_mv; exact rfl; exact rfl) | (apply ef_bsl; exact rfl; (repeat (apply XVs.cons; exact rfl)); exact XVs.nil; exact rfl))
   subst ho1
   have q1 : (M ++ [(⟨0, w.isEmpty, 1, natL w⟩ : MObj)] ++ [(⟨0, false, 1, [I64 s]⟩ : MObj)])[M.length]? = some ⟨0, w.isEmpty, 1, natL w⟩ := by
    rw [List.append_assoc, List.getElem?_append_right (Nat.le_refl _)]; simp
   have q2 : (MV.arr (M ++ [(⟨0, w.isEmpty, 1, natL w⟩ : MObj)]).length 0 1 0).elems (M ++ [(⟨0, w.isEmpty, 1, natL w⟩ : MObj)] ++ [(⟨0, false, 1, [I64 s]⟩ : MObj)]) = some [I64 s] := by
    simp only [MV.elems, at_endC]; rfl
   have q3 : (M ++ [(⟨0, w.isEmpty, 1, natL w⟩ : MObj)] ++ [(⟨0, false, 1, [I64 s]⟩ : MObj)]).set M.length ⟨1, false, 1, (natL w).drop 0 ++ [I64 s]⟩ = M ++ [⟨1, false, 1, natL (w ++ [s])⟩, ⟨0, false, 1, [I64 s]⟩] := by
    rw [List.append_assoc, List.set_append_right _ _ (Nat.le_refl _)]
    simp
   refine ef_app (ht := by exact rfl) (by exact rfl) (by exact rfl) q2 q1 rfl (by simp) rfl (by simp; simp only at hi; omega) rfl rfl ?_
   show Ef _ _ _ _ _ _ _ ((M ++ [(⟨0, w.isEmpty, 1, natL w⟩ : MObj)] ++ [(⟨0, false, 1, [I64 s]⟩ : MObj)]).set M.length ⟨1, false, 1, (natL w).drop 0 ++ [I64 s]⟩) _
   rw [q3]
   repeat (first | apply ef_seq | (apply ef_newst; (iterate 3 exact rfl); (exact rfl); exact rfl) | apply ef_nil | apply seqQ.normal)
   have q4 : M ++ [(⟨1, false, 1, natL (w ++ [s])⟩ : MObj), ⟨0, false, 1, [I64 s]⟩] ++ [(⟨0, false, 1, [.arr M.length 0 (w.length + 1) 1]⟩ : MObj)] = tryM M w s := by unfold tryM; simp
   have q5 : (M ++ [(⟨1, false, 1, natL (w ++ [s])⟩ : MObj), ⟨0, false, 1, [I64 s]⟩]).length = M.length + 2 := by simp
   rw [q5]
   show Ef _ _ _ _ _ _ _ (M ++ [(⟨1, false, 1, natL (w ++ [s])⟩ : MObj), ⟨0, false, 1, [I64 s]⟩] ++ [(⟨0, false, 1, [.arr M.length 0 (w.length + 1) 1]⟩ : MObj)]) _
   rw [q4]
   have t1 : (tryM M w s)[2]? = some ⟨0, false, 2, [encS R C]⟩ := tryM_at m1
   have t2 := tryM_2 M w s
   have t3 : (tryM M w s)[3]? = some ⟨0, false, 1, [v]⟩ := tryM_at m2
   have hpos := possible_f (k + 1) R C _ (prefP (w ++ [s])) hR hC (may_pre (k + 4) (w ++ [s]) _ hR) (frz_try M w s 150 R C)
   repeat (first | (apply ef_ldp; exact rfl; exact rfl; (assumption); exact rfl; (exact rfl); (exact rd_2 rfl rfl)) | (apply ef_mf; exact rfl; (repeat (apply XVs.cons; exact rfl)); exact XVs.nil))
   (apply ef_call; (· exact rfl); (· ((repeat (apply XVs.cons; exact rfl)); exact XVs.nil)); · exact hpos)
   cases hP : possB R C (prefP (w ++ [s]))
   ·repeat (first | apply ef_nil | apply seqQ.normal | apply blockQ.normal | apply ef_skip | (apply ef_condf; exact rfl; (exact (rfl : false = false))))
    refine rfQ.normal _ _ ⟨[⟨1, false, 1, natL (w ++ [s])⟩, ⟨0, false, 1, [I64 s]⟩, ⟨0, false, 1, [.arr M.length 0 (w.length + 1) 1]⟩], fun s' hs' => ?_, rfl⟩
    rw [List.take_add_one, hs] at hs'
    rcases List.mem_append.1 hs' with h1 | h1
    ·exact hno s' h1
    ·simp at h1; rw [h1]; exact hP
   ·have hsp : pk = s := by
     have h1 : rowSets C.length r.1 r.2 = (rowSets C.length r.1 r.2).take j ++ s :: (rowSets C.length r.1 r.2).drop (j + 1) := by
      have h2 := List.getElem?_eq_some_iff.1 hs
      obtain ⟨h3, h4⟩ := h2
      rw [← h4, ← List.drop_eq_getElem_cons h3, List.take_append_drop]
     rw [h1, List.find?_append] at hpk2
     have h5 : ((rowSets C.length r.1 r.2).take j).find? (fun s => possB R C (prefP (w ++ [s]))) = none := by
      rw [List.find?_eq_none]
      intro x hx
      rw [hno x hx]; simp
     rw [h5, Option.none_or, List.find?_cons_of_pos (by exact hP)] at hpk2
     exact (Option.some.inj hpk2).symm
    subst hsp
    repeat (first | apply ef_seq | (apply ef_ldp; exact rfl; exact rfl; (assumption); exact rfl; (exact rfl); (exact rfl)) | apply ef_nil | apply seqQ.normal | (apply ef_condt; exact rfl; (exact (rfl : true = true))))
    have hwr : wrElem v 0 (.arr M.length 0 (w.length + 1) 1) = some (.arr M.length 0 (w.length + 1) 1) := by cases hv <;> rfl
    (apply ef_st; (· exact rfl); (· exact rfl); (· exact rfl); (· exact t3); (· exact rfl); (· exact rfl); (· exact rfl); (· exact hwr))
    repeat (first | apply ef_nil | apply seqQ.normal | apply ef_exit | (apply blockQ_there; exact rfl))
    apply rfQ.exit
    repeat (first | (apply ef_mv; exact rfl; exact rfl) | (apply ef_bin; (iterate 3 exact rfl); (((with_reducible refine bin_add (wrap_of ?_ ?_)) <;> omega))) | apply ef_nil | apply seqQ.normal | apply blockQ.normal | apply blockQ.here)
    simp only at hlen hi
    obtain ⟨H, hH⟩ : ∃ H, H = (tryM M w pk).set 3 ⟨0, false, 1, [.arr M.length 0 (w.length + 1) 1]⟩ := ⟨_, rfl⟩
    have hTl : (tryM M w pk).length = M.length + 3 := by simp [tryM]
    have hHl : H.length = M.length + 3 := by rw [hH, List.length_set, hTl]
    have hH3 : H[3]? = some ⟨0, false, 1, [.arr M.length 0 (w.length + 1) 1]⟩ := by rw [hH, List.getElem?_set_self (by rw [hTl]; omega)]
    have hHi : ∀ i, i ≠ 3 → H[i]? = (tryM M w pk)[i]? := fun i hi => by rw [hH, List.getElem?_set_ne (Ne.symm hi)]
    have hHc : hltL (M.length + 3) H = true := by
     rw [hH]
     refine hltL_set (tryM_cl w pk hcl) ?_
     simp only [ltL, MV.lt, Bool.and_true, decide_eq_true_eq]; omega
    refine loopQ.normal _ _ ⟨(i + 1, H), ⟨?_, ⟨?_, ?_, ⟨.arr M.length 0 (w.length + 1) 1, ?_, ?_⟩, ?_⟩, ?_, ?_⟩, ?_, ⟨by ((repeat (refine Hold.cons (by exact rfl) ?_)); exact Hold.nil), by ((repeat (refine Hold.cons (by exact rfl) ?_)); exact Hold.nil)⟩, ?_⟩
    ·exact hi2
    ·show H[0]? = _
     rw [hHi 0 (by decide)]; exact tryM_at m0
    ·show H[2]? = _
     rw [hHi 2 (by decide)]; exact t1
    ·exact hH3
    ·show RowAt H _ (bodyB R C (i + 1))
     rw [hnext, show w.length + 1 = (w ++ [pk]).length by simp]
     refine .some M.length 1 (w ++ [pk]) (by simp) ?_
     rw [hHi _ (by omega)]; exact tryM_0 M w pk
    ·show hltL H.length H = true
     rw [hHl]; exact hHc
    ·show 4 ≤ H.length
     omega
    ·exact fun _ => ⟨M.length, w.length + 1, 1, hH3, hlen⟩
    ·show R.length - (i + 1) < R.length - i
     omega
    ·show HeadIs _ _ _ ((tryM M w pk).set 3 ⟨0, false, 1, [.arr M.length 0 (w.length + 1) 1]⟩) H
     rw [← hH]
     refine .cell ?_
     show hltL 4 (H.take 4) = false
     rw [Bool.eq_false_iff]
     intro hc
     have h1 := List.all_eq_true.1 hc ⟨0, false, 1, [.arr M.length 0 (w.length + 1) 1]⟩ (List.mem_of_getElem? (i := 3) (by rw [List.getElem?_take, if_pos (by decide)]; exact hH3))
     simp only [ltL, MV.lt, Bool.and_true, decide_eq_true_eq] at h1
     omega
  ·intro Y hno
   exfalso
   rw [List.take_of_length_le (by simp)] at hno
   have h1 := List.find?_some hpk2
   rw [hno pk (List.mem_of_find?_eq_some hpk2)] at h1
   cases h1
 ·obtain rfl : i = R.length := by omega
  have hwl := bodyB_len R C R.length
  generalize bodyB R C R.length = w at *
  cases hv with
  | none => simp at hwl; omega
  | some id g w' hne2 hM =>
   simp only at m2 hM
   repeat (first | apply ef_seq | (apply ef_mv; exact rfl; exact rfl) | (apply ef_bin; (iterate 3 exact rfl); (exact cmp_f rfl (by simp only [cmpP]; omega))) | (apply ef_ldp; exact rfl; exact rfl; (assumption); exact rfl; (exact rfl); (exact rfl)) | apply ef_nil | apply seqQ.normal | apply loopQ.exit | apply ef_ret | apply ef_exit | apply seqQ.exit | apply blockQ.here | (apply ef_condf; exact rfl; (exact (rfl : false = false))))
   rw [← hwl]
   exact fin_al rfl (by exact rfl) (by exact rfl) hM rfl (by simp) (natL_lt 0 w) rfl rfl rfl
end Go.Proofs.YtnmgpbihknjdjaaGreatDoor

/- The examples that every law begins with. -/
namespace Go.Proofs.YtnmgpbihknjdjaaGreatDoor
open Go.RowKit
set_option linter.unusedVariables false
theorem items_c (k : Nat) (h : MHeap) : orA (k + 1) 94 [] h = some (.arr h.length 0 3 0, h ++ [⟨0, false, 3, itemE⟩]) := by
 have := callA (k := k) (h := h) (args := []) (args' := []) rfl rfl (items_z k) rfl rfl
 simpa [shV, sh1] using this
theorem cal_c (k : Nat) (h : MHeap) : orA (k + 1) 98 [] h = some (.arr h.length 0 3 0, h ++ [⟨0, false, 3, calE⟩]) := by
 have := callA (k := k) (h := h) (args := []) (args' := []) rfl rfl (cal_z k) rfl rfl
 simpa [shV, sh1] using this
theorem hole_c (k : Nat) (h : MHeap) : orA (k + 1) 95 [] h = some (holeX, h) := by
 have := callA (k := k) (h := h) (args := []) (args' := []) rfl rfl (hole_z k) rfl rfl
 simpa [shV, sh1] using this
theorem layer_c (k : Nat) (h : MHeap) : orA (k + 6) 96 [] h = some (layX, h) := by
 have := callA (k := k + 5) (h := h) (args := []) (args' := []) rfl rfl (layer_x k) rfl rfl
 simpa [shV, sh1] using this
theorem shadow_c (k : Nat) (h : MHeap) : orA (k + 1) 97 [] h = some (encS shR shC, h) := by
 have := callA (k := k) (h := h) (args := []) (args' := []) rfl rfl (shadow_x k) rfl rfl
 rw [List.append_nil] at this
 exact this
theorem whole_z (k : Nat) : runZ MT (orA (k + 3)) (itA (k + 3)) 4000000 44 [I64 80] [] = some (.agg [I64 80, I64 1], []) := by kernel_rfl
theorem low_z (k : Nat) : runZ MT (orA (k + 3)) (itA (k + 3)) 4000000 87 [I64 400, I64 3] [] = some (.agg [I64 400, I64 3], []) := by kernel_rfl
theorem whole_c (k : Nat) (h : MHeap) : orA (k + 4) 44 [I64 80] h = some (.agg [I64 80, I64 1], h) := by
 have := callA (k := k + 3) (h := h) (args := [I64 80]) (args' := [I64 80]) rfl rfl (whole_z k) rfl rfl
 simpa [shV, sh1] using this
theorem low_c (k : Nat) (h : MHeap) : orA (k + 4) 87 [I64 400, I64 3] h = some (.agg [I64 400, I64 3], h) := by
 have := callA (k := k + 3) (h := h) (args := [I64 400, I64 3]) (args' := [I64 400, I64 3]) rfl rfl (low_z k) rfl rfl
 simpa [shV, sh1] using this
theorem bestX_c (h : MHeap) {v : MV} (hv : frz 0 [] h 8 v = some itemX) : orA 13 20 [v, I64 8] h = some (.tup [.arr h.length 0 2 0, I64 16, I64 0], h ++ [⟨0, false, 1, [I64 0, I64 2]⟩]) := by
 have hf : [v, I64 8].mapM (frz 0 [] h 8) = some [itemX, I64 8] := by simp [List.mapM_cons, hv, frz_lt (m := I64 8) rfl]
 have := callA (k := 12) (h := h) hf rfl (runL_ok mfW_ok (f := 20) (m := mfW_l20) (by kernel_rfl) best_f _) (by simp [okV, ok1, MV.lt, MV.pure]) (by simp [okH, ltL, MV.lt, pureL, MV.pure])
 simpa [shV, sh1] using this
theorem priceX_c (h : MHeap) {v : MV} (hv : frz 0 [] h 8 v = some itemX) : orA 13 35 [v, I64 8] h = some (.tup [.agg [I64 7, I64 4], I64 0], h) := by
 have hf : [v, I64 8].mapM (frz 0 [] h 8) = some [itemX, I64 8] := by simp [List.mapM_cons, hv, frz_lt (m := I64 8) rfl]
 have := callA (k := 12) (h := h) hf rfl (runL_ok mfW_ok (f := 35) (m := mfW_l35) (by kernel_rfl) price_f _) (by simp [okV, ok1, MV.lt, ltL, MV.pure, pureL]) rfl
 simpa [shV, sh1] using this
theorem earlyX_c (h : MHeap) {v : MV} (hv : frz 0 [] h 8 v = some calX) : orA 13 49 [v, I64 355, I64 10] h = some (.tup [I64 376, I64 0], h) := by
 have hf : [v, I64 355, I64 10].mapM (frz 0 [] h 8) = some [calX, I64 355, I64 10] := by simp [List.mapM_cons, hv, frz_lt (m := I64 355) rfl, frz_lt (m := I64 10) rfl]
 have := callA (k := 12) (h := h) hf rfl (runL_ok mfW_ok (f := 49) (m := mfW_l49) (by kernel_rfl) early_f _) (by simp [okV, ok1, MV.lt, MV.pure]) rfl
 simpa [shV, sh1] using this
theorem cutsX_c (h : MHeap) : orA 13 26 [holeX, layX] h = some (.tup [.agg [I64 80, I64 1, I64 400, I64 3], I64 0], h) := by
 have := callA (k := 12) (h := h) (args := [holeX, layX]) (args' := [holeX, layX]) rfl rfl (runL_ok mfW_ok (f := 26) (m := mfW_l26) (by kernel_rfl) cuts_f _) rfl rfl
 simpa [shV, sh1] using this
theorem bodyX_c (h : MHeap) : orA 13 62 [encS shR shC] h = some (.tup [.arr h.length 0 2 0, I64 0], h ++ [⟨0, false, 1, [I64 1, I64 3]⟩]) := by
 have hp : ∀ i, i < shR.length → (pickB shR shC (bodyB shR shC i) i).isSome = true
  | 0, _ => by kernel_rfl
  | 1, _ => by kernel_rfl
  | i + 2, h => absurd h (by simp)
 have hb : natL (bodyB shR shC shR.length) = [I64 1, I64 3] := by kernel_rfl
 have hz := body_z 5 shR shC (by decide) (by decide) (open_xc 5) hp (by decide)
 rw [hb] at hz
 have := callA (k := 12) (h := h) (args := [encS shR shC]) (args' := [encS shR shC]) rfl rfl hz rfl rfl
 simpa [shV, sh1] using this
theorem mf_awake : MT.mf 15 = some ⟨87, [(.tmp 0)], (.seq (.reg [gO 0 (.mv cF)]) (.seq (.reg [gO 13 (.call 94 []), gO 14 (.call 20 [.s 13, (cI 8)]), gO 12 (.mv (.s 14)), gO 15 (.ext (.s 12) 0), gO 16 (.ext (.s 12) 1), gO 17 (.ext (.s 12) 2), gO 1 (.mv (.s 15)), gO 2 (.mv (.s 16)), gO 3 (.mv (.s 17))]) (.seq (.reg [gO 19 (.call 95 []), gO 20 (.call 96 []), gO 21 (.call 26 [.s 19, .s 20]), gO 18 (.mv (.s 21)), gO 22 (.ext (.s 18) 0), gO 23 (.ext (.s 18) 1), gO 4 (.new (.agg [(.lit (.int .i64 0)), (.lit (.int .i64 0)), (.lit (.int .i64 0)), (.lit (.int .i64 0))])), ⟨none, none, .st 4 (.s 4) (.s 22)⟩, gO 5 (.mv (.s 23))]) (.seq (.reg [gO 25 (.call 97 []), gO 26 (.call 62 [.s 25]), gO 24 (.mv (.s 26)), gO 27 (.ext (.s 24) 0), gO 28 (.ext (.s 24) 1), gO 6 (.mv (.s 27)), gO 7 (.mv (.s 28))]) (.seq (.reg [gO 30 (.call 94 []), gO 31 (.call 35 [.s 30, (cI 8)]), gO 29 (.mv (.s 31)), gO 32 (.ext (.s 29) 0), gO 33 (.ext (.s 29) 1), gO 8 (.new (.agg [(.lit (.int .i64 0)), (.lit (.int .i64 0))])), ⟨none, none, .st 2 (.s 8) (.s 32)⟩, gO 9 (.mv (.s 33))]) (.seq (.reg [gO 35 (.call 98 []), gO 36 (.call 49 [.s 35, (cI 355), (cI 10)]), gO 34 (.mv (.s 36)), gO 37 (.ext (.s 34) 0), gO 38 (.ext (.s 34) 1), gO 10 (.mv (.s 37)), gO 11 (.mv (.s 38))]) (.seq (.reg [gO 39 (.mv (.s 3)), gO 40 (.bin .eql (.s 39) (cI 0)), gO 41 (.mv (.s 40)), ⟨some (41, true), some 42, .mv (.s 2)⟩, ⟨some (41, true), some 43, .bin .eql (.s 42) (cI 16)⟩, gO 44 (.pick (.s 41) (.s 43) cF), gO 45 (.mv (.s 44)), ⟨some (45, true), some 46, .mv (.s 1)⟩, ⟨some (45, true), some 47, .bsl (.lit (.int .i64 0)) 1 2 [(0, (cI 0)), (1, (cI 2))]⟩, ⟨some (45, true), some 48, .call 24 [.s 46, .s 47]⟩, gO 49 (.pick (.s 45) (.s 48) cF), gO 50 (.mv (.s 49)), ⟨some (50, true), some 51, .mv (.s 5)⟩, ⟨some (50, true), some 52, .bin .eql (.s 51) (cI 0)⟩, gO 53 (.pick (.s 50) (.s 52) cF), gO 54 (.mv (.s 53)), ⟨some (54, true), some 55, .ld (some 4) (.s 4)⟩, ⟨some (54, true), some 56, .call 44 [(cI 80)]⟩, ⟨some (54, true), some 57, .call 87 [(cI 400), (cI 3)]⟩, ⟨some (54, true), some 58, .build [(.lit (.int .i64 0)), (.lit (.int .i64 0)), (.lit (.int .i64 0)), (.lit (.int .i64 0))] [(0, (2, (.s 56))), (2, (2, (.s 57)))]⟩, ⟨some (54, true), some 59, .eqa 4 false (.s 55) (.s 58)⟩, gO 60 (.pick (.s 54) (.s 59) cF), gO 61 (.mv (.s 60)), ⟨some (61, true), some 62, .mv (.s 7)⟩, ⟨some (61, true), some 63, .bin .eql (.s 62) (cI 0)⟩, gO 64 (.pick (.s 61) (.s 63) cF), gO 65 (.mv (.s 64)), ⟨some (65, true), some 66, .mv (.s 6)⟩, ⟨some (65, true), some 67, .bsl (.lit (.int .i64 0)) 1 2 [(0, (cI 1)), (1, (cI 3))]⟩, ⟨some (65, true), some 68, .call 24 [.s 66, .s 67]⟩, gO 69 (.pick (.s 65) (.s 68) cF), gO 70 (.mv (.s 69)), ⟨some (70, true), some 71, .mv (.s 9)⟩, ⟨some (70, true), some 72, .bin .eql (.s 71) (cI 0)⟩, gO 73 (.pick (.s 70) (.s 72) cF), gO 74 (.mv (.s 73)), ⟨some (74, true), some 75, .ld (some 2) (.s 8)⟩, ⟨some (74, true), some 76, .build [(.lit (.int .i64 0)), (.lit (.int .i64 0))] [(0, (1, (cI 7))), (1, (1, (cI 4)))]⟩, ⟨some (74, true), some 77, .eqa 2 false (.s 75) (.s 76)⟩, gO 78 (.pick (.s 74) (.s 77) cF), gO 79 (.mv (.s 78)), ⟨some (79, true), some 80, .mv (.s 11)⟩, ⟨some (79, true), some 81, .bin .eql (.s 80) (cI 0)⟩, gO 82 (.pick (.s 79) (.s 81) cF), gO 83 (.mv (.s 82)), ⟨some (83, true), some 84, .mv (.s 10)⟩, ⟨some (83, true), some 85, .bin .eql (.s 84) (cI 376)⟩, gO 86 (.pick (.s 83) (.s 85) cF), gO 0 (.mv (.s 86))]) .ret)))))))⟩ := by kernel_rfl
set_option maxHeartbeats 1000000 in
theorem awake_z : runZ MT (orA 13) (itA 13) 4000000 15 [] [] = some (Bo true, []) := by
 refine runZ_of mf_awake (by simp) ?_
 simp only [argsL]
 repeat (first | apply ef_seq | (apply ef_mv; exact rfl; exact rfl) | (apply ef_bin; (iterate 3 exact rfl); (exact cmp_t rfl (by first | exact rfl | (simp only [cmpP]; omega)))) | (apply ef_gy; exact rfl; (exact (rfl : true = true))) | (apply ef_pick; (iterate 3 exact rfl)) | (apply ef_ldp; (iterate 4 exact rfl); (exact rfl); (first | exact rd_2 rfl rfl | exact rd_4 rfl rfl rfl rfl)) | (apply ef_ext; (iterate 3 exact rfl)) | (apply ef_new; exact rfl) | (apply ef_build; exact rfl; (repeat (apply XVs.cons; exact rfl)); exact XVs.nil; exact rfl; exact rfl) | (apply ef_bsl; exact rfl; (repeat (apply XVs.cons; exact rfl)); exact XVs.nil; exact rfl) | (apply ef_eqa; (iterate 3 exact rfl); (exact rfl)) | (apply ef_st; (iterate 6 exact rfl); (exact rfl); exact rfl) | apply ef_nil | apply seqQ.normal | apply ef_ret | (apply ef_call; exact rfl; ((repeat (apply XVs.cons; exact rfl)); exact XVs.nil); (with_reducible first | exact items_c _ _ | exact cal_c _ _ | exact hole_c _ _ | exact layer_c _ _ | exact shadow_c _ _ | exact whole_c _ _ | exact low_c _ _ | exact bestX_c _ rfl | exact priceX_c _ rfl | exact earlyX_c _ rfl | exact cutsX_c _ | exact bodyX_c _ | exact bInts_c 12 [0, 2] [0, 2] _ (by simp) rfl rfl rfl | exact bInts_c 12 [1, 3] [1, 3] _ (by simp) rfl rfl rfl)))
 (refine fin1 rfl (by exact rfl) rfl ?_)
 rfl
theorem awake_c (h : MHeap) : orA 14 15 [] h = some (Bo true, h) := callL (args' := []) rfl rfl awake_z
end Go.Proofs.YtnmgpbihknjdjaaGreatDoor

/- TargetDates: the document's first date; copies; the walk. -/
namespace Go.Proofs.YtnmgpbihknjdjaaGreatDoor
open Go.RowKit
set_option linter.unusedVariables false
end Go.Proofs.YtnmgpbihknjdjaaGreatDoor

/- TargetDates: the walk. -/
namespace Go.Proofs.YtnmgpbihknjdjaaGreatDoor
open Go.RowKit
set_option linter.unusedVariables false
end Go.Proofs.YtnmgpbihknjdjaaGreatDoor

/- TargetDates: from values of the small language to the program's. -/
namespace Go.Proofs.YtnmgpbihknjdjaaGreatDoor
open Go.ChangeShapes Go.WideShapes Go.ChangeAt Go.RowKit
theorem fits_i64d {m : MV} (h : Fits i64Sh m) : ∃ n : Int, m = I64 n := by
 obtain ⟨n, rfl, -⟩ := fits_int h
 exact ⟨n, rfl⟩
theorem fits_strd {m : MV} (h : Fits .str m) : ∃ s : ByteArray, m = .lit (.string s) ∧ (s.size : Int) ≤ 9223372036854775807 := by
 unfold Fits at h
 obtain ⟨s, rfl, hs⟩ := h
 exact ⟨s, rfl, by unfold maxLen at hs; omega⟩
structure CdB (c : Cd) : Prop where
 sz : (c.o.size : Int) ≤ 9223372036854775807
end Go.Proofs.YtnmgpbihknjdjaaGreatDoor

/- The best set of targets (plain laws). -/
namespace Go.Proofs.YtnmgpbihknjdjaaGreatDoor
set_option linter.unusedVariables false
structure Tg where
 nm : ByteArray
 c : Int
 s : Int
def tgI (l : List Tg) (i : Nat) : Tg := l.getD i ⟨ByteArray.empty, 0, 0⟩
def costL (l : List Tg) : List Nat → Int
 | [] => 0
 | i :: S => (tgI l i).c + costL l S
def scoreL (l : List Tg) : List Nat → Int
 | [] => 0
 | i :: S => (tgI l i).s + scoreL l S
def befL : List Nat → List Nat → Bool
 | _, [] => false
 | [], _ :: _ => true
 | a :: l, b :: m => if a = b then befL l m else decide (a < b)
def stepB (l : List Tg) (B : Int) (st : List Nat × Int) (S : List Nat) : List Nat × Int :=
 if costL l S ≤ B ∧ (st.2 < scoreL l S ∨ scoreL l S = st.2 ∧ befL S st.1 = true) then (S, scoreL l S) else st
def bestF (l : List Tg) (B : Int) : Nat → List Nat × Int
 | 0 => ([], 0)
 | X + 1 => stepB l B (bestF l B X) (mbL X)
structure BestS (l : List Tg) (B : Int) (N : Nat) (st : List Nat × Int) : Prop where
 set : ∃ X, X < N + 1 ∧ st.1 = mbL X
 cost : costL l st.1 ≤ B
 score : scoreL l st.1 = st.2
 most : ∀ X, X < N → costL l (mbL X) ≤ B → scoreL l (mbL X) ≤ st.2
theorem bestF_ok (l : List Tg) {B : Int} (hB : 0 ≤ B) : ∀ N, BestS l B N (bestF l B N)
 | 0 => ⟨⟨0, by omega, by rw [mbL_zero]; rfl⟩, hB, rfl, fun X h => absurd h (Nat.not_lt_zero _)⟩
 | N + 1 => by
  obtain ⟨⟨X, hX, h1⟩, h2, h3, h4⟩ := bestF_ok l hB N
  rw [bestF]
  unfold stepB
  split
  ·rename_i hc
   refine ⟨⟨N, by omega, rfl⟩, hc.1, rfl, fun Y hY hcY => ?_⟩
   by_cases hYN : Y = N
   ·subst hYN; exact Int.le_refl _
   ·have := h4 Y (by omega) hcY
    simp only
    rcases hc.2 with h | h <;> omega
  ·rename_i hc
   refine ⟨⟨X, by omega, h1⟩, h2, h3, fun Y hY hcY => ?_⟩
   by_cases hYN : Y = N
   ·subst hYN
    refine Classical.byContradiction fun hn => hc ⟨hcY, .inl (by omega)⟩
   ·exact h4 Y (by omega) hcY
theorem bestF_mb (l : List Tg) (B : Int) (n : Nat) : ∀ N, N ≤ 2 ^ n → ∃ X, X < 2 ^ n ∧ (bestF l B N).1 = mbL X
 | 0, _ => ⟨0, Nat.two_pow_pos n, by rw [mbL_zero]; rfl⟩
 | N + 1, hN => by
  rw [bestF]
  unfold stepB
  split
  ·exact ⟨N, by omega, rfl⟩
  ·exact bestF_mb l B n N (by omega)
theorem bestF_lt {l : List Tg} {B : Int} {n : Nat} (hn : n ≤ 63) : (∀ i ∈ (bestF l B (2 ^ n)).1, i < n) ∧ ((bestF l B (2 ^ n)).1).Pairwise (· < ·) := by
 obtain ⟨X, hX, he⟩ := bestF_mb l B n _ (Nat.le_refl _)
 rw [he]
 exact ⟨mbL_lt hX hn, mbL_asc _ (Nat.lt_of_lt_of_le hX (Nat.pow_le_pow_right (by decide) (by omega)))⟩
def bitsL : List Nat → Nat
 | [] => 0
 | i :: S => 2 ^ i ||| bitsL S
theorem bitsL_test (j : Nat) : ∀ S : List Nat, (bitsL S).testBit j = decide (j ∈ S)
 | [] => by simp [bitsL]
 | i :: S => by
  rw [bitsL, Nat.testBit_or, bitsL_test j S, Nat.testBit_two_pow]
  by_cases h : i = j
  ·subst h; simp
  ·by_cases h2 : j ∈ S <;> simp [h, h2, Ne.symm h]
theorem bitsL_lt {n : Nat} : ∀ S : List Nat, (∀ i ∈ S, i < n) → bitsL S < 2 ^ n
 | [], _ => Nat.two_pow_pos n
 | i :: S, h => by
  rw [bitsL]
  exact Nat.or_lt_two_pow (Nat.pow_lt_pow_right (by decide) (h i (List.mem_cons_self ..))) (bitsL_lt S fun j hj => h j (List.mem_cons_of_mem _ hj))
theorem mbL_bits {S : List Nat} {n : Nat} (hn : n ≤ 63) (hS : ∀ i ∈ S, i < n) (ha : S.Pairwise (· < ·)) : mbL (bitsL S) = S := by
 have h1 : bitsL S < 2 ^ 64 := Nat.lt_of_lt_of_le (bitsL_lt S hS) (Nat.pow_le_pow_right (by decide) (by omega))
 refine asc_eq (mbL_asc _ h1) ha fun i => ?_
 rw [mbL_mem _ h1, bitsL_test, decide_eq_true_eq]
theorem best_most {l : List Tg} {B : Int} (hB : 0 ≤ B) {S : List Nat} (hn : l.length ≤ 63) (hS : ∀ i ∈ S, i < l.length) (ha : S.Pairwise (· < ·)) (hc : costL l S ≤ B) : scoreL l S ≤ (bestF l B (2 ^ l.length)).2 := by
 have h := (bestF_ok l hB (2 ^ l.length)).most (bitsL S) (bitsL_lt S hS)
 rw [mbL_bits hn hS ha] at h
 exact h hc
theorem best_mono {l : List Tg} {B C : Int} (hB : 0 ≤ B) (hC : B ≤ C) (hn : l.length ≤ 63) : (bestF l B (2 ^ l.length)).2 ≤ (bestF l C (2 ^ l.length)).2 := by
 obtain ⟨⟨X, _, h1⟩, h2, h3, _⟩ := bestF_ok l hB (2 ^ l.length)
 obtain ⟨hi, ha⟩ := bestF_lt (l := l) (B := B) (n := l.length) hn
 rw [← h3]
 exact best_most (by omega) hn hi ha (by omega)
def tgE (ns : List ByteArray) (x : Tg) : Int := if nameUB x.nm then (if ns.any (fun o => o == x.nm) then 5 else if inB x.c 1 1000000 && inB x.s 0 1000000 then 0 else 2) else 4
def firT (l : List Tg) : Nat → List Tg → Int × Int
 | _, [] => (0, 0)
 | i, x :: r => if tgE ((l.take i).map Tg.nm) x = 0 then firT l (i + 1) r else (i, tgE ((l.take i).map Tg.nm) x)
def itmE (l : List Tg) : Int × Int := if 12 < l.length then (0, 8) else firT l 0 l
end Go.Proofs.YtnmgpbihknjdjaaGreatDoor

/- Contracts: which targets are valid. -/
namespace Go.Proofs.YtnmgpbihknjdjaaGreatDoor
open Go.RowKit
set_option linter.unusedVariables false
abbrev encTg (x : Tg) : MV := .agg [.lit (.string x.nm), I64 x.c, I64 x.s]
theorem ltL_Tg (n : Nat) (zs : List Tg) : ltL n (zs.map encTg) = true := ltL_lits (fun _ => rfl) zs
theorem pureL_Tg (l : List Tg) : pureL (l.map encTg) = true := pureL_lits (fun _ => rfl) l
abbrev outD2 (r : Int × Int) : MV := .tup [I64 r.1, I64 r.2]
theorem mf_eachTg : MT.mf 99 = some mfW_l99 := mfW_q99
theorem eachTg_z (k g : Nat) (caps : List MV) (G : Nat → Tg → Int) (zs : List Tg) (hx : zs.length ≤ 1000) (hcl : ltL 0 caps = true) (hg : ∀ (i : Nat) (hi : i < zs.length) h, orA k g (I64 (i : Int) :: encTg zs[i] :: caps) h = some (I64 (G i zs[i]), h)) :
  runZ MT (orA k) (itA k) 4000000 99 [.sl (zs.map encTg), .fn g 0 caps] [] = some (.tup [I64 (firG G 0 zs).1, I64 (firG G 0 zs).2], []) := by
 have hl : (MV.sl (zs.map encTg)).slen = some zs.length := by simp [MV.slen]
 refine runZ_of mf_eachTg (by simp) ?_
 simp only [argsL]
 repeat (first | apply ef_seq | (apply ef_mv; exact rfl; exact rfl) | (apply ef_len; exact rfl; exact rfl; (assumption)) | apply ef_nil | apply seqQ.normal | apply ef_block)
 refine ef_loopf (α := Nat) (fun i => i ≤ zs.length ∧ firG G 0 zs = firG G i (zs.drop i)) (fun i => [(11, I64 (i : Int))]) [(10, I64 (zs.length : Int)), (9, .sl (zs.map encTg)), (1, .fn g 0 caps)] (fun _ => []) (fun i => zs.length - i) 0 [11] (fun _ => rfl) (by ((repeat (refine Hold.cons (by exact rfl) ?_)); exact Hold.nil)) (by ((repeat (refine Hold.cons (by exact rfl) ?_)); exact Hold.nil)) rfl rfl ⟨by omega, rfl⟩ (by simp; omega) ?_
 rintro i ⟨hi, hz⟩
 by_cases hlt : i < zs.length
 ·have e1 := at_map encTg zs i hlt
  have HD := Lib.hid (drop_at zs i hlt)
  have HZ := Lib.hid hz
  have hg1 := hg i hlt
  clear hz
  generalize zs[i] = z at e1 HD hg1
  obtain ⟨t, ht⟩ : ∃ t, G i z = t := ⟨_, rfl⟩
  have HT := Lib.hid ht
  rw [ht] at hg1
  clear ht
  have hlz : (encTg z).lt 0 = true := by rfl
  by_cases h0 : t = 0
  ·subst h0
   repeat (first | apply ef_seq | (apply ef_mv; exact rfl; exact rfl) | (apply ef_bin; (iterate 3 exact rfl); (exact cmp_t rfl (by first | exact rfl | (simp only [cmpP]; omega)))) | (apply ef_ldr; exact rfl; exact rfl; (exact rd_3 rfl rfl rfl)) | (apply ef_ldp; exact rfl; exact rfl; (exact rfl); exact rfl; (exact rfl); (exact rd_3 rfl rfl rfl)) | (apply ef_ias; (iterate 3 exact rfl); (omega); assumption; exact rfl) | (apply ef_new; exact rfl) | (apply ef_st; (iterate 6 exact rfl); (exact rfl); exact rfl) | apply ef_nil | apply seqQ.normal | apply ef_block | apply ef_skip | (apply ef_condt; exact rfl; (exact (rfl : true = true))))
   (apply ef_callv; (· exact rfl); (· exact rfl); (· ((repeat (apply XVs.cons; exact rfl)); exact XVs.nil)); (· exact rfl); (· exact hg1 _))
   repeat (first | apply ef_seq | (apply ef_mv; exact rfl; exact rfl) | (apply ef_bin; (iterate 3 exact rfl); (first | exact cmp_f rfl (by simp only [cmpP]; omega) | ((with_reducible refine bin_add (wrap_of ?_ ?_)) <;> omega))) | apply ef_nil | apply seqQ.normal | apply blockQ.normal | apply ef_skip | (apply ef_condf; exact rfl; (exact (rfl : false = false))))
   (refine loopQ.normal _ _ ⟨i + 1, ⟨hlt, by rw [HZ.out, HD.out, firG, if_pos HT.out]⟩, (by first | (simp only; omega) | omega), ⟨by ((repeat (refine Hold.cons (by exact rfl) ?_)); exact Hold.nil), by ((repeat (refine Hold.cons (by exact rfl) ?_)); exact Hold.nil)⟩, .inr ⟨by ((repeat (refine hdl_cons rfl (by first | rfl | (simp [MV.lt, ltL, ltL_Tg, hcl])) ?_)); exact hdl_nil), by first | rfl | (simp [hltL, ltL, MV.lt, ltL, ltL_Tg, hcl])⟩, by first | exact rfl | (simp only [List.map_append, List.map_set]; exact rfl)⟩)
  ·repeat (first | apply ef_seq | (apply ef_mv; exact rfl; exact rfl) | (apply ef_bin; (iterate 3 exact rfl); (exact cmp_t rfl (by first | exact rfl | (simp only [cmpP]; omega)))) | (apply ef_ldr; exact rfl; exact rfl; (exact rd_3 rfl rfl rfl)) | (apply ef_ldp; exact rfl; exact rfl; (exact rfl); exact rfl; (exact rfl); (exact rd_3 rfl rfl rfl)) | (apply ef_ias; (iterate 3 exact rfl); (omega); assumption; exact rfl) | (apply ef_new; exact rfl) | (apply ef_st; (iterate 6 exact rfl); (exact rfl); exact rfl) | apply ef_nil | apply seqQ.normal | apply ef_block | apply ef_skip | (apply ef_condt; exact rfl; (exact (rfl : true = true))))
   (apply ef_callv; (· exact rfl); (· exact rfl); (· ((repeat (apply XVs.cons; exact rfl)); exact XVs.nil)); (· exact rfl); (· exact hg1 _))
   repeat (first | apply ef_seq | (apply ef_mv; exact rfl; exact rfl) | (apply ef_bin; (iterate 3 exact rfl); (exact cmp_t rfl (by first | exact rfl | (simp only [cmpP]; omega)))) | apply ef_nil | apply seqQ.normal | apply loopQ.ret | apply ef_ret | apply seqQ.ret | apply blockQ.ret | (apply ef_condt; exact rfl; (exact (rfl : true = true))))
   (refine fin2 rfl (by exact rfl) (by exact rfl) ?_)
   rw [HZ.out, HD.out, firG, HT.out, if_neg h0]
 ·repeat (first | apply ef_seq | (apply ef_mv; exact rfl; exact rfl) | (apply ef_bin; (iterate 3 exact rfl); (exact cmp_f rfl (by simp only [cmpP]; omega))) | apply ef_nil | apply seqQ.normal | apply loopQ.exit | apply ef_ret | apply ef_exit | apply seqQ.exit | apply blockQ.here | (apply ef_condf; exact rfl; (exact (rfl : false = false))))
  (refine fin2 rfl (by exact rfl) (by exact rfl) ?_)
  rw [hz, List.drop_eq_nil_of_le (by omega)]; rfl
theorem eachTg_c (k g : Nat) (caps : List MV) (G : Nat → Tg → Int) (zs : List Tg) (h : MHeap) {v fv : MV} (hx : zs.length ≤ 1000) (hcl : ltL 0 caps = true) (hg : ∀ (i : Nat) (hi : i < zs.length) h, orA k g (I64 (i : Int) :: encTg zs[i] :: caps) h = some (I64 (G i zs[i]), h)) (hv : frz 0 [] h 8 v = some (.sl (zs.map encTg))) (hf : frz 0 [] h 8 fv = some (.fn g 0 caps)) :
  orA (k + 1) 99 [v, fv] h = some (.tup [I64 (firG G 0 zs).1, I64 (firG G 0 zs).2], h) :=
 callTT (args' := [.sl (zs.map encTg), .fn g 0 caps]) (by simp [List.mapM_cons, hv, hf]) rfl (eachTg_z k g caps G zs hx hcl hg)
theorem mf_IndexTg : MT.mf 177 = some mfW_l177 := mfW_q177
theorem IndexTg_z (k g : Nat) (caps : List MV) (P : Tg → Bool) (zs : List Tg) (hx : zs.length ≤ 1000) (hcl : ltL 0 caps = true) (hg : ∀ z ∈ zs, ∀ h, orA k g (encTg z :: caps) h = some (Bo (P z), h)) :
  runZ MT (orA k) (itA k) 4000000 177 [.sl (zs.map encTg), .fn g 0 caps] [] = some (I64 (fIg P zs 0), []) := by
 have hl : (MV.sl (zs.map encTg)).slen = some zs.length := by simp [MV.slen]
 refine runZ_of mf_IndexTg (by simp) ?_
 simp only [argsL]
 repeat (first | apply ef_seq | (apply ef_mv; exact rfl; exact rfl) | (apply ef_len; exact rfl; exact rfl; (assumption)) | apply ef_nil | apply seqQ.normal | apply ef_block)
 refine ef_loopf (α := Nat) (fun i => i ≤ zs.length ∧ fIg P zs 0 = fIg P (zs.drop i) i) (fun i => [(8, I64 (i : Int))]) [(7, I64 (zs.length : Int)), (1, .fn g 0 caps), (0, .sl (zs.map encTg))] (fun _ => []) (fun i => zs.length - i) 0 [8] (fun _ => rfl) (by ((repeat (refine Hold.cons (by exact rfl) ?_)); exact Hold.nil)) (by ((repeat (refine Hold.cons (by exact rfl) ?_)); exact Hold.nil)) rfl rfl ⟨by omega, rfl⟩ (by simp; omega) ?_
 rintro i ⟨hi, hz⟩
 by_cases hlt : i < zs.length
 ·have e1 := at_map encTg zs i hlt
  have HD := Lib.hid (drop_at zs i hlt)
  have HZ := Lib.hid hz
  have hg1 := hg zs[i] (List.getElem_mem hlt)
  clear hz
  generalize zs[i] = z at e1 HD hg1
  obtain ⟨t, ht⟩ : ∃ t, P z = t := ⟨_, rfl⟩
  have HT := Lib.hid ht
  rw [ht] at hg1
  clear ht
  cases t
  ·repeat (first | apply ef_seq | (apply ef_mv; exact rfl; exact rfl) | (apply ef_bin; (iterate 3 exact rfl); (exact cmp_t rfl (by first | exact rfl | (simp only [cmpP]; omega)))) | (apply ef_ldr; exact rfl; exact rfl; (exact rd_3 rfl rfl rfl)) | (apply ef_ias; (iterate 3 exact rfl); (omega); assumption; exact rfl) | apply ef_nil | apply seqQ.normal | apply ef_block | apply ef_skip | (apply ef_condt; exact rfl; (exact (rfl : true = true))))
   (apply ef_callv; (· exact rfl); (· exact rfl); (· ((repeat (apply XVs.cons; exact rfl)); exact XVs.nil)); (· exact rfl); (· exact hg1 _))
   repeat (first | (apply ef_mv; exact rfl; exact rfl) | (apply ef_bin; (iterate 3 exact rfl); (((with_reducible refine bin_add (wrap_of ?_ ?_)) <;> omega))) | apply ef_nil | apply seqQ.normal | apply blockQ.normal | apply ef_skip | (apply ef_condf; exact rfl; (exact (rfl : false = false))))
   (refine loopQ.normal _ _ ⟨i + 1, ⟨hlt, by rw [HZ.out, HD.out]; simp [fIg, HT.out]⟩, (by first | (simp only; omega) | omega), ⟨by ((repeat (refine Hold.cons (by exact rfl) ?_)); exact Hold.nil), by ((repeat (refine Hold.cons (by exact rfl) ?_)); exact Hold.nil)⟩, .inl (Nat.le_refl _), (by first | exact List.take_length | exact rfl | exact takeF rfl rfl)⟩)
  ·repeat (first | apply ef_seq | (apply ef_mv; exact rfl; exact rfl) | (apply ef_bin; (iterate 3 exact rfl); (exact cmp_t rfl (by first | exact rfl | (simp only [cmpP]; omega)))) | (apply ef_ldr; exact rfl; exact rfl; (exact rd_3 rfl rfl rfl)) | (apply ef_ias; (iterate 3 exact rfl); (omega); assumption; exact rfl) | apply ef_nil | apply seqQ.normal | apply ef_block | apply ef_skip | (apply ef_condt; exact rfl; (exact (rfl : true = true))))
   (apply ef_callv; (· exact rfl); (· exact rfl); (· ((repeat (apply XVs.cons; exact rfl)); exact XVs.nil)); (· exact rfl); (· exact hg1 _))
   repeat (first | apply ef_seq | (apply ef_mv; exact rfl; exact rfl) | apply ef_nil | apply seqQ.normal | apply loopQ.ret | apply ef_ret | apply seqQ.ret | apply blockQ.ret | (apply ef_condt; exact rfl; (exact (rfl : true = true))))
   (refine fin1 rfl (by exact rfl) rfl ?_)
   rw [HZ.out, HD.out]; simp [fIg, HT.out]
 ·repeat (first | apply ef_seq | (apply ef_mv; exact rfl; exact rfl) | (apply ef_bin; (iterate 3 exact rfl); (exact cmp_f rfl (by simp only [cmpP]; omega))) | apply ef_nil | apply seqQ.normal | apply loopQ.exit | apply ef_ret | apply ef_exit | apply seqQ.exit | apply blockQ.here | (apply ef_condf; exact rfl; (exact (rfl : false = false))))
  (refine fin1 rfl (by exact rfl) rfl ?_)
  rw [hz, List.drop_eq_nil_of_le (by omega)]; rfl
theorem IndexTg_c (k g : Nat) (caps : List MV) (P : Tg → Bool) (zs : List Tg) (h : MHeap) {v fv : MV} (hx : zs.length ≤ 1000) (hcl : ltL 0 caps = true) (hg : ∀ z ∈ zs, ∀ h, orA k g (encTg z :: caps) h = some (Bo (P z), h)) (hv : frz 0 [] h 8 v = some (.sl (zs.map encTg))) (hf : frz 0 [] h 8 fv = some (.fn g 0 caps)) :
  orA (k + 1) 177 [v, fv] h = some (I64 (fIg P zs 0), h) :=
 callL (args' := [.sl (zs.map encTg), .fn g 0 caps]) (by simp [List.mapM_cons, hv, hf]) rfl (IndexTg_z k g caps P zs hx hcl hg)
theorem mf_ContTg : MT.mf 101 = some mfW_l101 := mfW_q101
theorem ContTg_c (k g : Nat) (caps : List MV) (P : Tg → Bool) (zs : List Tg) (h : MHeap) {v fv : MV} {t : Bool} (hx : zs.length ≤ 1000) (hcl : ltL 0 caps = true) (hg : ∀ z ∈ zs, ∀ h, orA k g (encTg z :: caps) h = some (Bo (P z), h)) (hv : frz 0 [] h 8 v = some (.sl (zs.map encTg))) (hf : frz 0 [] h 8 fv = some (.fn g 0 caps))
  (ht : zs.any P = t) : orA (k + 2) 101 [v, fv] h = some (Bo t, h) := by
 refine callL (args' := [.sl (zs.map encTg), .fn g 0 caps]) (by simp [List.mapM_cons, hv, hf]) rfl (runZ_of mf_ContTg (by simp) ?_)
 simp only [argsL]
 have hi := fun h => IndexTg_c k g caps P zs h (v := .sl (zs.map encTg)) (fv := .fn g 0 caps) hx hcl hg (frz_sl (ltL_Tg 0 zs)) (by simp [frz, MV.lt, hcl])
 have hs := fIg_nn P zs 0
 rw [← ht]
 cases hb : zs.any P
 ·rw [hb] at hs
  have hs : fIg P zs 0 < 0 := by have := hs; simp at this; omega
  generalize fIg P zs 0 = q at *
  repeat (first | apply ef_seq | (apply ef_mv; exact rfl; exact rfl) | (apply ef_bin; (iterate 3 exact rfl); (exact cmp_f rfl (by simp only [cmpP]; omega))) | apply ef_nil | apply seqQ.normal | apply ef_ret | (apply ef_call; exact rfl; ((repeat (apply XVs.cons; exact rfl)); exact XVs.nil); (with_reducible exact hi _)))
  (refine fin1 rfl (by exact rfl) rfl ?_)
  rfl
 ·rw [hb] at hs
  have hs : 0 ≤ fIg P zs 0 := by simpa using hs
  generalize fIg P zs 0 = q at *
  repeat (first | apply ef_seq | (apply ef_mv; exact rfl; exact rfl) | (apply ef_bin; (iterate 3 exact rfl); (exact cmp_t rfl (by first | exact rfl | (simp only [cmpP]; omega)))) | apply ef_nil | apply seqQ.normal | apply ef_ret | (apply ef_call; exact rfl; ((repeat (apply XVs.cons; exact rfl)); exact XVs.nil); (with_reducible exact hi _)))
  (refine fin1 rfl (by exact rfl) rfl ?_)
  rfl
theorem mf_CI11 : MT.mf 102 = some mfW_l102 := mfW_q102
theorem CI11_c (k : Nat) (o z : Tg) (h : MHeap) : orA (k + 1) 102 [encTg o, .rp (encTg z) 0] h = some (Bo (o.nm == z.nm), h) := by
 refine callL (args' := [encTg o, .rp (encTg z) 0]) (frzL_lt rfl) rfl (runZ_of mf_CI11 (by simp) ?_)
 simp only [argsL]
 repeat (first | apply ef_seq | (apply ef_mv; exact rfl; exact rfl) | (apply ef_ldr; exact rfl; exact rfl; (exact rfl)) | (apply ef_ldp; exact rfl; exact rfl; (exact rfl); exact rfl; (exact rfl); (exact rfl)) | (apply ef_fap; exact rfl; exact rfl) | (apply ef_far; exact rfl; exact rfl) | (apply ef_box; (iterate 4 exact rfl)) | (apply ef_sq; (iterate 3 exact rfl)) | apply ef_nil | apply seqQ.normal | apply ef_ret)
 (refine fin1 rfl (by exact rfl) rfl ?_)
 rfl
theorem firT_G (l : List Tg) : ∀ (r : List Tg) (i : Nat), firT l i r = firG (fun i x => tgE ((l.take i).map Tg.nm) x) i r
 | [], _ => rfl
 | x :: r, i => by rw [firT, firG, firT_G l r]
theorem mf_CI1 : MT.mf 100 = some mfW_l100 := mfW_q100
theorem any_nm (l : List Tg) (n : ByteArray) : (l.map Tg.nm).any (fun o => o == n) = l.any (fun o => o.nm == n) := by rw [List.any_map]; rfl
theorem CI1_c (k : Nat) (l : List Tg) (i : Nat) (hi : i < l.length) (z : Tg) (h : MHeap) (hl : l.length ≤ 1000) (hn : z.nm.size ≤ 1000) : orA (k + 4) 100 [I64 (i : Int), encTg z, .rp (.sl (l.map encTg)) 0] h = some (I64 (tgE ((l.take i).map Tg.nm) z), h) := by
 refine callL (args' := [I64 (i : Int), encTg z, .rp (.sl (l.map encTg)) 0]) (frzL_lt (by simp [ltL, MV.lt, ltL_Tg])) rfl (runZ_of mf_CI1 (by simp) ?_)
 simp only [argsL]
 have hslc : ((l.map encTg).drop (0 : Int).toNat).take ((i : Int) - 0).toNat = (l.take i).map encTg := by
  rw [show ((i : Int) - 0).toNat = i by omega]; simp
 have hcl : (l.map encTg).all (fun e => e.cells.length == 3) = true := by
  rw [List.all_eq_true]
  intro m hm
  obtain ⟨_, _, rfl⟩ := List.mem_map.1 hm
  rfl
 have hlen : (l.map encTg).length = l.length := List.length_map ..
 have hcf := fun M (q : M[0]? = some (⟨0, false, 3, [encTg z]⟩ : MObj)) => ContTg_c (k + 1) 102 [.rp (encTg z) 0] (fun o => o.nm == z.nm) (l.take i) M (v := .sl (((l.map encTg).drop (0 : Int).toNat).take ((i : Int) - 0).toNat)) (fv := .fn 102 0 [.ptr 0 0 0 0]) (by rw [List.length_take]; omega) rfl (fun o _ h => CI11_c k o z h) (by rw [hslc]; exact frz_sl (ltL_Tg 0 _)) (by simp [frz, MV.lt, ltL, q]) rfl
 have HE := Lib.hid (show tgE ((l.take i).map Tg.nm) z = firstE [unl (nameUB z.nm) 4, unl (!(l.take i).any (fun o => o.nm == z.nm)) 5, unl (inB z.c 1 1000000 && inB z.s 0 1000000) 2] by
  unfold tgE
  rw [any_nm]
  cases nameUB z.nm <;> cases (l.take i).any (fun o => o.nm == z.nm) <;> cases (inB z.c 1 1000000 && inB z.s 0 1000000) <;> rfl)
 have hna := fun h => isName_c (k + 1) z.nm h hn rfl
 have u1 := fun h => unless_c (k + 2) (nameUB z.nm) 4 h rfl
 generalize (l.take i).any (fun o => o.nm == z.nm) = t at *
 cases t <;> cases a1 : inB z.c 1 1000000
 all_goals
  rw [HE.out, a1]
  repeat (first | apply ef_seq | (apply ef_mv; exact rfl; exact rfl) | (apply ef_ldr; exact rfl; exact rfl; (exact rfl)) | (apply ef_box; (iterate 4 exact rfl)) | apply ef_nil | apply seqQ.normal)
  (apply ef_slcs; (· exact rfl); (· exact rfl); (· exact rfl); (· exact rfl); (· (first | omega | (simp; omega))); (· exact hcl))
  repeat (first | (apply ef_mf; exact rfl; (repeat (apply XVs.cons; exact rfl)); exact XVs.nil))
  (apply ef_call; (· exact rfl); (· ((repeat (apply XVs.cons; exact rfl)); exact XVs.nil)); · exact hcf _ rfl)
  repeat (first | apply ef_seq | (apply ef_mv; exact rfl; exact rfl) | (apply ef_gy; exact rfl; (exact (rfl : true = true))) | (apply ef_gn; exact rfl; (exact (rfl : false = false)); exact rfl) | (apply ef_pick; (iterate 3 exact rfl)) | (apply ef_ldp; exact rfl; exact rfl; (exact rfl); exact rfl; (exact rfl); (exact rfl)) | (apply ef_fap; exact rfl; exact rfl) | (apply ef_notT; exact rfl; exact rfl) | (apply ef_notF; exact rfl; exact rfl) | (apply ef_bsl; exact rfl; (repeat (apply XVs.cons; exact rfl)); exact XVs.nil; exact rfl) | apply ef_nil | apply seqQ.normal | apply ef_ret | (apply ef_call; exact rfl; ((repeat (apply XVs.cons; exact rfl)); exact XVs.nil); (with_reducible first | exact within_c (k + 2) _ _ _ _ a1 | exact within_c (k + 2) _ _ _ _ rfl | exact hna _ | exact u1 _ | exact unless_c (k + 2) _ _ _ rfl)) | (apply ef_call; exact rfl; ((repeat (apply XVs.cons; exact rfl)); exact XVs.nil); (with_reducible apply first3_c); (iterate 3 exact rfl); (exact rfl)))
  (refine fin1 rfl (by exact rfl) rfl ?_)
  rfl
end Go.Proofs.YtnmgpbihknjdjaaGreatDoor

/- Contracts: targets and budgets. -/
namespace Go.Proofs.YtnmgpbihknjdjaaGreatDoor
open Go.RowKit
set_option linter.unusedVariables false
abbrev encSt (b : ByteArray) : MV := .lit (.string b)
theorem ltL_St (n : Nat) (zs : List ByteArray) : ltL n (zs.map encSt) = true := ltL_lits (fun _ => rfl) zs
theorem mf_CheckItems : MT.mf 18 = some mfW_l18 := mfW_q18
theorem CheckItems_c (k : Nat) (l : List Tg) (h : MHeap) {v : MV} (hx : l.length ≤ 100) (hn : ∀ z ∈ l, z.nm.size ≤ 1000) (hv : frz 0 [] h 8 v = some (.sl (l.map encTg))) : orA (k + 6) 18 [v] h = some (outD2 (itmE l), h) := by
 have hs : (MV.sl (l.map encTg)).slen = some l.length := by simp [MV.slen]
 refine callTT (args' := [.sl (l.map encTg)]) (by simp [List.mapM_cons, hv]) rfl (runZ_of mf_CheckItems (by simp) ?_)
 simp only [argsL]
 have HC := Lib.hid (show itmE l = if 12 < l.length then (0, 8) else firG (fun i x => tgE ((l.take i).map Tg.nm) x) 0 l by unfold itmE; rw [firT_G])
 by_cases h1 : 12 < l.length
 ·repeat (first | apply ef_seq | (apply ef_mv; exact rfl; exact rfl) | (apply ef_bin; (iterate 3 exact rfl); (exact cmp_t rfl (by first | exact rfl | (simp only [cmpP]; omega)))) | (apply ef_len; exact rfl; exact rfl; (assumption)) | (apply ef_ldp; exact rfl; exact rfl; (exact rfl); exact rfl; (exact rfl); (exact rfl)) | (apply ef_box; (iterate 4 exact rfl)) | apply ef_nil | apply seqQ.normal | apply ef_ret | apply seqQ.ret | (apply ef_condt; exact rfl; (exact (rfl : true = true))))
  (refine fin2 rfl (by exact rfl) (by exact rfl) ?_)
  rw [HC.out, if_pos h1]
 ·repeat (first | apply ef_seq | (apply ef_mv; exact rfl; exact rfl) | (apply ef_bin; (iterate 3 exact rfl); (exact cmp_f rfl (by simp only [cmpP]; omega))) | (apply ef_len; exact rfl; exact rfl; (assumption)) | (apply ef_ldp; exact rfl; exact rfl; (exact rfl); exact rfl; (exact rfl); (exact rfl)) | (apply ef_box; (iterate 4 exact rfl)) | (apply ef_mf; exact rfl; (repeat (apply XVs.cons; exact rfl)); exact XVs.nil) | apply ef_nil | apply seqQ.normal | apply ef_skip | (apply ef_condf; exact rfl; (exact (rfl : false = false))))
  (apply ef_call; (· exact rfl); (· ((repeat (apply XVs.cons; exact rfl)); exact XVs.nil)); · exact eachTg_c (k + 4) 100 [.rp (.sl (l.map encTg)) 0] (fun i x => tgE ((l.take i).map Tg.nm) x) l _ (v := .sl (l.map encTg)) (by omega) (by simp [ltL, MV.lt, ltL_Tg]) (fun i hi h => CI1_c k l i hi l[i] h (by omega) (hn _ (List.getElem_mem hi))) (frz_sl (ltL_Tg 0 l)) (by simp [frz, MV.lt, ltL, ltL_Tg]))
  repeat (first | (apply ef_mv; exact rfl; exact rfl) | (apply ef_ext; (iterate 3 exact rfl)) | apply ef_nil | apply seqQ.normal | apply ef_ret)
  (refine fin2 rfl (by exact rfl) (by exact rfl) ?_)
  rw [HC.out, if_neg h1]
def bdgE (l : List Tg) (B : Int) : Int := firstE [(itmE l).2, unl (inB B 0 1000000) 2]
theorem mf_budgetErr : MT.mf 107 = some mfW_l107 := mfW_q107
theorem budgetErr_c (k : Nat) (l : List Tg) (B : Int) (h : MHeap) {v : MV} (hx : l.length ≤ 100) (hn : ∀ z ∈ l, z.nm.size ≤ 1000) (hv : frz 0 [] h 8 v = some (.sl (l.map encTg))) {e : Int} (he : bdgE l B = e) : orA (k + 7) 107 [v, I64 B] h = some (I64 e, h) := by
 refine callL (args' := [.sl (l.map encTg), I64 B]) (by simp [List.mapM_cons, hv, frz_lt (m := I64 B) rfl]) rfl (runZ_of mf_budgetErr (by simp) ?_)
 simp only [argsL]
 have h1 := fun h => CheckItems_c k l h (v := .sl (l.map encTg)) hx hn (frz_sl (ltL_Tg 0 l))
 unfold bdgE at he
 repeat (first | apply ef_seq | (apply ef_mv; exact rfl; exact rfl) | (apply ef_ext; (iterate 3 exact rfl)) | (apply ef_bsl; exact rfl; (repeat (apply XVs.cons; exact rfl)); exact XVs.nil; exact rfl) | apply ef_nil | apply seqQ.normal | apply ef_ret | (apply ef_call; exact rfl; ((repeat (apply XVs.cons; exact rfl)); exact XVs.nil); (with_reducible first | exact h1 _ | exact within_c (k + 5) _ _ _ _ rfl | exact unless_c (k + 5) _ _ _ rfl)) | (apply ef_call; exact rfl; ((repeat (apply XVs.cons; exact rfl)); exact XVs.nil); (with_reducible apply first2_c); (iterate 3 exact rfl); (assumption)))
 (refine fin1 rfl (by exact rfl) rfl ?_)
 rfl
theorem mf_HasText : MT.mf 111 = some ⟨18, [(.tmp 4)], (.seq (.reg [gO 4 (.mv cF)]) (.seq (.seq (.reg [gO 5 (.mv (cI 0))]) (.block 0 (.loop [5, 0, 1] (.seq (.seq (.reg [gO 6 (.mv (.s 5)), gO 7 (.mv (.s 0)), gO 8 (.len (.s 7)), gO 9 (.bin .lss (.s 6) (.s 8))]) (.cond (.s 9) .skip (.exit 0))) (.seq (.block 1 (.seq (.reg [gO 12 (.mv (.s 0)), gO 13 (.mv (.s 5)), gO 14 (.ia 1 (.s 12) (.s 13)), gO 15 (.ld none (.s 14)), gO 16 (.mv (.s 1)), gO 17 (.seq false (.s 15) (.s 16))]) (.cond (.s 17) (.seq (.reg [gO 4 (.mv cT)]) .ret) .skip))) (.reg [gO 10 (.mv (.s 5)), gO 11 (.bin .add (.s 10) (cI 1)), gO 5 (.mv (.s 11))])))))) (.seq (.reg [gO 4 (.mv cF)]) .ret)))⟩ := by kernel_rfl
theorem HasText_z (k : Nat) (zs : List ByteArray) (s : ByteArray) (hx : zs.length ≤ 1000) : runZ MT (orA k) (itA k) 4000000 111 [.sl (zs.map encSt), encSt s] [] = some (Bo (zs.any fun o => o == s), []) := by
 have hl : (MV.sl (zs.map encSt)).slen = some zs.length := by simp [MV.slen]
 refine runZ_of mf_HasText (by simp) ?_
 simp only [argsL]
 repeat (first | apply ef_seq | (apply ef_mv; exact rfl; exact rfl) | apply ef_nil | apply seqQ.normal | apply ef_block)
 refine ef_loopf (α := Nat) (fun i => i ≤ zs.length ∧ (zs.any fun o => o == s) = ((zs.drop i).any fun o => o == s)) (fun i => [(5, I64 (i : Int))]) [(0, .sl (zs.map encSt)), (1, encSt s)] (fun _ => []) (fun i => zs.length - i) 0 [5] (fun _ => rfl) (by ((repeat (refine Hold.cons (by exact rfl) ?_)); exact Hold.nil)) (by ((repeat (refine Hold.cons (by exact rfl) ?_)); exact Hold.nil)) rfl rfl ⟨by omega, rfl⟩ (by simp; omega) ?_
 rintro i ⟨hi, hz⟩
 by_cases hlt : i < zs.length
 ·have e1 := at_map encSt zs i hlt
  have HD := Lib.hid (drop_at zs i hlt)
  have HZ := Lib.hid hz
  clear hz
  generalize zs[i] = c at e1 HD
  obtain ⟨t, ht⟩ : ∃ t, (c == s) = t := ⟨_, rfl⟩
  have HT := Lib.hid ht
  cases t
  ·have hcond : negIf false (c == s) = false := by rw [ht]; rfl
   repeat (first | apply ef_seq | (apply ef_mv; exact rfl; exact rfl) | (apply ef_bin; (iterate 3 exact rfl); (first | exact cmp_t rfl (by first | exact rfl | (simp only [cmpP]; omega)) | ((with_reducible refine bin_add (wrap_of ?_ ?_)) <;> omega))) | (apply ef_len; exact rfl; exact rfl; (assumption)) | (apply ef_ldr; exact rfl; exact rfl; (exact rfl)) | (apply ef_ias; (iterate 3 exact rfl); (omega); assumption; exact rfl) | (apply ef_sq; (iterate 3 exact rfl)) | apply ef_nil | apply seqQ.normal | apply blockQ.normal | apply ef_block | apply ef_skip | (apply ef_condt; exact rfl; (exact (rfl : true = true))) | (apply ef_condf; exact rfl; (assumption)))
   (first | (apply ef_condf; exact rfl; exact hcond) | skip)
   repeat (fail)
   (refine loopQ.normal _ _ ⟨i + 1, ⟨hlt, by rw [HZ.out, HD.out, List.any_cons, HT.out, Bool.false_or]⟩, (by first | (simp only; omega) | omega), ⟨by ((repeat (refine Hold.cons (by exact rfl) ?_)); exact Hold.nil), by ((repeat (refine Hold.cons (by exact rfl) ?_)); exact Hold.nil)⟩, .inl (Nat.le_refl _), (by first | exact List.take_length | exact rfl | exact takeF rfl rfl)⟩)
  ·have hcond : negIf false (c == s) = true := by rw [ht]; rfl
   repeat (first | apply ef_seq | (apply ef_mv; exact rfl; exact rfl) | (apply ef_bin; (iterate 3 exact rfl); (exact cmp_t rfl (by first | exact rfl | (simp only [cmpP]; omega)))) | (apply ef_len; exact rfl; exact rfl; (assumption)) | (apply ef_ldr; exact rfl; exact rfl; (exact rfl)) | (apply ef_ias; (iterate 3 exact rfl); (omega); assumption; exact rfl) | (apply ef_sq; (iterate 3 exact rfl)) | apply ef_nil | apply seqQ.normal | apply loopQ.ret | apply ef_ret | apply seqQ.ret | apply blockQ.ret | apply ef_block | apply ef_skip | (apply ef_condt; exact rfl; (first | exact (rfl : true = true) | assumption)))
   (first | (apply ef_condt; exact rfl; exact hcond) | skip)
   repeat (fail)
   (refine fin1 rfl (by exact rfl) rfl ?_)
   rw [HZ.out, HD.out, List.any_cons, HT.out, Bool.true_or]
 ·repeat (first | apply ef_seq | (apply ef_mv; exact rfl; exact rfl) | (apply ef_bin; (iterate 3 exact rfl); (exact cmp_f rfl (by simp only [cmpP]; omega))) | (apply ef_len; exact rfl; exact rfl; (assumption)) | apply ef_nil | apply seqQ.normal | apply loopQ.exit | apply ef_ret | apply ef_exit | apply seqQ.exit | apply blockQ.here | (apply ef_condf; exact rfl; (exact (rfl : false = false))))
  (refine fin1 rfl (by exact rfl) rfl ?_)
  rw [hz, List.drop_eq_nil_of_le (by omega)]; rfl
theorem HasText_c (k : Nat) (zs : List ByteArray) (s : ByteArray) (h : MHeap) {v : MV} (hx : zs.length ≤ 1000) (hv : frz 0 [] h 8 v = some (.sl (zs.map encSt))) {t : Bool} (ht : (zs.any fun o => o == s) = t) : orA (k + 1) 111 [v, encSt s] h = some (Bo t, h) := by
 subst ht
 exact callL (args' := [.sl (zs.map encSt), encSt s]) (by simp [List.mapM_cons, hv, frz_lt (m := encSt s) rfl]) rfl (HasText_z k zs s hx)
theorem mf_rCheckItems : MT.mf 21 = some ⟨56, [(.tmp 2), (.tmp 3)], (.seq (.reg [gO 2 (.mv (cI 0)), gO 3 (.mv (cI 0))]) (.seq (.seq (.reg [gO 6 (.mv (.s 0)), gO 7 (.len (.s 6)), gO 8 (.bin .gtr (.s 7) (cI 12))]) (.cond (.s 8) (.seq (.reg [gO 2 (.mv (cI 0)), gO 3 (.mv (cI 8))]) .ret) .skip)) (.seq (.reg [gO 4 (.nil0 1)]) (.seq (.seq (.reg [gO 5 (.mv (cI 0))]) (.block 0 (.loop [5, 0, 4] (.seq (.seq (.reg [gO 9 (.mv (.s 5)), gO 10 (.mv (.s 0)), gO 11 (.len (.s 10)), gO 12 (.bin .lss (.s 9) (.s 11))]) (.cond (.s 12) .skip (.exit 0))) (.seq (.block 1 (.seq (.seq (.reg [gO 15 (.mv (.s 0)), gO 16 (.mv (.s 5)), gO 17 (.ia 3 (.s 15) (.s 16)), gO 18 (.fa 0 (.s 17)), gO 19 (.ld none (.s 18)), gO 20 (.call 110 [.s 19]), gO 21 (.un .not (.s 20))]) (.cond (.s 21) (.seq (.reg [gO 22 (.mv (.s 5)), gO 2 (.mv (.s 22)), gO 3 (.mv (cI 4))]) .ret) .skip)) (.seq (.seq (.reg [gO 23 (.mv (.s 4)), gO 24 (.mv (.s 0)), gO 25 (.mv (.s 5)), gO 26 (.ia 3 (.s 24) (.s 25)), gO 27 (.fa 0 (.s 26)), gO 28 (.ld none (.s 27)), gO 29 (.call 111 [.s 23, .s 28])]) (.cond (.s 29) (.seq (.reg [gO 30 (.mv (.s 5)), gO 2 (.mv (.s 30)), gO 3 (.mv (cI 5))]) .ret) .skip)) (.seq (.seq (.reg [gO 31 (.mv (.s 0)), gO 32 (.mv (.s 5)), gO 33 (.ia 3 (.s 31) (.s 32)), gO 34 (.fa 1 (.s 33)), gO 35 (.ld none (.s 34)), gO 36 (.call 53 [.s 35, (cI 1), (cI 1000000)]), gO 37 (.un .not (.s 36)), gO 38 (.mv (.s 37)), ⟨some (38, false), some 39, .mv (.s 0)⟩, ⟨some (38, false), some 40, .mv (.s 5)⟩, ⟨some (38, false), some 41, .ia 3 (.s 39) (.s 40)⟩, ⟨some (38, false), some 42, .fa 2 (.s 41)⟩, ⟨some (38, false), some 43, .ld none (.s 42)⟩, ⟨some (38, false), some 44, .call 53 [.s 43, (cI 0), (cI 1000000)]⟩, ⟨some (38, false), some 45, .un .not (.s 44)⟩, gO 46 (.pick (.s 38) cT (.s 45))]) (.cond (.s 46) (.seq (.reg [gO 47 (.mv (.s 5)), gO 2 (.mv (.s 47)), gO 3 (.mv (cI 2))]) .ret) .skip)) (.reg [gO 48 (.mv (.s 4)), gO 49 (.mv (.s 0)), gO 50 (.mv (.s 5)), gO 51 (.ia 3 (.s 49) (.s 50)), gO 52 (.fa 0 (.s 51)), gO 53 (.ld none (.s 52)), gO 54 (.bsl (.lit (.string ⟨#[]⟩)) 1 1 [(0, (.s 53))]), gO 55 (.app 1 (.s 48) (.s 54)), gO 4 (.mv (.s 55))]))))) (.reg [gO 13 (.mv (.s 5)), gO 14 (.bin .add (.s 13) (cI 1)), gO 5 (.mv (.s 14))])))))) (.seq (.reg [gO 2 (.mv (cI 0)), gO 3 (.mv (cI 0))]) .ret)))))⟩ := by kernel_rfl
set_option maxHeartbeats 1000000 in
theorem rCheckItems_c (k : Nat) (l : List Tg) (h : MHeap) {v : MV} (hx : (l.length : Int) ≤ 9223372036854775807) (hn : ∀ z ∈ l, z.nm.size ≤ 1000) (hv : frz 0 [] h 8 v = some (.sl (l.map encTg))) : orA (k + 2) 21 [v] h = some (outD2 (itmE l), h) := by
 have hs : (MV.sl (l.map encTg)).slen = some l.length := by simp [MV.slen]
 refine callTT (args' := [.sl (l.map encTg)]) (by simp [List.mapM_cons, hv]) rfl (runZ_of mf_rCheckItems (by simp) ?_)
 simp only [argsL]
 have HC := Lib.hid (show itmE l = if 12 < l.length then (0, 8) else firT l 0 l from rfl)
 by_cases h1 : 12 < l.length
 ·repeat (first | apply ef_seq | (apply ef_mv; exact rfl; exact rfl) | (apply ef_bin; (iterate 3 exact rfl); (exact cmp_t rfl (by first | exact rfl | (simp only [cmpP]; omega)))) | (apply ef_len; exact rfl; exact rfl; (assumption)) | apply ef_nil | apply seqQ.normal | apply ef_ret | apply seqQ.ret | (apply ef_condt; exact rfl; (exact (rfl : true = true))))
  (refine fin2 rfl (by exact rfl) (by exact rfl) ?_)
  rw [HC.out, if_pos h1]
 ·repeat (first | apply ef_seq | (apply ef_mv; exact rfl; exact rfl) | (apply ef_bin; (iterate 3 exact rfl); (exact cmp_f rfl (by simp only [cmpP]; omega))) | (apply ef_len; exact rfl; exact rfl; (assumption)) | (apply ef_nil0; exact rfl) | apply ef_nil | apply seqQ.normal | apply ef_block | apply ef_skip | (apply ef_condf; exact rfl; (exact (rfl : false = false))))
  refine ef_loopf (α := Nat × List MV) (fun p => p.1 ≤ l.length ∧ firT l 0 l = firT l p.1 (l.drop p.1) ∧ p.2 = ((l.take p.1).map Tg.nm).map encSt) (fun p => [(5, I64 (p.1 : Int)), (4, .arr 0 0 p.1 p.1)]) [(0, .sl (l.map encTg))] (fun p => [⟨p.1, decide (p.1 = 0), 1, p.2⟩]) (fun p => l.length - p.1) (0, []) [5, 4] (fun _ => rfl) (by ((repeat (refine Hold.cons (by exact rfl) ?_)); exact Hold.nil)) (by ((repeat (refine Hold.cons (by exact rfl) ?_)); exact Hold.nil)) rfl rfl ⟨by omega, rfl, rfl⟩ (by simp; omega) ?_
  rintro ⟨i, rs⟩ ⟨hi, hz, hrs⟩
  try simp only at hi hz hrs ⊢
  by_cases hlt : i < l.length
  ·have e1 := at_map encTg l i hlt
   have HD := Lib.hid (drop_at l i hlt)
   have HZ := Lib.hid hz
   have hsz := hn l[i] (List.getElem_mem hlt)
   have hnext : ((l.take (i + 1)).map Tg.nm).map encSt = ((l.take i).map Tg.nm).map encSt ++ [encSt l[i].nm] := by
    rw [List.take_succ_eq_append_getElem hlt, List.map_append, List.map_append]; rfl
   have hrl : rs.length = i := by rw [hrs, List.length_map, List.length_map, List.length_take]; omega
   have hlr : ∀ j, ltL j rs = true := fun j => by rw [hrs]; exact ltL_St j _
   clear hz
   generalize l[i] = c at e1 HD hsz hnext
   have hN := Lib.hid hnext
   have hb := fun h => bIsName_c k c.nm h hsz rfl
   have hh := fun T h (q : frz 0 [] h 8 (.arr 0 0 i i) = some (.sl (((l.take i).map Tg.nm).map encSt))) (ht : (((l.take i).map Tg.nm).any fun o => o == c.nm) = T) => HasText_c k ((l.take i).map Tg.nm) c.nm h (v := .arr 0 0 i i) (by rw [List.length_map, List.length_take]; omega) q ht
   have hfz : frz 0 [] [⟨i, decide (i = 0), 1, rs⟩] 8 (.arr 0 0 i i) = some (.sl (((l.take i).map Tg.nm).map encSt)) := by
    rw [← hrs]
    exact frz_row (o := ⟨i, decide (i = 0), 1, rs⟩) rfl rfl hrl.symm (hlr 0) rfl
   have HE := Lib.hid (show tgE ((l.take i).map Tg.nm) c = if nameUB c.nm then (if ((l.take i).map Tg.nm).any (fun o => o == c.nm) then 5 else if inB c.c 1 1000000 && inB c.s 0 1000000 then 0 else 2) else 4 from rfl)
   have hrs := Lib.hid hrs
   clear hnext
   cases a1 : nameUB c.nm <;> rw [a1] at hb HE
   ·repeat (first | apply ef_seq | (apply ef_mv; exact rfl; exact rfl) | (apply ef_bin; (iterate 3 exact rfl); (exact cmp_t rfl (by first | exact rfl | (simp only [cmpP]; omega)))) | (apply ef_len; exact rfl; exact rfl; (assumption)) | (apply ef_ldr; exact rfl; exact rfl; (exact rfl)) | (apply ef_ias; (iterate 3 exact rfl); (omega); assumption; exact rfl) | (apply ef_far; exact rfl; exact rfl) | (apply ef_notF; exact rfl; exact rfl) | apply ef_nil | apply seqQ.normal | apply loopQ.ret | apply ef_ret | apply seqQ.ret | apply blockQ.ret | apply ef_block | apply ef_skip | (apply ef_condt; exact rfl; (exact (rfl : true = true))) | (apply ef_call; exact rfl; ((repeat (apply XVs.cons; exact rfl)); exact XVs.nil); (with_reducible exact hb _)))
    (refine fin2 rfl (by exact rfl) (by exact rfl) ?_)
    rw [HC.out, if_neg h1, HZ.out, HD.out, firT, HE.out]; rfl
   ·cases a2 : ((l.take i).map Tg.nm).any (fun o => o == c.nm) <;> rw [a2] at HE
    ·have hh2 := hh false _ hfz a2
     clear hh
     cases a3 : inB c.c 1 1000000 <;> rw [a3] at HE
     ·repeat (first | apply ef_seq | (apply ef_mv; exact rfl; exact rfl) | (apply ef_bin; (iterate 3 exact rfl); (exact cmp_t rfl (by first | exact rfl | (simp only [cmpP]; omega)))) | (apply ef_gn; exact rfl; (exact (rfl : true = true)); exact rfl) | (apply ef_pick; (iterate 3 exact rfl)) | (apply ef_len; exact rfl; exact rfl; (assumption)) | (apply ef_ldr; exact rfl; exact rfl; (exact rfl)) | (apply ef_ias; (iterate 3 exact rfl); (omega); assumption; exact rfl) | (apply ef_far; exact rfl; exact rfl) | (apply ef_notT; exact rfl; exact rfl) | (apply ef_notF; exact rfl; exact rfl) | apply ef_nil | apply seqQ.normal | apply loopQ.ret | apply ef_ret | apply seqQ.ret | apply blockQ.ret | apply ef_block | apply ef_skip | (apply ef_condt; exact rfl; (exact (rfl : true = true))) | (apply ef_condf; exact rfl; (exact (rfl : false = false))) | (apply ef_call; exact rfl; ((repeat (apply XVs.cons; exact rfl)); exact XVs.nil); (with_reducible first | exact hb _ | exact hh2 | exact Within_c k _ _ _ _ a3)))
      (refine fin2 rfl (by exact rfl) (by exact rfl) ?_)
      rw [HC.out, if_neg h1, HZ.out, HD.out, firT, HE.out]; rfl
     ·cases a4 : inB c.s 0 1000000 <;> rw [a4] at HE
      ·repeat (first | apply ef_seq | (apply ef_mv; exact rfl; exact rfl) | (apply ef_bin; (iterate 3 exact rfl); (exact cmp_t rfl (by first | exact rfl | (simp only [cmpP]; omega)))) | (apply ef_gy; exact rfl; (exact (rfl : false = false))) | (apply ef_pick; (iterate 3 exact rfl)) | (apply ef_len; exact rfl; exact rfl; (assumption)) | (apply ef_ldr; exact rfl; exact rfl; (exact rfl)) | (apply ef_ias; (iterate 3 exact rfl); (omega); assumption; exact rfl) | (apply ef_far; exact rfl; exact rfl) | (apply ef_notT; exact rfl; exact rfl) | (apply ef_notF; exact rfl; exact rfl) | apply ef_nil | apply seqQ.normal | apply loopQ.ret | apply ef_ret | apply seqQ.ret | apply blockQ.ret | apply ef_block | apply ef_skip | (apply ef_condt; exact rfl; (exact (rfl : true = true))) | (apply ef_condf; exact rfl; (exact (rfl : false = false))) | (apply ef_call; exact rfl; ((repeat (apply XVs.cons; exact rfl)); exact XVs.nil); (with_reducible first | exact hb _ | exact hh2 | exact Within_c k _ _ _ _ a3 | exact Within_c k _ _ _ _ a4)))
       (refine fin2 rfl (by exact rfl) (by exact rfl) ?_)
       rw [HC.out, if_neg h1, HZ.out, HD.out, firT, HE.out]; rfl
      ·repeat (first | apply ef_seq | (apply ef_mv; exact rfl; exact rfl) | (apply ef_bin; (iterate 3 exact rfl); (exact cmp_t rfl (by first | exact rfl | (simp only [cmpP]; omega)))) | (apply ef_gy; exact rfl; (exact (rfl : false = false))) | (apply ef_pick; (iterate 3 exact rfl)) | (apply ef_len; exact rfl; exact rfl; (assumption)) | (apply ef_ldr; exact rfl; exact rfl; (exact rfl)) | (apply ef_ias; (iterate 3 exact rfl); (omega); assumption; exact rfl) | (apply ef_far; exact rfl; exact rfl) | (apply ef_notT; exact rfl; exact rfl) | (apply ef_bsl; exact rfl; (repeat (apply XVs.cons; exact rfl)); exact XVs.nil; exact rfl) | apply ef_nil | apply seqQ.normal | apply ef_block | apply ef_skip | (apply ef_condt; exact rfl; (exact (rfl : true = true))) | (apply ef_condf; exact rfl; (exact (rfl : false = false))) | (apply ef_call; exact rfl; ((repeat (apply XVs.cons; exact rfl)); exact XVs.nil); (with_reducible first | exact hb _ | exact hh2 | exact Within_c k _ _ _ _ a3 | exact Within_c k _ _ _ _ a4)))
       (apply ef_app; (· exact rfl); (· exact rfl); (· exact rfl); (· exact rfl); (· exact rfl); (· exact rfl); (· (simp [hrl])); (· exact rfl); (· (simp [hrl]; omega)); (· (exact rfl)); (· exact rfl))
       repeat (first | (apply ef_mv; exact rfl; exact rfl) | (apply ef_bin; (iterate 3 exact rfl); (((with_reducible refine bin_add (wrap_of ?_ ?_)) <;> omega))) | apply ef_nil | apply seqQ.normal | apply blockQ.normal)
       (refine loopQ.normal _ _ ⟨(i + 1, rs ++ [encSt c.nm]), ⟨hlt, by rw [HZ.out, HD.out, firT, HE.out]; rfl, by simp only; rw [hN.out, hrs.out]⟩, (by show l.length - (i + 1) < l.length - i; omega), ⟨by ((repeat (refine Hold.cons (by exact rfl) ?_)); exact Hold.nil), by ((repeat (refine Hold.cons (by exact rfl) ?_)); exact Hold.nil)⟩, .inr ⟨by ((repeat (refine hdl_cons rfl (by first | rfl | (simp [MV.lt, ltL, ltL_Tg, hlr, ltL_app2, splice, MV.cells])) ?_)); exact hdl_nil), by (simp [hltL, ltL, MV.lt, ltL, ltL_Tg, hlr, ltL_app2, splice, MV.cells])⟩, by exact rfl⟩)
    ·have hh2 := hh true _ hfz a2
     clear hh
     repeat (first | apply ef_seq | (apply ef_mv; exact rfl; exact rfl) | (apply ef_bin; (iterate 3 exact rfl); (exact cmp_t rfl (by first | exact rfl | (simp only [cmpP]; omega)))) | (apply ef_len; exact rfl; exact rfl; (assumption)) | (apply ef_ldr; exact rfl; exact rfl; (exact rfl)) | (apply ef_ias; (iterate 3 exact rfl); (omega); assumption; exact rfl) | (apply ef_far; exact rfl; exact rfl) | (apply ef_notT; exact rfl; exact rfl) | apply ef_nil | apply seqQ.normal | apply loopQ.ret | apply ef_ret | apply seqQ.ret | apply blockQ.ret | apply ef_block | apply ef_skip | (apply ef_condt; exact rfl; (exact (rfl : true = true))) | (apply ef_condf; exact rfl; (exact (rfl : false = false))) | (apply ef_call; exact rfl; ((repeat (apply XVs.cons; exact rfl)); exact XVs.nil); (with_reducible first | exact hb _ | exact hh2)))
     (refine fin2 rfl (by exact rfl) (by exact rfl) ?_)
     rw [HC.out, if_neg h1, HZ.out, HD.out, firT, HE.out]; rfl
  ·repeat (first | apply ef_seq | (apply ef_mv; exact rfl; exact rfl) | (apply ef_bin; (iterate 3 exact rfl); (exact cmp_f rfl (by simp only [cmpP]; omega))) | (apply ef_len; exact rfl; exact rfl; (assumption)) | apply ef_nil | apply seqQ.normal | apply loopQ.exit | apply ef_ret | apply ef_exit | apply seqQ.exit | apply blockQ.here | (apply ef_condf; exact rfl; (exact (rfl : false = false))))
   (refine fin2 rfl (by exact rfl) (by exact rfl) ?_)
   rw [HC.out, if_neg h1, hz, List.drop_eq_nil_of_le (by omega)]; rfl
theorem mf_rItemsErr : MT.mf 17 = some ⟨11, [(.tmp 2)], (.seq (.reg [gO 2 (.mv (cI 0))]) (.seq (.reg [gO 6 (.mv (.s 0)), gO 7 (.call 21 [.s 6]), gO 5 (.mv (.s 7)), gO 8 (.ext (.s 5) 0), gO 9 (.ext (.s 5) 1), gO 3 (.mv (.s 8)), gO 4 (.mv (.s 9))]) (.seq (.reg [gO 10 (.mv (.s 4)), gO 2 (.mv (.s 10))]) .ret)))⟩ := by kernel_rfl
theorem rItemsErr_c (k : Nat) (l : List Tg) (h : MHeap) {v : MV} (hx : (l.length : Int) ≤ 9223372036854775807) (hn : ∀ z ∈ l, z.nm.size ≤ 1000) (hv : frz 0 [] h 8 v = some (.sl (l.map encTg))) : orA (k + 3) 17 [v] h = some (I64 (itmE l).2, h) := by
 refine callL (args' := [.sl (l.map encTg)]) (by simp [List.mapM_cons, hv]) rfl (runZ_of mf_rItemsErr (by simp) ?_)
 simp only [argsL]
 repeat (first | apply ef_seq | (apply ef_mv; exact rfl; exact rfl) | (apply ef_ext; (iterate 3 exact rfl)) | apply ef_nil | apply seqQ.normal | apply ef_ret | (apply ef_call; exact rfl; ((repeat (apply XVs.cons; exact rfl)); exact XVs.nil); (with_reducible exact rCheckItems_c k l _ hx hn (frz_sl (ltL_Tg 0 l)))))
 (refine fin1 rfl (by exact rfl) rfl ?_)
 rfl
theorem mf_rBudgetErr : MT.mf 22 = some ⟨14, [(.tmp 4)], (.seq (.reg [gO 4 (.mv (cI 0))]) (.seq (.seq (.reg [gO 6 (.mv (.s 0)), gO 7 (.call 17 [.s 6]), gO 5 (.mv (.s 7))]) (.seq (.reg [gO 8 (.mv (.s 5)), gO 9 (.bin .neq (.s 8) (cI 0))]) (.cond (.s 9) (.seq (.reg [gO 10 (.mv (.s 5)), gO 4 (.mv (.s 10))]) .ret) .skip))) (.seq (.seq (.reg [gO 11 (.mv (.s 1)), gO 12 (.call 53 [.s 11, (cI 0), (cI 1000000)]), gO 13 (.un .not (.s 12))]) (.cond (.s 13) (.seq (.reg [gO 4 (.mv (cI 2))]) .ret) .skip)) (.seq (.reg [gO 4 (.mv (cI 0))]) .ret))))⟩ := by kernel_rfl
theorem rBudgetErr_c (k : Nat) (l : List Tg) (B : Int) (h : MHeap) {v : MV} (hx : (l.length : Int) ≤ 9223372036854775807) (hn : ∀ z ∈ l, z.nm.size ≤ 1000) (hv : frz 0 [] h 8 v = some (.sl (l.map encTg))) {e : Int} (he : bdgE l B = e) : orA (k + 4) 22 [v, I64 B] h = some (I64 e, h) := by
 refine callL (args' := [.sl (l.map encTg), I64 B]) (by simp [List.mapM_cons, hv, frz_lt (m := I64 B) rfl]) rfl (runZ_of mf_rBudgetErr (by simp) ?_)
 simp only [argsL]
 have h1 := fun h => rItemsErr_c k l h (v := .sl (l.map encTg)) hx hn (frz_sl (ltL_Tg 0 l))
 have HE := Lib.hid (show e = if (itmE l).2 = 0 then unl (inB B 0 1000000) 2 else (itmE l).2 by
  rw [← he]; unfold bdgE
  by_cases h0 : (itmE l).2 = 0
  ·rw [h0]; cases inB B 0 1000000 <;> simp [firstE, unl]
  ·simp [firstE, h0])
 clear he
 generalize (itmE l).2 = a at *
 by_cases h0 : a = 0
 ·cases h2 : inB B 0 1000000
  ·repeat (first | apply ef_seq | (apply ef_mv; exact rfl; exact rfl) | (apply ef_bin; (iterate 3 exact rfl); (exact cmp_f rfl (by simp only [cmpP]; omega))) | (apply ef_notF; exact rfl; exact rfl) | apply ef_nil | apply seqQ.normal | apply ef_ret | apply seqQ.ret | apply ef_skip | (apply ef_condt; exact rfl; (exact (rfl : true = true))) | (apply ef_condf; exact rfl; (exact (rfl : false = false))) | (apply ef_call; exact rfl; ((repeat (apply XVs.cons; exact rfl)); exact XVs.nil); (with_reducible first | exact h1 _ | exact Within_c (k + 2) _ _ _ _ h2)))
   (refine fin1 rfl (by exact rfl) rfl ?_)
   rw [HE.out, if_pos h0, h2]; rfl
  ·repeat (first | apply ef_seq | (apply ef_mv; exact rfl; exact rfl) | (apply ef_bin; (iterate 3 exact rfl); (exact cmp_f rfl (by simp only [cmpP]; omega))) | (apply ef_notT; exact rfl; exact rfl) | apply ef_nil | apply seqQ.normal | apply ef_ret | apply ef_skip | (apply ef_condf; exact rfl; (exact (rfl : false = false))) | (apply ef_call; exact rfl; ((repeat (apply XVs.cons; exact rfl)); exact XVs.nil); (with_reducible first | exact h1 _ | exact Within_c (k + 2) _ _ _ _ h2)))
   (refine fin1 rfl (by exact rfl) rfl ?_)
   rw [HE.out, if_pos h0, h2]; rfl
 ·repeat (first | apply ef_seq | (apply ef_mv; exact rfl; exact rfl) | (apply ef_bin; (iterate 3 exact rfl); (exact cmp_t rfl (by first | exact rfl | (simp only [cmpP]; omega)))) | apply ef_nil | apply seqQ.normal | apply ef_ret | apply seqQ.ret | (apply ef_condt; exact rfl; (exact (rfl : true = true))) | (apply ef_call; exact rfl; ((repeat (apply XVs.cons; exact rfl)); exact XVs.nil); (with_reducible exact h1 _)))
  (refine fin1 rfl (by exact rfl) rfl ?_)
  rw [HE.out, if_neg h0]
theorem mf_CopyItems : MT.mf 19 = some ⟨6, [(.tmp 2)], (.seq (.reg [gO 2 (.nil0 3)]) (.seq (.reg [gO 3 (.bsl (.agg [(.lit (.string ⟨#[]⟩)), (.lit (.int .i64 0)), (.lit (.int .i64 0))]) 3 0 []), gO 4 (.mv (.s 0)), gO 5 (.app 3 (.s 3) (.s 4)), gO 2 (.mv (.s 5))]) .ret))⟩ := by kernel_rfl
theorem CopyItems_z (k : Nat) (l : List Tg) (hx : l.length ≤ 1000) : runZ MT (orA k) (itA k) 4000000 19 [.sl (l.map encTg)] [] = some (.arr 0 0 l.length 0, [⟨0, false, 3, l.map encTg⟩]) := by
 refine runZ_of mf_CopyItems (by simp) ?_
 simp only [argsL]
 cases l with
 | nil =>
  repeat (first | apply ef_seq | (apply ef_mv; exact rfl; exact rfl) | (apply ef_nil0; exact rfl) | (apply ef_bsl; exact rfl; (repeat (apply XVs.cons; exact rfl)); exact XVs.nil; exact rfl) | apply ef_nil | apply seqQ.normal)
  (apply ef_app0; (iterate 8 exact rfl))
  repeat (first | (apply ef_mv; exact rfl; exact rfl) | apply ef_nil | apply seqQ.normal | apply ef_ret)
  (apply fin_arr; (· exact rfl); (· exact rfl); (· exact rfl); (· exact rfl); (· (exact Nat.le_refl _)); (· (exact rfl)); (· (exact rfl)); (· exact rfl); (· exact rfl); (· (exact rfl)))
 | cons z zs =>
  have hs : ((z :: zs).map encTg).all (MV.sOk 3) = true := by
   rw [List.all_eq_true]
   intro m hm
   obtain ⟨_, _, rfl⟩ := List.mem_map.1 hm
   rfl
  repeat (first | apply ef_seq | (apply ef_mv; exact rfl; exact rfl) | (apply ef_nil0; exact rfl) | (apply ef_bsl; exact rfl; (repeat (apply XVs.cons; exact rfl)); exact XVs.nil; exact rfl) | apply ef_nil | apply seqQ.normal)
  (apply ef_app; (· exact rfl); (· exact rfl); (· exact rfl); (· exact rfl); (· exact rfl); (· exact rfl); (· exact rfl); (· exact rfl); (· (simp at hx ⊢; omega)); (· exact hs); (· exact rfl))
  repeat (first | (apply ef_mv; exact rfl; exact rfl) | apply ef_nil | apply seqQ.normal | apply ef_ret)
  (apply fin_arr; (· exact rfl); (· exact rfl); (· exact rfl); (· exact rfl); (· simp); (· (exact ltL_Tg 0 (z :: zs))); (· (simp; rw [List.take_of_length_le (by simp)])); (· exact rfl); (· exact rfl); (· (simp)))
theorem CopyItems_c (k : Nat) (l : List Tg) (h : MHeap) (hx : l.length ≤ 1000) : orA (k + 1) 19 [.sl (l.map encTg)] h = some (.arr h.length 0 l.length 0, h ++ [⟨0, false, 3, l.map encTg⟩]) := by
 have := callA (k := k) (h := h) (args := [.sl (l.map encTg)]) (args' := [.sl (l.map encTg)]) (frzL_lt (by simp [ltL, MV.lt, ltL_Tg])) rfl (CopyItems_z k l hx) (by simp [okV, ok1, MV.lt, MV.pure]) (by simp [okH, ltL_Tg, pureL_Tg])
 simpa [shV, sh1] using this
def fewT (l : List Tg) : Bool := decide (l.length ≤ 14) && l.all fun z => decide (z.nm.size ≤ 20)
theorem mf_Few : MT.mf 16 = some ⟨20, [(.tmp 2)], (.seq (.reg [gO 2 (.mv cF)]) (.seq (.seq (.reg [gO 4 (.mv (.s 0)), gO 5 (.len (.s 4)), gO 6 (.bin .gtr (.s 5) (cI 14))]) (.cond (.s 6) (.seq (.reg [gO 2 (.mv cF)]) .ret) .skip)) (.seq (.seq (.reg [gO 3 (.mv (cI 0))]) (.block 0 (.loop [3, 0] (.seq (.seq (.reg [gO 7 (.mv (.s 3)), gO 8 (.mv (.s 0)), gO 9 (.len (.s 8)), gO 10 (.bin .lss (.s 7) (.s 9))]) (.cond (.s 10) .skip (.exit 0))) (.seq (.block 1 (.seq (.reg [gO 13 (.mv (.s 0)), gO 14 (.mv (.s 3)), gO 15 (.ia 3 (.s 13) (.s 14)), gO 16 (.fa 0 (.s 15)), gO 17 (.ld none (.s 16)), gO 18 (.sln (.s 17)), gO 19 (.bin .gtr (.s 18) (cI 20))]) (.cond (.s 19) (.seq (.reg [gO 2 (.mv cF)]) .ret) .skip))) (.reg [gO 11 (.mv (.s 3)), gO 12 (.bin .add (.s 11) (cI 1)), gO 3 (.mv (.s 12))])))))) (.seq (.reg [gO 2 (.mv cT)]) .ret))))⟩ := by kernel_rfl
theorem Few_z (k : Nat) (l : List Tg) (hlen : (l.length : Int) ≤ 9223372036854775807) (hsz : ∀ z ∈ l, (z.nm.size : Int) ≤ 9223372036854775807) : runZ MT (orA k) (itA k) 4000000 16 [.sl (l.map encTg)] [] = some (Bo (fewT l), []) := by
 have hs : (MV.sl (l.map encTg)).slen = some l.length := by simp [MV.slen]
 refine runZ_of mf_Few (by simp) ?_
 simp only [argsL]
 unfold fewT
 by_cases h1 : 14 < l.length
 ·repeat (first | apply ef_seq | (apply ef_mv; exact rfl; exact rfl) | (apply ef_bin; (iterate 3 exact rfl); (exact cmp_t rfl (by first | exact rfl | (simp only [cmpP]; omega)))) | (apply ef_len; exact rfl; exact rfl; (assumption)) | apply ef_nil | apply seqQ.normal | apply ef_ret | apply seqQ.ret | (apply ef_condt; exact rfl; (exact (rfl : true = true))))
  (refine fin1 rfl (by exact rfl) rfl ?_)
  simp; omega
 ·have hd : decide (l.length ≤ 14) = true := decide_eq_true (by omega)
  rw [hd, Bool.true_and]
  repeat (first | apply ef_seq | (apply ef_mv; exact rfl; exact rfl) | (apply ef_bin; (iterate 3 exact rfl); (exact cmp_f rfl (by simp only [cmpP]; omega))) | (apply ef_len; exact rfl; exact rfl; (assumption)) | apply ef_nil | apply seqQ.normal | apply ef_block | apply ef_skip | (apply ef_condf; exact rfl; (exact (rfl : false = false))))
  refine ef_loopf (α := Nat) (fun i => i ≤ l.length ∧ (l.all fun z => decide (z.nm.size ≤ 20)) = ((l.drop i).all fun z => decide (z.nm.size ≤ 20))) (fun i => [(3, I64 (i : Int))]) [(0, .sl (l.map encTg))] (fun _ => []) (fun i => l.length - i) 0 [3] (fun _ => rfl) (by ((repeat (refine Hold.cons (by exact rfl) ?_)); exact Hold.nil)) (by ((repeat (refine Hold.cons (by exact rfl) ?_)); exact Hold.nil)) rfl rfl ⟨by omega, rfl⟩ (by simp; omega) ?_
  rintro i ⟨hi, hz⟩
  by_cases hlt : i < l.length
  ·have e1 := at_map encTg l i hlt
   have HD := Lib.hid (drop_at l i hlt)
   have HZ := Lib.hid hz
   have hc := hsz l[i] (List.getElem_mem hlt)
   clear hz
   generalize l[i] = c at e1 HD hc
   by_cases h2 : 20 < c.nm.size
   ·repeat (first | apply ef_seq | (apply ef_mv; exact rfl; exact rfl) | (apply ef_bin; (iterate 3 exact rfl); (exact cmp_t rfl (by first | exact rfl | (simp only [cmpP]; omega)))) | (apply ef_len; exact rfl; exact rfl; (assumption)) | (apply ef_ldr; exact rfl; exact rfl; (exact rfl)) | (apply ef_ias; (iterate 3 exact rfl); (omega); assumption; exact rfl) | (apply ef_far; exact rfl; exact rfl) | (apply ef_sln; exact rfl; exact rfl) | apply ef_nil | apply seqQ.normal | apply loopQ.ret | apply ef_ret | apply seqQ.ret | apply blockQ.ret | apply ef_block | apply ef_skip | (apply ef_condt; exact rfl; (exact (rfl : true = true))))
    (refine fin1 rfl (by exact rfl) rfl ?_)
    rw [HZ.out, HD.out, List.all_cons, decide_eq_false (by omega)]; rfl
   ·repeat (first | apply ef_seq | (apply ef_mv; exact rfl; exact rfl) | (apply ef_bin; (iterate 3 exact rfl); (first | exact cmp_t rfl (by first | exact rfl | (simp only [cmpP]; omega)) | exact cmp_f rfl (by simp only [cmpP]; omega) | ((with_reducible refine bin_add (wrap_of ?_ ?_)) <;> omega))) | (apply ef_len; exact rfl; exact rfl; (assumption)) | (apply ef_ldr; exact rfl; exact rfl; (exact rfl)) | (apply ef_ias; (iterate 3 exact rfl); (omega); assumption; exact rfl) | (apply ef_far; exact rfl; exact rfl) | (apply ef_sln; exact rfl; exact rfl) | apply ef_nil | apply seqQ.normal | apply blockQ.normal | apply ef_block | apply ef_skip | (apply ef_condt; exact rfl; (exact (rfl : true = true))) | (apply ef_condf; exact rfl; (exact (rfl : false = false))))
    (refine loopQ.normal _ _ ⟨i + 1, ⟨hlt, by rw [HZ.out, HD.out, List.all_cons, decide_eq_true (show c.nm.size ≤ 20 by omega), Bool.true_and]⟩, (by first | (simp only; omega) | omega), ⟨by ((repeat (refine Hold.cons (by exact rfl) ?_)); exact Hold.nil), by ((repeat (refine Hold.cons (by exact rfl) ?_)); exact Hold.nil)⟩, .inl (Nat.le_refl _), (by first | exact List.take_length | exact rfl | exact takeF rfl rfl)⟩)
  ·repeat (first | apply ef_seq | (apply ef_mv; exact rfl; exact rfl) | (apply ef_bin; (iterate 3 exact rfl); (exact cmp_f rfl (by simp only [cmpP]; omega))) | (apply ef_len; exact rfl; exact rfl; (assumption)) | apply ef_nil | apply seqQ.normal | apply loopQ.exit | apply ef_ret | apply ef_exit | apply seqQ.exit | apply blockQ.here | (apply ef_condf; exact rfl; (exact (rfl : false = false))))
   (refine fin1 rfl (by exact rfl) rfl ?_)
   rw [hz, List.drop_eq_nil_of_le (by omega)]; rfl
theorem Few_c (k : Nat) (l : List Tg) (h : MHeap) (hlen : (l.length : Int) ≤ 9223372036854775807) (hsz : ∀ z ∈ l, (z.nm.size : Int) ≤ 9223372036854775807) {t : Bool} (ht : fewT l = t) : orA (k + 1) 16 [.sl (l.map encTg)] h = some (Bo t, h) := by
 subst ht
 exact callL (args' := [.sl (l.map encTg)]) (frzL_lt (by simp [ltL, MV.lt, ltL_Tg])) rfl (Few_z k l hlen hsz)
end Go.Proofs.YtnmgpbihknjdjaaGreatDoor

/- Contracts: sets of targets compared; the document's sets. -/
namespace Go.Proofs.YtnmgpbihknjdjaaGreatDoor
open Go.RowKit
set_option linter.unusedVariables false
abbrev natI (S : List Nat) : List Int := S.map fun i : Nat => (i : Int)
def cmpR : List Nat → List Nat → Int
 | [], [] => 0
 | [], _ :: _ => -1
 | _ :: _, [] => 1
 | a :: l, b :: m => if a < b then -1 else if b < a then 1 else cmpR l m
theorem cmpR_neg : ∀ a b : List Nat, cmpR a b < 0 ↔ befL a b = true
 | [], [] => by simp [cmpR, befL]
 | [], b :: m => by simp [cmpR, befL]
 | a :: l, [] => by simp [cmpR, befL]
 | a :: l, b :: m => by
  have := cmpR_neg l m
  rw [cmpR, befL]
  by_cases h1 : a < b
  ·rw [if_pos h1, if_neg (by omega)]; simp [h1]
  ·by_cases h2 : b < a
   ·rw [if_neg h1, if_pos h2, if_neg (by omega)]; simp [h1]
   ·rw [if_neg h1, if_neg h2, if_pos (by omega)]; exact this
theorem at_nat (S : List Nat) (i : Nat) (h : i < S.length) : ((natI S).map I64)[((i : Nat) : Int).toNat]? = some (I64 (S[i] : Nat)) := by
 rw [Int.toNat_natCast, List.getElem?_map, List.getElem?_map, List.getElem?_eq_getElem h]; rfl
theorem nat_len (S : List Nat) : ((natI S).map I64).length = S.length := by rw [List.length_map, List.length_map]
theorem mf_isNaN : MT.mf 206 = some mfW_l206 := mfW_q206
theorem isNaN_c (k : Nat) (a : Int) (h : MHeap) : orA (k + 1) 206 [I64 a] h = some (Bo false, h) := by
 refine callL (frz_lits [.int .i64 a]) rfl (runZ_of mf_isNaN (by simp) ?_)
 simp only [argsL, List.map_cons, List.map_nil]
 repeat (first | apply ef_seq | (apply ef_mv; exact rfl; exact rfl) | (apply ef_bin; (iterate 3 exact rfl); (exact cmp_f rfl (by simp only [cmpP]; omega))) | apply ef_nil | apply seqQ.normal | apply ef_ret)
 (refine fin1 rfl (by exact rfl) rfl ?_)
 rfl
theorem mf_cmpInt : MT.mf 179 = some mfW_l179 := mfW_q179
theorem cmpInt_c (k : Nat) (a b : Int) (h : MHeap) {v : Int} (hv : (if a < b then -1 else if b < a then 1 else 0) = v) : orA (k + 2) 179 [I64 a, I64 b] h = some (I64 v, h) := by
 subst hv
 refine callL (frz_lits [.int .i64 a, .int .i64 b]) rfl (runZ_of mf_cmpInt (by simp) ?_)
 simp only [argsL, List.map_cons, List.map_nil]
 by_cases h1 : a < b
 ·repeat (first | apply ef_seq | (apply ef_mv; exact rfl; exact rfl) | (apply ef_bin; (iterate 3 exact rfl); (exact cmp_t rfl (by first | exact rfl | (simp only [cmpP]; omega)))) | apply ef_nil | apply seqQ.normal | apply ef_ret | apply seqQ.ret | apply ef_skip | (apply ef_condt; exact rfl; (exact (rfl : true = true))) | (apply ef_condf; exact rfl; (exact (rfl : false = false))) | (apply ef_call; exact rfl; ((repeat (apply XVs.cons; exact rfl)); exact XVs.nil); (with_reducible exact isNaN_c k _ _)))
  (refine fin1 rfl (by exact rfl) rfl ?_)
  rw [if_pos h1]
 ·by_cases h2 : b < a
  ·repeat (first | apply ef_seq | (apply ef_mv; exact rfl; exact rfl) | (apply ef_bin; (iterate 3 exact rfl); (first | exact cmp_t rfl (by first | exact rfl | (simp only [cmpP]; omega)) | exact cmp_f rfl (by simp only [cmpP]; omega))) | apply ef_nil | apply seqQ.normal | apply ef_ret | apply seqQ.ret | apply ef_skip | (apply ef_condt; exact rfl; (exact (rfl : true = true))) | (apply ef_condf; exact rfl; (exact (rfl : false = false))) | (apply ef_call; exact rfl; ((repeat (apply XVs.cons; exact rfl)); exact XVs.nil); (with_reducible exact isNaN_c k _ _)))
   (refine fin1 rfl (by exact rfl) rfl ?_)
   rw [if_neg h1, if_pos h2]
  ·repeat (first | apply ef_seq | (apply ef_mv; exact rfl; exact rfl) | (apply ef_bin; (iterate 3 exact rfl); (exact cmp_f rfl (by simp only [cmpP]; omega))) | apply ef_nil | apply seqQ.normal | apply ef_ret | apply ef_skip | (apply ef_condf; exact rfl; (exact (rfl : false = false))) | (apply ef_call; exact rfl; ((repeat (apply XVs.cons; exact rfl)); exact XVs.nil); (with_reducible exact isNaN_c k _ _)))
   (refine fin1 rfl (by exact rfl) rfl ?_)
   rw [if_neg h1, if_neg h2]
theorem mf_Compare : MT.mf 109 = some mfW_l109 := mfW_q109
theorem Compare_z (k : Nat) (a b : List Nat) (ha : a.length ≤ 1000) (hb : b.length ≤ 1000) : runZ MT (orA (k + 2)) (itA (k + 2)) 4000000 109 [.sl ((natI a).map I64), .sl ((natI b).map I64)] [] = some (I64 (cmpR a b), []) := by
 have l1 : (MV.sl ((natI a).map I64)).slen = some a.length := by simp [MV.slen]
 have l2 : (MV.sl ((natI b).map I64)).slen = some b.length := by simp [MV.slen]
 refine runZ_of mf_Compare (by simp) ?_
 simp only [argsL]
 repeat (first | apply ef_seq | (apply ef_mv; exact rfl; exact rfl) | (apply ef_len; exact rfl; exact rfl; (assumption)) | apply ef_nil | apply seqQ.normal | apply ef_block)
 refine ef_loopf (α := Nat) (fun i => i ≤ a.length ∧ i ≤ b.length ∧ cmpR a b = cmpR (a.drop i) (b.drop i)) (fun i => [(11, I64 (i : Int))]) [(10, I64 (a.length : Int)), (9, .sl ((natI a).map I64)), (1, .sl ((natI b).map I64)), (0, .sl ((natI a).map I64))] (fun _ => []) (fun i => a.length - i) 0 [11] (fun _ => rfl) (by ((repeat (refine Hold.cons (by exact rfl) ?_)); exact Hold.nil)) (by ((repeat (refine Hold.cons (by exact rfl) ?_)); exact Hold.nil)) rfl rfl ⟨by omega, by omega, rfl⟩ (by simp; omega) ?_
 rintro i ⟨hi, hj, hz⟩
 by_cases hlt : i < a.length
 ·have e1 := at_nat a i hlt
  have HD := drop_at a i hlt
  rw [HD] at hz
  by_cases hlb : i < b.length
  ·have e2 := at_nat b i hlb
   have HD2 := drop_at b i hlb
   rw [HD2, cmpR] at hz
   generalize a[i] = x at *
   generalize b[i] = y at *
   have hc := fun h => cmpInt_c k (x : Int) (y : Int) h rfl
   clear HD HD2
   by_cases c1 : x < y
   ·rw [if_pos c1] at hz
    rw [if_pos (by omega)] at hc
    have HZ := Lib.hid hz
    repeat (first | apply ef_seq | (apply ef_mv; exact rfl; exact rfl) | (apply ef_bin; (iterate 3 exact rfl); (first | exact cmp_t rfl (by first | exact rfl | (simp only [cmpP]; omega)) | exact cmp_f rfl (by simp only [cmpP]; omega))) | (apply ef_len; exact rfl; exact rfl; (assumption)) | (apply ef_ldr; exact rfl; exact rfl; (exact rfl)) | (apply ef_ias; (iterate 3 exact rfl); (omega); assumption; exact rfl) | apply ef_nil | apply seqQ.normal | apply loopQ.ret | apply ef_ret | apply seqQ.ret | apply blockQ.ret | apply ef_block | apply ef_skip | (apply ef_condt; exact rfl; (exact (rfl : true = true))) | (apply ef_condf; exact rfl; (exact (rfl : false = false))) | (apply ef_call; exact rfl; ((repeat (apply XVs.cons; exact rfl)); exact XVs.nil); (with_reducible exact hc _)))
    (refine fin1 rfl (by exact rfl) rfl ?_)
    rw [HZ.out]
   ·by_cases c2 : y < x
    ·rw [if_neg c1, if_pos c2] at hz
     rw [if_neg (by omega), if_pos (by omega)] at hc
     have HZ := Lib.hid hz
     repeat (first | apply ef_seq | (apply ef_mv; exact rfl; exact rfl) | (apply ef_bin; (iterate 3 exact rfl); (first | exact cmp_t rfl (by first | exact rfl | (simp only [cmpP]; omega)) | exact cmp_f rfl (by simp only [cmpP]; omega))) | (apply ef_len; exact rfl; exact rfl; (assumption)) | (apply ef_ldr; exact rfl; exact rfl; (exact rfl)) | (apply ef_ias; (iterate 3 exact rfl); (omega); assumption; exact rfl) | apply ef_nil | apply seqQ.normal | apply loopQ.ret | apply ef_ret | apply seqQ.ret | apply blockQ.ret | apply ef_block | apply ef_skip | (apply ef_condt; exact rfl; (exact (rfl : true = true))) | (apply ef_condf; exact rfl; (exact (rfl : false = false))) | (apply ef_call; exact rfl; ((repeat (apply XVs.cons; exact rfl)); exact XVs.nil); (with_reducible exact hc _)))
     (refine fin1 rfl (by exact rfl) rfl ?_)
     rw [HZ.out]
    ·rw [if_neg c1, if_neg c2] at hz
     rw [if_neg (by omega), if_neg (by omega)] at hc
     have HZ := Lib.hid hz
     repeat (first | apply ef_seq | (apply ef_mv; exact rfl; exact rfl) | (apply ef_bin; (iterate 3 exact rfl); (first | exact cmp_t rfl (by first | exact rfl | (simp only [cmpP]; omega)) | exact cmp_f rfl (by simp only [cmpP]; omega) | ((with_reducible refine bin_add (wrap_of ?_ ?_)) <;> omega))) | (apply ef_len; exact rfl; exact rfl; (assumption)) | (apply ef_ldr; exact rfl; exact rfl; (exact rfl)) | (apply ef_ias; (iterate 3 exact rfl); (omega); assumption; exact rfl) | apply ef_nil | apply seqQ.normal | apply blockQ.normal | apply ef_block | apply ef_skip | (apply ef_condt; exact rfl; (exact (rfl : true = true))) | (apply ef_condf; exact rfl; (exact (rfl : false = false))) | (apply ef_call; exact rfl; ((repeat (apply XVs.cons; exact rfl)); exact XVs.nil); (with_reducible exact hc _)))
     (refine loopQ.normal _ _ ⟨i + 1, ⟨hlt, hlb, HZ.out⟩, (by first | (simp only; omega) | omega), ⟨by ((repeat (refine Hold.cons (by exact rfl) ?_)); exact Hold.nil), by ((repeat (refine Hold.cons (by exact rfl) ?_)); exact Hold.nil)⟩, .inl (Nat.le_refl _), (by first | exact List.take_length | exact rfl | exact takeF rfl rfl)⟩)
  ·rw [List.drop_eq_nil_of_le (show b.length ≤ i by omega)] at hz
   have HZ := Lib.hid hz
   repeat (first | apply ef_seq | (apply ef_mv; exact rfl; exact rfl) | (apply ef_bin; (iterate 3 exact rfl); (exact cmp_t rfl (by first | exact rfl | (simp only [cmpP]; omega)))) | (apply ef_len; exact rfl; exact rfl; (assumption)) | (apply ef_ldr; exact rfl; exact rfl; (exact rfl)) | (apply ef_ias; (iterate 3 exact rfl); (omega); assumption; exact rfl) | apply ef_nil | apply seqQ.normal | apply loopQ.ret | apply ef_ret | apply seqQ.ret | apply blockQ.ret | apply ef_block | apply ef_skip | (apply ef_condt; exact rfl; (exact (rfl : true = true))))
   (refine fin1 rfl (by exact rfl) rfl ?_)
   rw [HZ.out]; rfl
 ·rw [List.drop_eq_nil_of_le (show a.length ≤ i by omega)] at hz
  by_cases hlb : i < b.length
  ·rw [drop_at b i hlb] at hz
   have HZ := Lib.hid hz
   repeat (first | apply ef_seq | (apply ef_mv; exact rfl; exact rfl) | (apply ef_bin; (iterate 3 exact rfl); (first | exact cmp_t rfl (by first | exact rfl | (simp only [cmpP]; omega)) | exact cmp_f rfl (by simp only [cmpP]; omega))) | (apply ef_len; exact rfl; exact rfl; (assumption)) | apply ef_nil | apply seqQ.normal | apply loopQ.exit | apply ef_ret | apply seqQ.ret | apply ef_exit | apply seqQ.exit | apply blockQ.here | (apply ef_condt; exact rfl; (exact (rfl : true = true))) | (apply ef_condf; exact rfl; (exact (rfl : false = false))))
   (refine fin1 rfl (by exact rfl) rfl ?_)
   rw [HZ.out]; rfl
  ·rw [List.drop_eq_nil_of_le (show b.length ≤ i by omega)] at hz
   have HZ := Lib.hid hz
   repeat (first | apply ef_seq | (apply ef_mv; exact rfl; exact rfl) | (apply ef_bin; (iterate 3 exact rfl); (exact cmp_f rfl (by simp only [cmpP]; omega))) | (apply ef_len; exact rfl; exact rfl; (assumption)) | apply ef_nil | apply seqQ.normal | apply loopQ.exit | apply ef_ret | apply ef_exit | apply seqQ.exit | apply blockQ.here | apply ef_skip | (apply ef_condf; exact rfl; (exact (rfl : false = false))))
   (refine fin1 rfl (by exact rfl) rfl ?_)
   rw [HZ.out]; rfl
theorem Compare_c (k : Nat) (a b : List Nat) (h : MHeap) {v w : MV} (ha : a.length ≤ 1000) (hb : b.length ≤ 1000) (hv : frz 0 [] h 8 v = some (.sl ((natI a).map I64))) (hw : frz 0 [] h 8 w = some (.sl ((natI b).map I64))) : orA (k + 3) 109 [v, w] h = some (I64 (cmpR a b), h) :=
 callL (args' := [.sl ((natI a).map I64), .sl ((natI b).map I64)]) (by simp [List.mapM_cons, hv, hw]) rfl (Compare_z k a b ha hb)
def OkTg (l : List Tg) : Prop := ∀ x ∈ l, (0 ≤ x.c ∧ x.c ≤ 1000000) ∧ 0 ≤ x.s ∧ x.s ≤ 1000000
theorem at_tg (l : List Tg) {n : Nat} (h : n < l.length) : (l.map encTg)[((n : Nat) : Int).toNat]? = some (encTg (tgI l n)) := by
 rw [Int.toNat_natCast, List.getElem?_map, List.getElem?_eq_getElem h]
 unfold tgI
 rw [List.getD_eq_getElem?_getD, List.getElem?_eq_getElem h]; rfl
theorem tgI_ok {l : List Tg} (ok : OkTg l) {n : Nat} (h : n < l.length) : (0 ≤ (tgI l n).c ∧ (tgI l n).c ≤ 1000000) ∧ 0 ≤ (tgI l n).s ∧ (tgI l n).s ≤ 1000000 := by
 unfold tgI
 rw [List.getD_eq_getElem?_getD, List.getElem?_eq_getElem h]
 exact ok _ (List.getElem_mem h)
theorem mf_rTotals : MT.mf 40 = some ⟨37, [(.tmp 4), (.tmp 5)], (.seq (.reg [gO 4 (.mv (cI 0)), gO 5 (.mv (cI 0))]) (.seq (.reg [gO 6 (.mv (cI 0)), gO 7 (.mv (cI 0))]) (.seq (.seq (.reg [gO 8 (.mv (cI 0))]) (.block 0 (.loop [8, 1, 6, 0, 7] (.seq (.seq (.reg [gO 9 (.mv (.s 8)), gO 10 (.mv (.s 1)), gO 11 (.len (.s 10)), gO 12 (.bin .lss (.s 9) (.s 11))]) (.cond (.s 12) .skip (.exit 0))) (.seq (.block 1 (.reg [gO 15 (.mv (.s 6)), gO 16 (.mv (.s 0)), gO 17 (.mv (.s 1)), gO 18 (.mv (.s 8)), gO 19 (.ia 1 (.s 17) (.s 18)), gO 20 (.ld none (.s 19)), gO 21 (.ia 3 (.s 16) (.s 20)), gO 22 (.fa 1 (.s 21)), gO 23 (.ld none (.s 22)), gO 24 (.bin .add (.s 15) (.s 23)), gO 25 (.mv (.s 7)), gO 26 (.mv (.s 0)), gO 27 (.mv (.s 1)), gO 28 (.mv (.s 8)), gO 29 (.ia 1 (.s 27) (.s 28)), gO 30 (.ld none (.s 29)), gO 31 (.ia 3 (.s 26) (.s 30)), gO 32 (.fa 2 (.s 31)), gO 33 (.ld none (.s 32)), gO 34 (.bin .add (.s 25) (.s 33)), gO 6 (.mv (.s 24)), gO 7 (.mv (.s 34))])) (.reg [gO 13 (.mv (.s 8)), gO 14 (.bin .add (.s 13) (cI 1)), gO 8 (.mv (.s 14))])))))) (.seq (.reg [gO 35 (.mv (.s 6)), gO 36 (.mv (.s 7)), gO 4 (.mv (.s 35)), gO 5 (.mv (.s 36))]) .ret))))⟩ := by kernel_rfl
theorem rTotals_c (k : Nat) (l : List Tg) (S : List Nat) (h : MHeap) {v w : MV} (ok : OkTg l) (hS : ∀ i ∈ S, i < l.length) (hl : S.length ≤ 100) (hv : frz 0 [] h 8 v = some (.sl (l.map encTg))) (hw : frz 0 [] h 8 w = some (.sl ((natI S).map I64))) : orA (k + 1) 40 [v, w] h = some (.tup [I64 (costL l S), I64 (scoreL l S)], h) := by
 have l1 : (MV.sl ((natI S).map I64)).slen = some S.length := by simp [MV.slen]
 refine callTT (args' := [.sl (l.map encTg), .sl ((natI S).map I64)]) (by simp [List.mapM_cons, hv, hw]) rfl (runZ_of mf_rTotals (by simp) ?_)
 simp only [argsL]
 repeat (first | apply ef_seq | (apply ef_mv; exact rfl; exact rfl) | apply ef_nil | apply seqQ.normal | apply ef_block)
 refine ef_loopf (α := Nat × Int × Int) (fun p => p.1 ≤ S.length ∧ (p.2.1 + costL l (S.drop p.1) = costL l S ∧ 0 ≤ p.2.1 ∧ p.2.1 ≤ 1000000 * p.1) ∧ (p.2.2 + scoreL l (S.drop p.1) = scoreL l S ∧ 0 ≤ p.2.2 ∧ p.2.2 ≤ 1000000 * p.1)) (fun p => [(8, I64 (p.1 : Int)), (6, I64 p.2.1), (7, I64 p.2.2)]) [(1, .sl ((natI S).map I64)), (0, .sl (l.map encTg))] (fun _ => []) (fun p => S.length - p.1) (0, 0, 0) [8, 6, 7] (fun _ => rfl) (by ((repeat (refine Hold.cons (by exact rfl) ?_)); exact Hold.nil)) (by ((repeat (refine Hold.cons (by exact rfl) ?_)); exact Hold.nil)) rfl rfl ⟨by omega, ⟨by simp, by simp, by simp⟩, by simp, by simp, by simp⟩ (by simp; omega) ?_
 rintro ⟨i, c, s⟩ ⟨hi, ⟨hc, hc1, hc2⟩, hs, hs1, hs2⟩
 try simp only at hi hc hc1 hc2 hs hs1 hs2 ⊢
 by_cases hlt : i < S.length
 ·have e1 := at_nat S i hlt
  have HD := drop_at S i hlt
  rw [HD, costL] at hc
  rw [HD, scoreL] at hs
  have hm := hS S[i] (List.getElem_mem hlt)
  clear HD
  generalize S[i] = n at *
  have e2 := at_tg l hm
  obtain ⟨⟨b1, b2⟩, b3, b4⟩ := tgI_ok ok hm
  generalize tgI l n = x at *
  repeat (first | apply ef_seq | (apply ef_mv; exact rfl; exact rfl) | (apply ef_bin; (iterate 3 exact rfl); (first | exact cmp_t rfl (by first | exact rfl | (simp only [cmpP]; omega)) | ((with_reducible refine bin_add (wrap_of ?_ ?_)) <;> omega))) | (apply ef_len; exact rfl; exact rfl; (assumption)) | (apply ef_ldr; exact rfl; exact rfl; (exact rfl)) | (apply ef_ias; (iterate 3 exact rfl); (omega); assumption; exact rfl) | (apply ef_far; exact rfl; exact rfl) | apply ef_nil | apply seqQ.normal | apply blockQ.normal | apply ef_block | apply ef_skip | (apply ef_condt; exact rfl; (exact (rfl : true = true))))
  (refine loopQ.normal _ _ ⟨(i + 1, c + x.c, s + x.s), ⟨hlt, ⟨by simp only; omega, by simp only; omega, by simp only; omega⟩, by simp only; omega, by simp only; omega, by simp only; omega⟩, (by show S.length - (i + 1) < S.length - i; omega), ⟨by ((repeat (refine Hold.cons (by exact rfl) ?_)); exact Hold.nil), by ((repeat (refine Hold.cons (by exact rfl) ?_)); exact Hold.nil)⟩, .inl (Nat.le_refl _), (by first | exact List.take_length | exact rfl | exact takeF rfl rfl)⟩)
 ·rw [List.drop_eq_nil_of_le (by omega)] at hc hs
  simp only [costL, scoreL, Int.add_zero] at hc hs
  repeat (first | apply ef_seq | (apply ef_mv; exact rfl; exact rfl) | (apply ef_bin; (iterate 3 exact rfl); (exact cmp_f rfl (by simp only [cmpP]; omega))) | (apply ef_len; exact rfl; exact rfl; (assumption)) | apply ef_nil | apply seqQ.normal | apply loopQ.exit | apply ef_ret | apply ef_exit | apply seqQ.exit | apply blockQ.here | (apply ef_condf; exact rfl; (exact (rfl : false = false))))
  (refine fin2 rfl (by exact rfl) (by exact rfl) ?_)
  rw [hc, hs]
end Go.Proofs.YtnmgpbihknjdjaaGreatDoor

/- Contracts: the best set. -/
namespace Go.Proofs.YtnmgpbihknjdjaaGreatDoor
open Go.RowKit
set_option linter.unusedVariables false
theorem fin_all3 {x : MX2} {A : Sl} {h : MHeap} {t u w id k g : Nat} {o : MObj} {es : List MV} {sz : Nat} {nl : Bool} {a b : Value} (hx : outX x = true) (hv : look A t = some (.arr id 0 k g)) (ha : look A u = some (.lit a)) (hb : look A w = some (.lit b)) (ho : h[id]? = some o) (hg : o.g = g) (hk : k = es.length) (hl : ltL 0 es = true) (he : o.es = es) (hz : o.sz = sz) (hn : o.nl = nl) :
  FinF [.tmp t, .tmp u, .tmp w] (.tup [.arr 0 0 k 0, .lit a, .lit b]) [⟨0, nl, sz, es⟩] x A h := by
 subst hz hn he hk
 refine ⟨hx, [.arr id 0 o.es.length g, .lit a, .lit b], [.arr 0 0 o.es.length 0, .lit a, .lit b], ⟨_, _, rfl, hv, _, _, rfl, ha, _, [], rfl, hb, rfl⟩, ?_, ?_, rfl⟩
 ·simp [impIds]
 ·simp [impIds, expL, ho, hg, hl, frz, MV.lt]
theorem at_endN (M : MHeap) (x : MObj) : (M ++ [x])[M.length]? = some x := by rw [List.getElem?_append_right (Nat.le_refl _)]; simp
theorem at_left {M : MHeap} {x o : MObj} {id : Nat} (h : M[id]? = some o) : (M ++ [x])[id]? = some o := by rw [List.getElem?_append_left (List.getElem?_eq_some_iff.1 h).1, h]
theorem natI_lt (n : Nat) (S : List Nat) : ltL n ((natI S).map I64) = true := ltL_I n _
abbrev setO (S : List Nat) : MObj := ⟨0, decide (S.length = 0), 1, (natI S).map I64⟩
theorem frz_set {M : MHeap} {S : List Nat} {id : Nat} (h : M[id]? = some (setO S)) : frz 0 [] M 8 (.arr id 0 S.length 0) = some (.sl ((natI S).map I64)) :=
 frz_row (o := setO S) h rfl (nat_len S).symm (natI_lt 0 S) rfl
theorem stepB_yes {l : List Tg} {B : Int} {st : List Nat × Int} {S : List Nat} (h1 : costL l S ≤ B) (h2 : st.2 < scoreL l S ∨ scoreL l S = st.2 ∧ befL S st.1 = true) : stepB l B st S = (S, scoreL l S) := by
 unfold stepB; rw [if_pos ⟨h1, h2⟩]
theorem stepB_no1 {l : List Tg} {B : Int} {st : List Nat × Int} {S : List Nat} (h1 : ¬ costL l S ≤ B) : stepB l B st S = st := by
 unfold stepB; rw [if_neg (fun h => h1 h.1)]
theorem stepB_no2 {l : List Tg} {B : Int} {st : List Nat × Int} {S : List Nat} (h1 : ¬ st.2 < scoreL l S) (h2 : ¬ (scoreL l S = st.2 ∧ befL S st.1 = true)) : stepB l B st S = st := by
 unfold stepB; rw [if_neg]
 rintro ⟨_, h | h⟩
 ·exact h1 h
 ·exact h2 h
structure BestM (M : MHeap) (id : Nat) (S : List Nat) (M0 : MHeap) : Prop where
 at_ : M[id]? = some (setO S)
 big : 2 ≤ M.length
 sm : (id < 2 ∧ M = M0) ∨ 2 ≤ id
def nextM (id : Nat) (M : MHeap) (o : MObj) : MHeap := if id < 2 then M else M ++ [o]
theorem BestM.next1 {M M0 : MHeap} {id : Nat} {S : List Nat} {o : MObj} (h : BestM M id S M0) : BestM (nextM id M o) id S M0 := by
 obtain ⟨h1, h2, h3⟩ := h
 unfold nextM
 rcases h3 with ⟨h3, rfl⟩ | h3
 ·rw [if_pos h3]; exact ⟨h1, h2, .inl ⟨h3, rfl⟩⟩
 ·rw [if_neg (by omega)]; exact ⟨at_left h1, by simp; omega, .inr h3⟩
theorem BestM.next2 {M M0 : MHeap} {id : Nat} {S : List Nat} {keep : List Nat} {A : Sl} {t : Nat} {o : MObj} {n : Nat} (h : BestM M id S M0) (hM0 : M0.length = 2) (hcl : hltL 2 M0 = true) (hks : ∀ u ∈ keep, u = t ∨ ∃ v, look A u = some v ∧ v.lt 0 = true) (ht : t ∈ keep) (hA : look A t = some (.arr id 0 n 0)) :
  HeadIs keep 2 A (M ++ [o]) (nextM id M o) := by
 obtain ⟨h1, h2, h3⟩ := h
 unfold nextM
 rcases h3 with ⟨h3, rfl⟩ | h3
 ·rw [if_pos h3]
  have e : (M ++ [o]).take 2 = M := by rw [← hM0, List.take_left' rfl]
  have := HeadIs.cut (keep := keep) (m := 2) (A := A) (h := M ++ [o]) (fun u hu => ?_) (by rw [e]; exact hcl)
  ·rwa [e] at this
  ·rcases hks u hu with rfl | ⟨v, hv, hl⟩
   ·exact ⟨_, hA, by simp only [MV.lt, decide_eq_true_eq]; exact h3⟩
   ·exact ⟨v, hv, MV.lt_le (by omega) v hl⟩
 ·rw [if_neg (by omega)]
  exact .slot t _ ht hA (by simp only [MV.lt, decide_eq_false_iff_not]; omega)
theorem BestM.new1 {M M0 : MHeap} {id : Nat} {S S' : List Nat} (h : BestM M id S M0) : BestM (M ++ [setO S']) M.length S' M0 := by
 have h2 := h.big
 exact ⟨at_endN M _, by simp; omega, .inr h2⟩
theorem BestM.new2 {M M0 : MHeap} {id : Nat} {S : List Nat} {keep : List Nat} {A : Sl} {t : Nat} {o : MObj} {n : Nat} (h : BestM M id S M0) (ht : t ∈ keep) (hA : look A t = some (.arr M.length 0 n 0)) : HeadIs keep 2 A (M ++ [o]) (M ++ [o]) := by
 have h2 := h.big
 exact .slot t _ ht hA (by simp only [MV.lt, decide_eq_false_iff_not]; omega)
end Go.Proofs.YtnmgpbihknjdjaaGreatDoor

/- Contracts: the best set of the program. -/
namespace Go.Proofs.YtnmgpbihknjdjaaGreatDoor
open Go.RowKit
set_option linter.unusedVariables false
theorem mf_BestSet : MT.mf 20 = some mfW_l20 := mfW_q20
set_option maxHeartbeats 4000000 in
theorem BestSet_z (k : Nat) (l : List Tg) (B : Int) (hx : l.length ≤ 12) (hn : ∀ z ∈ l, z.nm.size ≤ 1000) (ok : OkTg l) (he : bdgE l B = 0) (hB : 0 ≤ B) :
  runZ MT (orA (k + 7)) (itA (k + 7)) 4000000 20 [.sl (l.map encTg), I64 B] [] = some (.tup [.arr 0 0 (bestF l B (2 ^ l.length)).1.length 0, I64 (bestF l B (2 ^ l.length)).2, I64 0], [setO (bestF l B (2 ^ l.length)).1]) := by
 have hs : (MV.sl (l.map encTg)).slen = some l.length := by simp [MV.slen]
 refine runZ_of mf_BestSet (by simp) ?_
 simp only [argsL]
 have h1 := fun h => budgetErr_c k l B h (v := .sl (l.map encTg)) (by omega) hn (frz_sl (ltL_Tg 0 l)) he
 have hpw : 2 ^ l.length ≤ 2 ^ 12 := Nat.pow_le_pow_right (by decide) hx
 have hsh := u64_shl (m := l.length) (by omega)
 have hlt := fun S => bestF_mb l B l.length S
 obtain ⟨N, hN⟩ : ∃ N, N = 2 ^ l.length := ⟨_, rfl⟩
 rw [← hN] at hsh hpw hlt ⊢
 have hNm : ∀ Y, Y < N → ∀ i ∈ mbL Y, i < l.length := fun Y hY => mbL_lt (by rw [← hN]; exact hY) (by omega)
 have hNl : ∀ Y, Y < N → (mbL Y).length ≤ 12 := fun Y hY => Nat.le_trans (mbL_len (m := l.length) (by rw [← hN]; exact hY) (by omega)) hx
 clear hN
 repeat (first | apply ef_seq | (apply ef_mv; exact rfl; exact rfl) | (apply ef_bin; (iterate 3 exact rfl); (exact cmp_f rfl (by simp only [cmpP]; omega))) | (apply ef_len; exact rfl; exact rfl; (assumption)) | (apply ef_nil0; exact rfl) | (apply ef_shf; (iterate 3 exact rfl); (assumption)) | apply ef_nil | apply seqQ.normal | apply ef_block | apply ef_skip | (apply ef_condf; exact rfl; (exact (rfl : false = false))) | (apply ef_call; exact rfl; ((repeat (apply XVs.cons; exact rfl)); exact XVs.nil); (with_reducible exact h1 _)))
 refine ef_loopg (α := Nat × (List Nat × Int) × Nat × MHeap) (fun a => (a.1 ≤ N ∧ a.2.1 = bestF l B a.1) ∧ BestM a.2.2.2 a.2.2.1 a.2.1.1 [⟨0, true, 1, []⟩, ⟨0, true, 1, []⟩]) (fun a => [(25, U64 (a.1 : Nat)), (9, I64 a.2.1.2), (8, .arr a.2.2.1 0 a.2.1.1.length 0)]) [(24, U64 (N : Nat)), (0, .sl (l.map encTg)), (1, I64 B)] (fun a => a.2.2.2) (fun a => N - a.1)
  (0, ([], 0), 1, [⟨0, true, 1, []⟩, ⟨0, true, 1, []⟩]) [25, 9, 8] (fun _ => rfl) (by ((repeat (refine Hold.cons (by exact rfl) ?_)); exact Hold.nil)) (by ((repeat (refine Hold.cons (by exact rfl) ?_)); exact Hold.nil)) rfl rfl rfl ⟨⟨by omega, rfl⟩, rfl, by simp, .inl ⟨by decide, rfl⟩⟩ (by simp only; omega) ?_
 rintro ⟨Y, ⟨S, m⟩, id, M⟩ ⟨⟨hY, hst⟩, hM⟩
 try simp only at hY hst hM ⊢
 by_cases hYN : Y < N
 ·have hc1 := fun h => members_c (k + 4) Y (by omega) h
  have hml := hNl Y hYN
  have hmi := hNm Y hYN
  have hbn : bestF l B (Y + 1) = stepB l B (bestF l B Y) (mbL Y) := rfl
  rw [← hst] at hbn
  have hbn := Lib.hid hbn
  have hSl : S.length ≤ 12 := by
   obtain ⟨Z, hZ, hZe⟩ := hlt Y hY
   rw [← hst] at hZe
   simp only at hZe
   rw [hZe]
   exact hNl Z hZ
  have wY : IntKind.u64.wrap ((Y : Int) + 1) = ((Y + 1 : Nat) : Int) := by rw [u64_wrap (by omega) (by omega)]; omega
  have mm : mbI Y = natI (mbL Y) := rfl
  rw [mm] at hc1
  clear hst hlt
  generalize mbL Y = T at *
  have hT2 : (⟨0, decide (T.length = 0), 1, (natI T).map I64⟩ : MObj) = setO T := rfl
  rw [hT2] at hc1
  have hat := at_endN M (setO T)
  have hat8 := at_left (x := setO T) hM.at_
  have hokM : MHeap.ok (M ++ [setO T]) M.length 0 1 = true := ok_of hat rfl rfl
  have hT : (MV.arr M.length 0 T.length 0).slen = some T.length := rfl
  repeat (first | apply ef_seq | (apply ef_mv; exact rfl; exact rfl) | (apply ef_bin; (iterate 3 exact rfl); (exact cmp_t rfl (by first | exact rfl | (simp only [cmpP]; omega)))) | (apply ef_len; exact rfl; exact rfl; (assumption)) | apply ef_nil | apply seqQ.normal | apply ef_block | apply ef_skip | (apply ef_condt; exact rfl; (exact (rfl : true = true))) | (apply ef_call; exact rfl; ((repeat (apply XVs.cons; exact rfl)); exact XVs.nil); (with_reducible exact hc1 _)))
  refine ef_loopf (α := Nat × Int × Int) (fun p => p.1 ≤ T.length ∧ (p.2.1 + costL l (T.drop p.1) = costL l T ∧ 0 ≤ p.2.1 ∧ p.2.1 ≤ 1000000 * p.1) ∧ (p.2.2 + scoreL l (T.drop p.1) = scoreL l T ∧ 0 ≤ p.2.2 ∧ p.2.2 ≤ 1000000 * p.1)) (fun p => [(32, I64 (p.1 : Int)), (12, I64 p.2.1), (13, I64 p.2.2)]) [(31, I64 (T.length : Int)), (30, .arr M.length 0 T.length 0), (0, .sl (l.map encTg)), (1, I64 B), (9, I64 m), (11, .arr M.length 0 T.length 0), (8, .arr id 0 S.length 0), (25, U64 (Y : Nat)), (24, U64 (N : Nat))]
   (fun _ => M ++ [setO T]) (fun p => T.length - p.1) (0, 0, 0) [32, 12, 13] (fun _ => rfl) (by ((repeat (refine Hold.cons (by exact rfl) ?_)); exact Hold.nil)) (by ((repeat (refine Hold.cons (by exact rfl) ?_)); exact Hold.nil)) rfl rfl ⟨by omega, ⟨by simp, by simp, by simp⟩, by simp, by simp, by simp⟩ (by simp; omega) ?_
  rintro ⟨i, c, s⟩ ⟨hi, ⟨hc, hc1', hc2⟩, hs, hs1, hs2⟩
  try simp only at hi hc hc1' hc2 hs hs1 hs2 ⊢
  by_cases hil : i < T.length
  ·have e1 : ((natI T).map I64)[0 + ((i : Nat) : Int).toNat]? = some (I64 (T[i] : Nat)) := by rw [Nat.zero_add]; exact at_nat T i hil
   have HD := drop_at T i hil
   rw [HD, costL] at hc
   rw [HD, scoreL] at hs
   have hm := hmi T[i] (List.getElem_mem hil)
   clear HD
   generalize T[i] = n at *
   have e2 := at_tg l hm
   obtain ⟨⟨b1, b2⟩, b3, b4⟩ := tgI_ok ok hm
   generalize tgI l n = x at *
   repeat (first | apply ef_seq | (apply ef_mv; exact rfl; exact rfl) | (apply ef_bin; (iterate 3 exact rfl); (first | exact cmp_t rfl (by first | exact rfl | (simp only [cmpP]; omega)) | ((with_reducible refine bin_add (wrap_of ?_ ?_)) <;> omega))) | (apply ef_ldr; exact rfl; exact rfl; (exact rfl)) | (apply ef_ldp; exact rfl; exact rfl; (assumption); exact rfl; (assumption); (exact rfl)) | (apply ef_ias; (iterate 3 exact rfl); (omega); assumption; exact rfl) | (apply ef_iaa; (iterate 3 exact rfl); (omega); (omega); (assumption)) | (apply ef_far; exact rfl; exact rfl) | apply ef_nil | apply seqQ.normal | apply blockQ.normal | apply ef_block | apply ef_skip | (apply ef_condt; exact rfl; (exact (rfl : true = true))))
   (refine loopQ.normal _ _ ⟨(i + 1, c + x.c, s + x.s), ⟨hil, ⟨by simp only; omega, by simp only; omega, by simp only; omega⟩, by simp only; omega, by simp only; omega, by simp only; omega⟩, (by show T.length - (i + 1) < T.length - i; omega), ⟨by ((repeat (refine Hold.cons (by exact rfl) ?_)); exact Hold.nil), by ((repeat (refine Hold.cons (by exact rfl) ?_)); exact Hold.nil)⟩, .inl (Nat.le_refl _), (by first | exact List.take_length | exact rfl | exact takeF rfl rfl)⟩)
  ·rw [List.drop_eq_nil_of_le (by omega)] at hc hs
   simp only [costL, scoreL, Int.add_zero] at hc hs
   have hcmp := cmpR_neg T S
   have hco := fun h (q1 : frz 0 [] h 8 (.arr M.length 0 T.length 0) = some (.sl ((natI T).map I64))) (q2 : frz 0 [] h 8 (.arr id 0 S.length 0) = some (.sl ((natI S).map I64))) => Compare_c (k + 4) T S h (v := .arr M.length 0 T.length 0) (w := .arr id 0 S.length 0) (by omega) (by omega) q1 q2
   have hco1 := hco _ (frz_set hat) (frz_set hat8)
   clear hco
   generalize cmpR T S = q at *
   by_cases hcB : c ≤ B
   ·by_cases hsm : m < s
    ·repeat (first | apply ef_seq | (apply ef_mv; exact rfl; exact rfl) | (apply ef_bin; (iterate 3 exact rfl); (first | exact cmp_t rfl (by first | exact rfl | (simp only [cmpP]; omega)) | exact cmp_f rfl (by simp only [cmpP]; omega) | exact rfl)) | (apply ef_gy; exact rfl; (exact (rfl : true = true))) | (apply ef_gn; exact rfl; (exact (rfl : true = true)); exact rfl) | (apply ef_gu; exact rfl; exact rfl) | (apply ef_pick; (iterate 3 exact rfl)) | apply ef_nil | apply seqQ.normal | apply loopQ.exit | apply ef_exit | apply seqQ.exit | apply blockQ.normal | apply blockQ.here | (apply ef_condt; exact rfl; (exact (rfl : true = true))) | (apply ef_condf; exact rfl; (exact (rfl : false = false))))
     rw [wY]
     refine loopQ.normal _ _ ⟨(Y + 1, (T, s), M.length, M ++ [setO T]), ⟨⟨hYN, by simp only; rw [hbn.out, stepB_yes (by omega) (.inl (by simp only; omega)), hs]⟩, hM.new1⟩, by show N - (Y + 1) < N - Y; omega, ⟨by ((repeat (refine Hold.cons (by exact rfl) ?_)); exact Hold.nil), by ((repeat (refine Hold.cons (by exact rfl) ?_)); exact Hold.nil)⟩, hM.new2 (t := 8) (by simp) (by exact rfl)⟩
    ·by_cases hse : s = m
     ·by_cases hq : q < 0
      ·have hbf := hcmp.1 hq
       repeat (first | apply ef_seq | (apply ef_mv; exact rfl; exact rfl) | (apply ef_bin; (iterate 3 exact rfl); (first | exact cmp_t rfl (by first | exact rfl | (simp only [cmpP]; omega)) | exact cmp_f rfl (by simp only [cmpP]; omega) | exact rfl)) | (apply ef_gy; exact rfl; (first | exact (rfl : true = true) | exact (rfl : false = false))) | (apply ef_pick; (iterate 3 exact rfl)) | apply ef_nil | apply seqQ.normal | apply loopQ.exit | apply ef_exit | apply seqQ.exit | apply blockQ.normal | apply blockQ.here | (apply ef_condt; exact rfl; (exact (rfl : true = true))) | (apply ef_condf; exact rfl; (exact (rfl : false = false))) | (apply ef_call; exact rfl; ((repeat (apply XVs.cons; exact rfl)); exact XVs.nil); (with_reducible exact hco1)))
       rw [wY]
       refine loopQ.normal _ _ ⟨(Y + 1, (T, s), M.length, M ++ [setO T]), ⟨⟨hYN, by simp only; rw [hbn.out, stepB_yes (by omega) (.inr ⟨by simp only; omega, hbf⟩), hs]⟩, hM.new1⟩, by show N - (Y + 1) < N - Y; omega, ⟨by ((repeat (refine Hold.cons (by exact rfl) ?_)); exact Hold.nil), by ((repeat (refine Hold.cons (by exact rfl) ?_)); exact Hold.nil)⟩, hM.new2 (t := 8) (by simp) (by exact rfl)⟩
      ·have hbf : ¬ befL T S = true := fun h => hq (hcmp.2 h)
       repeat (first | apply ef_seq | (apply ef_mv; exact rfl; exact rfl) | (apply ef_bin; (iterate 3 exact rfl); (first | exact cmp_t rfl (by first | exact rfl | (simp only [cmpP]; omega)) | exact cmp_f rfl (by simp only [cmpP]; omega) | exact rfl)) | (apply ef_gy; exact rfl; (first | exact (rfl : true = true) | exact (rfl : false = false))) | (apply ef_pick; (iterate 3 exact rfl)) | apply ef_nil | apply seqQ.normal | apply loopQ.exit | apply ef_exit | apply seqQ.exit | apply blockQ.normal | apply blockQ.here | apply ef_skip | (apply ef_condf; exact rfl; (exact (rfl : false = false))) | (apply ef_call; exact rfl; ((repeat (apply XVs.cons; exact rfl)); exact XVs.nil); (with_reducible exact hco1)))
       rw [wY]
       refine loopQ.normal _ _ ⟨(Y + 1, (S, m), id, nextM id M (setO T)), ⟨⟨hYN, by simp only; rw [hbn.out, stepB_no2 (by simp only; omega) (fun h => hbf h.2)]⟩, hM.next1⟩, by show N - (Y + 1) < N - Y; omega, ⟨by ((repeat (refine Hold.cons (by exact rfl) ?_)); exact Hold.nil), by ((repeat (refine Hold.cons (by exact rfl) ?_)); exact Hold.nil)⟩, hM.next2 (t := 8) rfl rfl ?_ (by simp) (by exact rfl)⟩
       intro u hu
       simp only [List.mem_cons, List.not_mem_nil, or_false] at hu
       rcases hu with rfl | rfl | rfl | rfl | rfl | rfl
       all_goals first | exact .inl rfl | exact .inr ⟨_, rfl, rfl⟩ | exact .inr ⟨_, rfl, by simp [MV.lt, ltL_Tg]⟩
     ·repeat (first | apply ef_seq | (apply ef_mv; exact rfl; exact rfl) | (apply ef_bin; (iterate 3 exact rfl); (first | exact cmp_t rfl (by first | exact rfl | (simp only [cmpP]; omega)) | exact cmp_f rfl (by simp only [cmpP]; omega) | exact rfl)) | (apply ef_gy; exact rfl; (first | exact (rfl : true = true) | exact (rfl : false = false))) | (apply ef_gn; exact rfl; (exact (rfl : false = false)); exact rfl) | (apply ef_pick; (iterate 3 exact rfl)) | apply ef_nil | apply seqQ.normal | apply loopQ.exit | apply ef_exit | apply seqQ.exit | apply blockQ.normal | apply blockQ.here | apply ef_skip | (apply ef_condf; exact rfl; (exact (rfl : false = false))))
      rw [wY]
      refine loopQ.normal _ _ ⟨(Y + 1, (S, m), id, nextM id M (setO T)), ⟨⟨hYN, by simp only; rw [hbn.out, stepB_no2 (by simp only; omega) (fun h => hse (by have := h.1; simp only at this; omega))]⟩, hM.next1⟩, by show N - (Y + 1) < N - Y; omega, ⟨by ((repeat (refine Hold.cons (by exact rfl) ?_)); exact Hold.nil), by ((repeat (refine Hold.cons (by exact rfl) ?_)); exact Hold.nil)⟩, hM.next2 (t := 8) rfl rfl ?_ (by simp) (by exact rfl)⟩
      intro u hu
      simp only [List.mem_cons, List.not_mem_nil, or_false] at hu
      rcases hu with rfl | rfl | rfl | rfl | rfl | rfl
      all_goals first | exact .inl rfl | exact .inr ⟨_, rfl, rfl⟩ | exact .inr ⟨_, rfl, by simp [MV.lt, ltL_Tg]⟩
   ·repeat (first | apply ef_seq | (apply ef_mv; exact rfl; exact rfl) | (apply ef_bin; (iterate 3 exact rfl); (first | exact cmp_f rfl (by simp only [cmpP]; omega) | exact rfl)) | (apply ef_gn; exact rfl; (exact (rfl : false = false)); exact rfl) | (apply ef_gu; exact rfl; exact rfl) | (apply ef_pick; (iterate 3 exact rfl)) | apply ef_nil | apply seqQ.normal | apply loopQ.exit | apply ef_exit | apply seqQ.exit | apply blockQ.normal | apply blockQ.here | apply ef_skip | (apply ef_condf; exact rfl; (exact (rfl : false = false))))
    rw [wY]
    refine loopQ.normal _ _ ⟨(Y + 1, (S, m), id, nextM id M (setO T)), ⟨⟨hYN, by simp only; rw [hbn.out, stepB_no1 (by omega)]⟩, hM.next1⟩, by show N - (Y + 1) < N - Y; omega, ⟨by ((repeat (refine Hold.cons (by exact rfl) ?_)); exact Hold.nil), by ((repeat (refine Hold.cons (by exact rfl) ?_)); exact Hold.nil)⟩, hM.next2 (t := 8) rfl rfl ?_ (by simp) (by exact rfl)⟩
    intro u hu
    simp only [List.mem_cons, List.not_mem_nil, or_false] at hu
    rcases hu with rfl | rfl | rfl | rfl | rfl | rfl
    all_goals first | exact .inl rfl | exact .inr ⟨_, rfl, rfl⟩ | exact .inr ⟨_, rfl, by simp [MV.lt, ltL_Tg]⟩
 ·have hYe : Y = N := by omega
  subst hYe
  rw [← hst]
  have hat := hM.at_
  repeat (first | apply ef_seq | (apply ef_mv; exact rfl; exact rfl) | (apply ef_bin; (iterate 3 exact rfl); (exact cmp_f rfl (by simp only [cmpP]; omega))) | apply ef_nil | apply seqQ.normal | apply loopQ.exit | apply ef_ret | apply ef_exit | apply seqQ.exit | apply blockQ.here | (apply ef_condf; exact rfl; (exact (rfl : false = false))))
  (apply fin_all3; (· exact rfl); (· exact rfl); (· exact rfl); (· exact rfl); (· exact hat); (· exact rfl); (· exact (nat_len S).symm); (· exact natI_lt 0 S); (· exact rfl); (· exact rfl); (· exact rfl))
theorem BestSet_c (k : Nat) (l : List Tg) (B : Int) (h : MHeap) {v : MV} (hx : l.length ≤ 12) (hn : ∀ z ∈ l, z.nm.size ≤ 1000) (ok : OkTg l) (hv : frz 0 [] h 8 v = some (.sl (l.map encTg))) (he : bdgE l B = 0) (hB : 0 ≤ B) :
  orA (k + 8) 20 [v, I64 B] h = some (.tup [.arr h.length 0 (bestF l B (2 ^ l.length)).1.length 0, I64 (bestF l B (2 ^ l.length)).2, I64 0], h ++ [setO (bestF l B (2 ^ l.length)).1]) := by
 have := callA (k := k + 7) (h := h) (args := [v, I64 B]) (args' := [.sl (l.map encTg), I64 B]) (by simp [List.mapM_cons, hv, frz_lt (m := I64 B) rfl]) rfl (BestSet_z k l B hx hn ok he hB) (by simp [okV, ok1, MV.lt, MV.pure]) (by simp [okH, natI_lt, pureL_I, -List.map_map])
 simpa [shV, sh1] using this
end Go.Proofs.YtnmgpbihknjdjaaGreatDoor

/- Contracts: the best set of the document. -/
namespace Go.Proofs.YtnmgpbihknjdjaaGreatDoor
open Go.RowKit
set_option linter.unusedVariables false
theorem tgE_ok {ns : List ByteArray} {x : Tg} (h : tgE ns x = 0) : (1 ≤ x.c ∧ x.c ≤ 1000000) ∧ 0 ≤ x.s ∧ x.s ≤ 1000000 := by
 unfold tgE at h
 cases h1 : nameUB x.nm <;> rw [h1] at h
 ·simp at h
 ·cases h2 : ns.any (fun o => o == x.nm) <;> rw [h2] at h
  ·cases h3 : (inB x.c 1 1000000 && inB x.s 0 1000000) <;> rw [h3] at h
   ·simp at h
   ·rw [Bool.and_eq_true, inB_iff, inB_iff] at h3
    exact h3
  ·simp at h
theorem firT_ok (l : List Tg) : ∀ (r : List Tg) (i : Nat), (firT l i r).2 = 0 → ∀ x ∈ r, (1 ≤ x.c ∧ x.c ≤ 1000000) ∧ 0 ≤ x.s ∧ x.s ≤ 1000000
 | [], _, _, x, hx => by cases hx
 | z :: r, i, h, x, hx => by
  rw [firT] at h
  by_cases he : tgE ((l.take i).map Tg.nm) z = 0
  ·rw [if_pos he] at h
   rcases List.mem_cons.1 hx with rfl | hx
   ·exact tgE_ok he
   ·exact firT_ok l r (i + 1) h x hx
  ·rw [if_neg he] at h
   exact absurd h he
end Go.Proofs.YtnmgpbihknjdjaaGreatDoor

/- TargetSets: the walk. -/
namespace Go.Proofs.YtnmgpbihknjdjaaGreatDoor
open Go.RowKit
set_option linter.unusedVariables false
theorem fewT_ok {l : List Tg} (h : fewT l = true) : l.length ≤ 14 ∧ ∀ z ∈ l, z.nm.size ≤ 20 := by
 unfold fewT at h
 rw [Bool.and_eq_true, decide_eq_true_eq, List.all_eq_true] at h
 exact ⟨h.1, fun z hz => by simpa using h.2 z hz⟩
end Go.Proofs.YtnmgpbihknjdjaaGreatDoor

/- TargetSets: from values of the small language to the program's. -/
namespace Go.Proofs.YtnmgpbihknjdjaaGreatDoor
open Go.ChangeShapes Go.WideShapes Go.ChangeAt Go.RowKit
def tgSh : Sh := .agg [.str, i64Sh, i64Sh]
structure TgB (c : Tg) : Prop where
 sz : (c.nm.size : Int) ≤ 9223372036854775807
theorem fits_tg {m : MV} (h : Fits tgSh m) : ∃ c : { c : Tg // TgB c }, m = encTg c.val := by
 obtain ⟨ms, h', rfl⟩ := fits_agg h
 obtain ⟨m1, r1, rfl, h1, h⟩ := fitsL_cons h'
 obtain ⟨m2, r2, rfl, h2, h⟩ := fitsL_cons h
 obtain ⟨m3, r3, rfl, h3, h⟩ := fitsL_cons h
 obtain rfl := fitsL_nil h
 obtain ⟨a, rfl, ha⟩ := fits_strd h1
 obtain ⟨b, rfl⟩ := fits_i64d h2
 obtain ⟨c, rfl⟩ := fits_i64d h3
 exact ⟨⟨⟨a, b, c⟩, ⟨ha⟩⟩, rfl⟩
theorem fits_tgs {m : MV} (h : Fits (.slice tgSh) m) : ∃ l : List Tg, m = .sl (l.map encTg) ∧ (l.length : Int) ≤ 9223372036854775807 ∧ ∀ z ∈ l, (z.nm.size : Int) ≤ 9223372036854775807 := by
 obtain ⟨l, rfl, hl⟩ := fits_list (fun c : { c : Tg // TgB c } => encTg c.val) (fun m h => fits_tg h) h
 refine ⟨l.map Subtype.val, by rw [List.map_map]; rfl, by rw [List.length_map]; omega, fun z hz => ?_⟩
 obtain ⟨c, _, rfl⟩ := List.mem_map.1 hz
 exact c.2.sz
end Go.Proofs.YtnmgpbihknjdjaaGreatDoor

/- Contracts: holes, layers, cuts. -/
namespace Go.Proofs.YtnmgpbihknjdjaaGreatDoor
open Go.RowKit
set_option linter.unusedVariables false
theorem mf_isSized : MT.mf 120 = some mfW_l120 := mfW_q120
theorem isSized_c (k : Nat) (n m : Int) (h : MHeap) (hm : -1000000000 ≤ m ∧ m ≤ 1000000000) {t : Bool} (ht : inB n (-m) m = t) : orA (k + 2) 120 [I64 n, I64 m] h = some (Bo t, h) := by
 refine callL (args' := [I64 n, I64 m]) (frz_lits [.int .i64 n, .int .i64 m]) rfl (runZ_of mf_isSized (by simp) ?_)
 simp only [argsL]
 have hw : inB n (0 - m) m = t := by rw [← ht, Int.zero_sub]
 repeat (first | apply ef_seq | (apply ef_mv; exact rfl; exact rfl) | (apply ef_neg; exact rfl; exact rfl; exact wrap_of (by omega) (by omega)) | apply ef_nil | apply seqQ.normal | apply ef_ret | (apply ef_call; exact rfl; ((repeat (apply XVs.cons; exact rfl)); exact XVs.nil); (with_reducible exact within_c k _ _ _ _ hw)))
 (refine fin1 rfl (by exact rfl) rfl ?_)
 rfl
end Go.Proofs.YtnmgpbihknjdjaaGreatDoor

/- Contracts: layers, cuts. -/
namespace Go.Proofs.YtnmgpbihknjdjaaGreatDoor
open Go.RowKit
set_option linter.unusedVariables false
theorem callTP {k f : Nat} {args args' : List MV} {h : MHeap} {p : Pt} {e : Int} (h1 : args.mapM (frz 0 [] h 8) = some args') (hT : tA f args' [] = none) (h2 : runZ MT (orA k) (itA k) 4000000 f args' [] = some (.tup [encPt p, I64 e], [])) : orA (k + 1) f args h = some (.tup [encPt p, I64 e], h) := by
 have := callA h1 hT h2 (by cases ltL 0 args <;> rfl) rfl
 rw [List.append_nil] at this
 exact this
theorem mf_lowest : MT.mf 117 = some mfW_l117 := mfW_q117
theorem lowest_c (k : Nat) (n d : Int) (h : MHeap) (hd : 0 < d) (h1 : -9223372036854775807 ≤ n) (h2 : n ≤ 9223372036854775807) (h4 : d ≤ 9223372036854775807) : orA (k + 4) 117 [I64 n, I64 d] h = some (.tup [encPt ((lowR n d).1, (lowR n d).2.1), I64 (lowR n d).2.2], h) := by
 refine callTP (args' := [I64 n, I64 d]) (frz_lits [.int .i64 n, .int .i64 d]) rfl (runZ_of mf_lowest (by simp) ?_)
 simp only [argsL]
 have hg := fun h => divisor_c (k + 2) n d h (fun e => by omega) (by omega) h4
 obtain ⟨hg0, _, _, _, _⟩ := lowG_ok (n := n) (show d ≠ 0 by omega)
 have hq1 := quo_eq (a := n) hg0 h1 h2
 have hq2 := quo_eq (a := d) hg0 (by omega) h4
 have HR := Lib.hid (show lowR n d = if inB (n.tdiv (lowG n d)) (-1000000000) 1000000000 && decide (d.tdiv (lowG n d) ≤ 1000000000) then (n.tdiv (lowG n d), d.tdiv (lowG n d), 0) else (0, 0, 8) from rfl)
 have hG : lowG n d = (Int.gcd n d : Int) := by unfold lowG; rw [if_neg (by omega)]
 generalize n.tdiv (lowG n d) = x at *
 generalize d.tdiv (lowG n d) = y at *
 generalize lowG n d = g at *
 rw [← hG] at hg
 clear hG
 by_cases hy : y ≤ 1000000000
 ·cases hb : inB x (-1000000000) 1000000000
  ·repeat (first | apply ef_seq | (apply ef_mv; exact rfl; exact rfl) | (apply ef_bin; (iterate 3 exact rfl); (assumption)) | (apply ef_gn; exact rfl; (exact (rfl : true = true)); exact rfl) | (apply ef_pick; (iterate 3 exact rfl)) | (apply ef_ldp; (iterate 4 exact rfl); (exact rfl); (exact rfl)) | (apply ef_fap; exact rfl; exact rfl) | (apply ef_notF; exact rfl; exact rfl) | (apply ef_new; exact rfl) | (apply ef_build; exact rfl; (repeat (apply XVs.cons; exact rfl)); exact XVs.nil; exact rfl; exact rfl) | (apply ef_st; (iterate 6 exact rfl); (exact rfl); exact rfl) | apply ef_nil | apply seqQ.normal | apply ef_ret | apply seqQ.ret | (apply ef_condt; exact rfl; (exact (rfl : true = true))) | (apply ef_call; exact rfl; ((repeat (apply XVs.cons; exact rfl)); exact XVs.nil); (with_reducible first | exact hg _ | exact isSized_c (k + 1) _ _ _ (by omega) hb)))
   rw [show lowR n d = (0, 0, 8) by rw [HR.out, hb]; simp [hy]]
   refine finR2 (v := encPt (0, 0)) (w := I64 8) rfl ?_ (by exact rfl) rfl rfl rfl
   apply resC <;> exact rfl
  ·repeat (first | apply ef_seq | (apply ef_mv; exact rfl; exact rfl) | (apply ef_bin; (iterate 3 exact rfl); (first | assumption | exact cmp_f rfl (by simp only [cmpP]; omega))) | (apply ef_gy; exact rfl; (exact (rfl : false = false))) | (apply ef_pick; (iterate 3 exact rfl)) | (apply ef_ldp; (iterate 4 exact rfl); (exact rfl); (first | exact rd_2 rfl rfl | exact rfl)) | (apply ef_fap; exact rfl; exact rfl) | (apply ef_notT; exact rfl; exact rfl) | (apply ef_new; exact rfl) | (apply ef_build; exact rfl; (repeat (apply XVs.cons; exact rfl)); exact XVs.nil; exact rfl; exact rfl) | (apply ef_st; (iterate 6 exact rfl); (exact rfl); exact rfl) | apply ef_nil | apply seqQ.normal | apply ef_ret | apply ef_skip | (apply ef_condf; exact rfl; (exact (rfl : false = false))) | (apply ef_call; exact rfl; ((repeat (apply XVs.cons; exact rfl)); exact XVs.nil); (with_reducible first | exact hg _ | exact isSized_c (k + 1) _ _ _ (by omega) hb)))
   rw [show lowR n d = (x, y, 0) by rw [HR.out, hb]; simp [hy]]
   refine finR2 (v := encPt (x, y)) (w := I64 0) rfl ?_ (by exact rfl) rfl rfl rfl
   apply resC <;> exact rfl
 ·cases hb : inB x (-1000000000) 1000000000
  ·repeat (first | apply ef_seq | (apply ef_mv; exact rfl; exact rfl) | (apply ef_bin; (iterate 3 exact rfl); (assumption)) | (apply ef_gn; exact rfl; (exact (rfl : true = true)); exact rfl) | (apply ef_pick; (iterate 3 exact rfl)) | (apply ef_ldp; (iterate 4 exact rfl); (exact rfl); (exact rfl)) | (apply ef_fap; exact rfl; exact rfl) | (apply ef_notF; exact rfl; exact rfl) | (apply ef_new; exact rfl) | (apply ef_build; exact rfl; (repeat (apply XVs.cons; exact rfl)); exact XVs.nil; exact rfl; exact rfl) | (apply ef_st; (iterate 6 exact rfl); (exact rfl); exact rfl) | apply ef_nil | apply seqQ.normal | apply ef_ret | apply seqQ.ret | (apply ef_condt; exact rfl; (exact (rfl : true = true))) | (apply ef_call; exact rfl; ((repeat (apply XVs.cons; exact rfl)); exact XVs.nil); (with_reducible first | exact hg _ | exact isSized_c (k + 1) _ _ _ (by omega) hb)))
   rw [show lowR n d = (0, 0, 8) by rw [HR.out, hb]; simp [hy]]
   refine finR2 (v := encPt (0, 0)) (w := I64 8) rfl ?_ (by exact rfl) rfl rfl rfl
   apply resC <;> exact rfl
  ·repeat (first | apply ef_seq | (apply ef_mv; exact rfl; exact rfl) | (apply ef_bin; (iterate 3 exact rfl); (first | assumption | exact cmp_t rfl (by first | exact rfl | (simp only [cmpP]; omega)))) | (apply ef_gy; exact rfl; (exact (rfl : false = false))) | (apply ef_pick; (iterate 3 exact rfl)) | (apply ef_ldp; (iterate 4 exact rfl); (exact rfl); (exact rfl)) | (apply ef_fap; exact rfl; exact rfl) | (apply ef_notT; exact rfl; exact rfl) | (apply ef_new; exact rfl) | (apply ef_build; exact rfl; (repeat (apply XVs.cons; exact rfl)); exact XVs.nil; exact rfl; exact rfl) | (apply ef_st; (iterate 6 exact rfl); (exact rfl); exact rfl) | apply ef_nil | apply seqQ.normal | apply ef_ret | apply seqQ.ret | (apply ef_condt; exact rfl; (exact (rfl : true = true))) | (apply ef_call; exact rfl; ((repeat (apply XVs.cons; exact rfl)); exact XVs.nil); (with_reducible first | exact hg _ | exact isSized_c (k + 1) _ _ _ (by omega) hb)))
   rw [show lowR n d = (0, 0, 8) by rw [HR.out, hb]; simp [hy]]
   refine finR2 (v := encPt (0, 0)) (w := I64 8) rfl ?_ (by exact rfl) rfl rfl rfl
   apply resC <;> exact rfl
end Go.Proofs.YtnmgpbihknjdjaaGreatDoor

/- Prices: the smallest price at which the bound is minimum (plain law). -/
namespace Go.Proofs.YtnmgpbihknjdjaaGreatDoor
set_option linter.unusedVariables false
def gnZ (D P : Int) : List (Int × Int) → Int
 | [] => 0
 | x :: l => max 0 (x.2 * D - P * x.1) + gnZ D P l
def cwZ (D P : Int) : List (Int × Int) → Int
 | [] => 0
 | x :: l => (if P * x.1 < x.2 * D then x.1 else 0) + cwZ D P l
def bnZ (D B P : Int) (l : List (Int × Int)) : Int := P * B + gnZ D P l
theorem gn_tan (D P Q : Int) : ∀ l : List (Int × Int), gnZ D P l - (Q - P) * cwZ D P l ≤ gnZ D Q l
 | [] => by simp [gnZ, cwZ]
 | x :: l => by
  have ih := gn_tan D P Q l
  have e1 : (Q - P) * x.1 = Q * x.1 - P * x.1 := Int.sub_mul ..
  rw [gnZ, gnZ, cwZ, Int.mul_add]
  split
  ·rw [e1]; omega
  ·rw [Int.mul_zero]; omega
theorem bn_tan (D B P Q : Int) (l : List (Int × Int)) : bnZ D B P l + (Q - P) * (B - cwZ D P l) ≤ bnZ D B Q l := by
 have := gn_tan D P Q l
 unfold bnZ
 rw [Int.mul_sub, Int.sub_mul Q P B]
 omega
theorem gn_lin {D P Q : Int} (hPQ : P < Q) : ∀ l : List (Int × Int), (∀ x ∈ l, 0 < x.1 ∧ (P * x.1 < x.2 * D → Q * x.1 ≤ x.2 * D)) → gnZ D Q l = gnZ D P l - (Q - P) * cwZ D P l
 | [], _ => by simp [gnZ, cwZ]
 | x :: l, h => by
  have ih := gn_lin hPQ l fun y hy => h y (List.mem_cons_of_mem _ hy)
  obtain ⟨h1, h2⟩ := h x (List.mem_cons_self ..)
  have e1 : (Q - P) * x.1 = Q * x.1 - P * x.1 := Int.sub_mul ..
  have e2 : P * x.1 ≤ Q * x.1 := Int.mul_le_mul_of_nonneg_right (by omega) (by omega)
  rw [gnZ, gnZ, cwZ, Int.mul_add, ih]
  split
  ·rename_i hc
   have := h2 hc
   rw [e1]; omega
  ·rw [Int.mul_zero]; omega
theorem max_below (Q : Int) : ∀ l : List Int, (∃ x ∈ l, x < Q) → ∃ p ∈ l, p < Q ∧ ∀ y ∈ l, y < Q → y ≤ p
 | [], h => by obtain ⟨x, hx, _⟩ := h; cases hx
 | a :: l, h => by
  by_cases hl : ∃ x ∈ l, x < Q
  ·obtain ⟨p, h1, h2, h3⟩ := max_below Q l hl
   by_cases ha : a < Q ∧ p < a
   ·refine ⟨a, List.mem_cons_self .., ha.1, fun y hy hq => ?_⟩
    rcases List.mem_cons.1 hy with rfl | hy
    ·omega
    ·have := h3 y hy hq; omega
   ·refine ⟨p, List.mem_cons_of_mem _ h1, h2, fun y hy hq => ?_⟩
    rcases List.mem_cons.1 hy with rfl | hy
    ·omega
    ·exact h3 y hy hq
  ·obtain ⟨x, hx, hq⟩ := h
   rcases List.mem_cons.1 hx with rfl | hx
   ·refine ⟨x, List.mem_cons_self .., hq, fun y hy hyq => ?_⟩
    rcases List.mem_cons.1 hy with rfl | hy
    ·omega
    ·exact absurd ⟨y, hy, hyq⟩ hl
   ·exact absurd ⟨x, hx, hq⟩ hl
theorem price_min {D B : Int} {l : List (Int × Int)} {cs : List Int} (hc : ∀ x ∈ l, 0 < x.1 ∧ ∃ P ∈ cs, P * x.1 = x.2 * D) {Q : Int} (hQ : cwZ D Q l ≤ B) (hm : ∀ P ∈ cs, P < Q → B < cwZ D P l) :
  (∀ P ∈ cs, bnZ D B Q l ≤ bnZ D B P l) ∧ ∀ P ∈ cs, P < Q → bnZ D B Q l < bnZ D B P l := by
 have hlow : ∀ P ∈ cs, P < Q → bnZ D B Q l < bnZ D B P l := fun P hP hPQ => by
  obtain ⟨p, h1, h2, h3⟩ := max_below Q cs ⟨P, hP, hPQ⟩
  have hb := hm p h1 h2
  have hlin := gn_lin h2 l fun x hx => ⟨(hc x hx).1, fun hlt => by
   obtain ⟨hx0, R, hR, hRe⟩ := hc x hx
   rw [← hRe] at hlt ⊢
   have hpR : p < R := Int.lt_of_mul_lt_mul_right hlt (by omega)
   refine Int.mul_le_mul_of_nonneg_right ?_ (by omega)
   refine Classical.byContradiction fun hn => ?_
   have := h3 R hR (by omega)
   omega⟩
  have ht := bn_tan D B p P l
  have h4 : 0 ≤ (P - p) * (B - cwZ D p l) := by
   have := h3 P hP hPQ
   have := Int.mul_nonneg (a := p - P) (b := cwZ D p l - B) (by omega) (by omega)
   rw [show (P - p) * (B - cwZ D p l) = (p - P) * (cwZ D p l - B) by rw [← Int.neg_mul_neg, Int.neg_sub, Int.neg_sub]]
   exact this
  have h5 : bnZ D B Q l = bnZ D B p l + (Q - p) * (B - cwZ D p l) := by
   unfold bnZ
   rw [hlin, Int.mul_sub, Int.sub_mul Q p B]
   omega
  have h6 : 0 < (Q - p) * (cwZ D p l - B) := Int.mul_pos (by omega) (by omega)
  have h7 : (Q - p) * (B - cwZ D p l) = -((Q - p) * (cwZ D p l - B)) := by rw [← Int.mul_neg, Int.neg_sub]
  omega
 refine ⟨fun P hP => ?_, hlow⟩
 by_cases hPQ : P < Q
 ·exact Int.le_of_lt (hlow P hP hPQ)
 ·have ht := bn_tan D B Q P l
  have := Int.mul_nonneg (a := P - Q) (b := B - cwZ D Q l) (by omega) (by omega)
  omega
end Go.Proofs.YtnmgpbihknjdjaaGreatDoor

/- Whole numbers of any size, as digits to the base 10^9. -/
namespace Go.Proofs.YtnmgpbihknjdjaaGreatDoor
set_option linter.unusedVariables false
abbrev WB : Nat := 1000000000
def Dg (l : List Nat) : Prop := ∀ d ∈ l, d < WB
theorem Dg.take {l : List Nat} (h : Dg l) (k : Nat) : Dg (l.take k) := fun d hd => h d (List.mem_of_mem_take hd)
theorem Dg.drop {l : List Nat} (h : Dg l) (k : Nat) : Dg (l.drop k) := fun d hd => h d (List.mem_of_mem_drop hd)
theorem Dg.getD {l : List Nat} (h : Dg l) (i : Nat) : l.getD i 0 < WB := by
 rw [List.getD_eq_getElem?_getD]
 cases hi : l[i]? with
 | none => decide
 | some d => exact h d (List.mem_of_getElem? hi)
theorem Dg.set {l : List Nat} (h : Dg l) (i : Nat) {v : Nat} (hv : v < WB) : Dg (l.set i v) := fun d hd => by
 rcases List.mem_or_eq_of_mem_set hd with hd | rfl
 ·exact h d hd
 ·exact hv
end Go.Proofs.YtnmgpbihknjdjaaGreatDoor

/- Quotients of numbers of any size (plain laws). -/
namespace Go.Proofs.YtnmgpbihknjdjaaGreatDoor
open Go.RowKit
set_option linter.unusedVariables false
set_option linter.unusedSimpArgs false
theorem lowF_low {n d : Int} (hd : d ≠ 0) : Int.gcd (lowF n d).1 (lowF n d).2 = 1 := by
 obtain ⟨e1, e2, _⟩ := lowF_ok (n := n) hd
 obtain ⟨h0, _⟩ := lowG_ok (n := n) hd
 have hg : (lowG n d).natAbs = Int.gcd n d := by unfold lowG; split <;> omega
 have h1 : Int.gcd n d = Int.gcd n d * Int.gcd (lowF n d).1 (lowF n d).2 := by
  have : Int.gcd (lowG n d * (lowF n d).1) (lowG n d * (lowF n d).2) = (lowG n d).natAbs * Int.gcd (lowF n d).1 (lowF n d).2 := Int.gcd_mul_left ..
  rw [← e1, ← e2, hg] at this
  exact this
 have hpos : 0 < Int.gcd n d := by omega
 generalize Int.gcd (lowF n d).1 (lowF n d).2 = k at *
 have : Int.gcd n d * 1 = Int.gcd n d * k := by omega
 exact (Nat.eq_of_mul_eq_mul_left hpos this).symm
structure Rp (x : Int × Int) (n d : Int) : Prop where
 hp : 0 < x.2
 hd : 0 < d
 he : x.1 * d = n * x.2
theorem Rp.low {n d : Int} (h : 0 < d) : Rp (lowF n d) n d := by
 obtain ⟨e1, e2, e3⟩ := lowF_ok (n := n) (show d ≠ 0 by omega)
 refine ⟨e3, h, ?_⟩
 generalize lowG n d = g at *
 generalize (lowF n d).1 = a at *
 generalize (lowF n d).2 = b at *
 rw [e1, e2, ← Int.mul_assoc, Int.mul_comm a g]
theorem Rp.of {p q : Int} (h : 0 < q) : Rp (p, q) p q := ⟨h, h, rfl⟩
theorem Rp.cast {x : Int × Int} {n d m e : Int} (h : Rp x n d) (he : 0 < e) (hx : n * e = m * d) : Rp x m e := by
 refine ⟨h.hp, he, ?_⟩
 refine Int.eq_of_mul_eq_mul_right (a := d) (by have := h.hd; omega) ?_
 have := h.he
 calc x.1 * e * d = x.1 * d * e := Int.mul_right_comm ..
  _ = n * x.2 * e := by rw [this]
  _ = n * e * x.2 := Int.mul_right_comm ..
  _ = m * d * x.2 := by rw [hx]
  _ = m * x.2 * d := Int.mul_right_comm ..
def qmul (a b : Int × Int) : Int × Int := lowF (a.1 * b.1) (a.2 * b.2)
def qadd (a b : Int × Int) : Int × Int := lowF (a.1 * b.2 + b.1 * a.2) (a.2 * b.2)
def qneg (a : Int × Int) : Int × Int := (-a.1, a.2)
def qsub (a b : Int × Int) : Int × Int := qadd a (qneg b)
theorem Rp.neg {x : Int × Int} {n d : Int} (h : Rp x n d) : Rp (qneg x) (-n) d := ⟨h.hp, h.hd, by show -x.1 * d = -n * x.2; rw [Int.neg_mul, Int.neg_mul, h.he]⟩
theorem Rp.mul {x y : Int × Int} {n d m e : Int} (h : Rp x n d) (g : Rp y m e) : Rp (qmul x y) (n * m) (d * e) := by
 refine (Rp.low (Int.mul_pos h.hp g.hp)).cast (Int.mul_pos h.hd g.hd) ?_
 have a := h.he
 have b := g.he
 calc x.1 * y.1 * (d * e) = (x.1 * d) * (y.1 * e) := by simp only [Int.mul_assoc, Int.mul_left_comm, Int.mul_comm]
  _ = (n * x.2) * (m * y.2) := by rw [a, b]
  _ = n * m * (x.2 * y.2) := by simp only [Int.mul_assoc, Int.mul_left_comm, Int.mul_comm]
theorem Rp.add {x y : Int × Int} {n d m e : Int} (h : Rp x n d) (g : Rp y m e) : Rp (qadd x y) (n * e + m * d) (d * e) := by
 refine (Rp.low (Int.mul_pos h.hp g.hp)).cast (Int.mul_pos h.hd g.hd) ?_
 have a := h.he
 have b := g.he
 have e1 : x.1 * y.2 * (d * e) = n * e * (x.2 * y.2) := by
  calc x.1 * y.2 * (d * e) = (x.1 * d) * (y.2 * e) := by simp only [Int.mul_assoc, Int.mul_left_comm, Int.mul_comm]
   _ = (n * x.2) * (y.2 * e) := by rw [a]
   _ = n * e * (x.2 * y.2) := by simp only [Int.mul_assoc, Int.mul_left_comm, Int.mul_comm]
 have e2 : y.1 * x.2 * (d * e) = m * d * (x.2 * y.2) := by
  calc y.1 * x.2 * (d * e) = (y.1 * e) * (x.2 * d) := by simp only [Int.mul_assoc, Int.mul_left_comm, Int.mul_comm]
   _ = (m * y.2) * (x.2 * d) := by rw [b]
   _ = m * d * (x.2 * y.2) := by simp only [Int.mul_assoc, Int.mul_left_comm, Int.mul_comm]
 rw [Int.add_mul, Int.add_mul, e1, e2]
theorem Rp.sub {x y : Int × Int} {n d m e : Int} (h : Rp x n d) (g : Rp y m e) : Rp (qsub x y) (n * e - m * d) (d * e) := by
 have := h.add g.neg
 rwa [Int.neg_mul, ← Int.sub_eq_add_neg] at this
end Go.Proofs.YtnmgpbihknjdjaaGreatDoor

/- Prices of targets as fractions (plain laws). -/
namespace Go.Proofs.YtnmgpbihknjdjaaGreatDoor
open Go.RowKit
set_option linter.unusedVariables false
theorem price_all {D B : Int} {l : List (Int × Int)} {cs : List Int} (hc : ∀ x ∈ l, 0 < x.1 ∧ ∃ P ∈ cs, P * x.1 = x.2 * D) {Q : Int} (hQ : cwZ D Q l ≤ B) (hm : ∀ P ∈ cs, P < Q → B < cwZ D P l) (h0 : 0 ∈ cs) (P : Int) (hP : 0 ≤ P) : bnZ D B Q l ≤ bnZ D B P l := by
 by_cases hPQ : P < Q
 ·obtain ⟨p, h1, h2, h3⟩ := max_below Q cs ⟨0, h0, by omega⟩
  have hb := hm p h1 h2
  have hlow := (price_min hc hQ hm).1 p h1
  by_cases hpP : P ≤ p
  ·have ht := bn_tan D B p P l
   have h4 := Int.mul_nonneg (a := p - P) (b := cwZ D p l - B) (by omega) (by omega)
   rw [← Int.neg_mul_neg, Int.neg_sub, Int.neg_sub] at h4
   omega
  ·have hgap : ∀ x ∈ l, 0 < x.1 ∧ (p * x.1 < x.2 * D → Q * x.1 ≤ x.2 * D) := fun x hx => ⟨(hc x hx).1, fun hlt => by
    obtain ⟨hx0, R, hR, hRe⟩ := hc x hx
    rw [← hRe] at hlt ⊢
    have hpR : p < R := Int.lt_of_mul_lt_mul_right hlt (by omega)
    refine Int.mul_le_mul_of_nonneg_right ?_ (by omega)
    refine Classical.byContradiction fun hn => ?_
    have := h3 R hR (by omega)
    omega⟩
   have hK : ∀ m : List (Int × Int), (∀ x ∈ m, 0 < x.1 ∧ (p * x.1 < x.2 * D → Q * x.1 ≤ x.2 * D)) → cwZ D P m = cwZ D p m := by
    intro m
    induction m with
    | nil => intro _; rfl
    | cons x m ih =>
     intro h
     obtain ⟨a1, a2⟩ := h x (List.mem_cons_self ..)
     rw [cwZ, cwZ, ih fun y hy => h y (List.mem_cons_of_mem _ hy)]
     congr 1
     have e1 : p * x.1 ≤ P * x.1 := Int.mul_le_mul_of_nonneg_right (by omega) (by omega)
     have e2 : P * x.1 < Q * x.1 := Int.mul_lt_mul_of_pos_right hPQ a1
     by_cases hx : p * x.1 < x.2 * D
     ·have := a2 hx
      rw [if_pos (by omega), if_pos hx]
     ·rw [if_neg (by omega), if_neg hx]
   have hlin := gn_lin hPQ l fun x hx => by
    obtain ⟨a1, a2⟩ := hgap x hx
    have e1 : p * x.1 ≤ P * x.1 := Int.mul_le_mul_of_nonneg_right (by omega) (by omega)
    exact ⟨a1, fun h => a2 (by omega)⟩
   have h5 : bnZ D B Q l = bnZ D B P l + (Q - P) * (B - cwZ D P l) := by
    unfold bnZ
    rw [hlin, Int.mul_sub, Int.sub_mul Q P B]
    omega
   rw [hK l hgap] at h5
   have h6 : 0 < (Q - P) * (cwZ D p l - B) := Int.mul_pos (by omega) (by omega)
   have h7 : (Q - P) * (B - cwZ D p l) = -((Q - P) * (cwZ D p l - B)) := by rw [← Int.mul_neg, Int.neg_sub]
   omega
 ·have ht := bn_tan D B Q P l
  have := Int.mul_nonneg (a := P - Q) (b := B - cwZ D Q l) (by omega) (by omega)
  omega
theorem gn_scale {t : Int} (ht : 0 < t) (q p : Int) : ∀ l : List (Int × Int), gnZ (q * t) (p * t) l = gnZ q p l * t
 | [] => by simp [gnZ]
 | x :: l => by
  rw [gnZ, gnZ, gn_scale ht q p l, Int.add_mul]
  congr 1
  have e : x.2 * (q * t) - p * t * x.1 = (x.2 * q - p * x.1) * t := by rw [Int.sub_mul, Int.mul_assoc x.2, Int.mul_right_comm p t]
  rw [e]
  by_cases h : 0 ≤ x.2 * q - p * x.1
  ·rw [Int.max_eq_right h, Int.max_eq_right (Int.mul_nonneg h (by omega))]
  ·have h1 : x.2 * q - p * x.1 < 0 := by omega
   have h2 : (x.2 * q - p * x.1) * t < 0 := Int.mul_neg_of_neg_of_pos h1 ht
   rw [Int.max_eq_left (Int.le_of_lt h2), Int.max_eq_left (Int.le_of_lt h1), Int.zero_mul]
theorem cw_scale {t : Int} (ht : 0 < t) (q p : Int) : ∀ l : List (Int × Int), cwZ (q * t) (p * t) l = cwZ q p l
 | [] => rfl
 | x :: l => by
  rw [cwZ, cwZ, cw_scale ht q p l]
  congr 1
  have e1 : p * t * x.1 = p * x.1 * t := Int.mul_right_comm ..
  have e2 : x.2 * (q * t) = x.2 * q * t := (Int.mul_assoc ..).symm
  rw [e1, e2]
  have : p * x.1 * t < x.2 * q * t ↔ p * x.1 < x.2 * q := ⟨fun h => Int.lt_of_mul_lt_mul_right h (by omega), fun h => Int.mul_lt_mul_of_pos_right h ht⟩
  simp only [this]
theorem bn_scale {t : Int} (ht : 0 < t) (q p B : Int) (l : List (Int × Int)) : bnZ (q * t) B (p * t) l = bnZ q B p l * t := by
 unfold bnZ
 rw [gn_scale ht, Int.add_mul, Int.mul_right_comm]
abbrev prT (l : List Tg) : List (Int × Int) := l.map fun x => (x.c, x.s)
def cand (l : List Tg) : List (Int × Int) := (0, 1) :: l.map fun x => lowF x.s x.c
def prodC : List Tg → Int
 | [] => 1
 | x :: l => x.c * prodC l
theorem prodC_pos : ∀ l : List Tg, (∀ x ∈ l, 0 < x.c) → 0 < prodC l
 | [], _ => by decide
 | x :: l, h => Int.mul_pos (h x (List.mem_cons_self ..)) (prodC_pos l fun y hy => h y (List.mem_cons_of_mem _ hy))
theorem prodC_dvd : ∀ (l : List Tg) (x : Tg), x ∈ l → x.c ∣ prodC l
 | y :: l, x, h => by
  rcases List.mem_cons.1 h with rfl | h
  ·exact Int.dvd_mul_right ..
  ·exact Int.dvd_trans (prodC_dvd l x h) (Int.dvd_mul_left ..)
theorem cand_ok {l : List Tg} (hc : ∀ x ∈ l, 0 < x.c) {y : Int × Int} (hy : y ∈ cand l) : 0 < y.2 ∧ y.2 ∣ prodC l ∧ Int.gcd y.1 y.2 = 1 := by
 rcases List.mem_cons.1 hy with rfl | hy
 ·exact ⟨by decide, Int.one_dvd _, by decide⟩
 ·obtain ⟨x, hx, rfl⟩ := List.mem_map.1 hy
  have h0 := hc x hx
  obtain ⟨_, e2, e3⟩ := lowF_ok (n := x.s) (show x.c ≠ 0 by omega)
  refine ⟨e3, ?_, lowF_low (by omega)⟩
  refine Int.dvd_trans ?_ (prodC_dvd l x hx)
  exact ⟨lowG x.s x.c, by rw [Int.mul_comm]; exact e2⟩
structure IsPr (l : List Tg) (B : Int) (x : Int × Int) : Prop where
 mem : x ∈ cand l
 le : cwZ x.2 x.1 (prT l) ≤ B
 lt : ∀ y ∈ cand l, y.1 * x.2 < x.1 * y.2 → B < cwZ y.2 y.1 (prT l)
theorem price_spec {l : List Tg} {B : Int} (hc : ∀ x ∈ l, 0 < x.c) {x : Int × Int} (hx : IsPr l B x) :
  (∀ p q : Int, 0 ≤ p → 0 < q → bnZ x.2 B x.1 (prT l) * q ≤ bnZ q B p (prT l) * x.2) ∧ ∀ y ∈ cand l, y.1 * x.2 < x.1 * y.2 → bnZ x.2 B x.1 (prT l) * y.2 < bnZ y.2 B y.1 (prT l) * x.2 := by
 have hC := prodC_pos l hc
 have gen : ∀ q : Int, 0 < q → ∃ (D : Int) (sc : Int × Int → Int), 0 < D ∧ (∀ y : Int × Int, (y ∈ cand l ∨ y.2 = q) → ∃ t, 0 < t ∧ y.2 * t = D ∧ sc y = y.1 * t) := fun q hq =>
  ⟨q * prodC l, fun y => y.1 * (q * prodC l / y.2), Int.mul_pos hq hC, fun y hy => by
   have hd : y.2 ∣ q * prodC l ∧ 0 < y.2 := by
    rcases hy with hy | rfl
    ·obtain ⟨h1, h2, _⟩ := cand_ok hc hy
     exact ⟨Int.dvd_trans h2 (Int.dvd_mul_left ..), h1⟩
    ·exact ⟨Int.dvd_mul_right .., hq⟩
   obtain ⟨⟨t, ht⟩, h2⟩ := hd
   refine ⟨t, ?_, ht.symm, ?_⟩
   ·have := Int.mul_pos hq hC
    rw [ht] at this
    exact Int.pos_of_mul_pos_right this (by omega)
   ·show y.1 * (q * prodC l / y.2) = _
    rw [ht, Int.mul_ediv_cancel_left _ (by omega)]⟩
 have main : ∀ q : Int, 0 < q → ∀ (D : Int) (sc : Int × Int → Int), 0 < D → (∀ y : Int × Int, (y ∈ cand l ∨ y.2 = q) → ∃ t, 0 < t ∧ y.2 * t = D ∧ sc y = y.1 * t) →
   (∀ z ∈ prT l, 0 < z.1 ∧ ∃ P ∈ (cand l).map sc, P * z.1 = z.2 * D) ∧ cwZ D (sc x) (prT l) ≤ B ∧ (∀ P ∈ (cand l).map sc, P < sc x → B < cwZ D P (prT l)) ∧ 0 ∈ (cand l).map sc := by
  intro q hq D sc hD hs
  obtain ⟨t, ht, hte, hsx⟩ := hs x (.inl hx.mem)
  refine ⟨fun z hz => ?_, ?_, fun P hP hlt => ?_, ?_⟩
  ·obtain ⟨u, hu, rfl⟩ := List.mem_map.1 hz
   refine ⟨hc u hu, sc (lowF u.s u.c), List.mem_map_of_mem (List.mem_cons_of_mem _ (List.mem_map_of_mem hu)), ?_⟩
   obtain ⟨r, hr, hre, hsr⟩ := hs (lowF u.s u.c) (.inl (List.mem_cons_of_mem _ (List.mem_map_of_mem hu)))
   have h0 := hc u hu
   have he := (Rp.low (n := u.s) h0).he
   rw [hsr, ← hre]
   show (lowF u.s u.c).1 * r * u.c = u.s * ((lowF u.s u.c).2 * r)
   rw [Int.mul_right_comm, he, Int.mul_assoc]
  ·rw [hsx, ← hte, cw_scale ht]; exact hx.le
  ·obtain ⟨y, hy, rfl⟩ := List.mem_map.1 hP
   obtain ⟨r, hr, hre, hsr⟩ := hs y (.inl hy)
   rw [hsr, ← hre, cw_scale hr]
   refine hx.lt y hy ?_
   rw [hsr, hsx] at hlt
   have h2 := (cand_ok hc hx.mem).1
   have h3 := (cand_ok hc hy).1
   have h4 : y.1 * r * (x.2 * y.2) < x.1 * t * (x.2 * y.2) := Int.mul_lt_mul_of_pos_right hlt (Int.mul_pos h2 h3)
   have e1 : y.1 * r * (x.2 * y.2) = y.1 * x.2 * (y.2 * r) := by simp only [Int.mul_assoc, Int.mul_left_comm, Int.mul_comm]
   have e2 : x.1 * t * (x.2 * y.2) = x.1 * y.2 * (x.2 * t) := by simp only [Int.mul_assoc, Int.mul_left_comm, Int.mul_comm]
   rw [e1, e2, hre, hte] at h4
   exact Int.lt_of_mul_lt_mul_right h4 (by omega)
  ·obtain ⟨r, hr, hre, hsr⟩ := hs (0, 1) (.inl (List.mem_cons_self ..))
   refine List.mem_map.2 ⟨(0, 1), List.mem_cons_self .., ?_⟩
   rw [hsr, Int.zero_mul]
 refine ⟨fun p q hp hq => ?_, fun y hy hlt => ?_⟩
 ·obtain ⟨D, sc, hD, hs⟩ := gen q hq
  obtain ⟨m1, m2, m3, m4⟩ := main q hq D sc hD hs
  obtain ⟨t, ht, hte, hsx⟩ := hs x (.inl hx.mem)
  obtain ⟨r, hr, hre, hsr⟩ := hs (p, q) (.inr rfl)
  have h := price_all m1 m2 m3 m4 (p * r) (Int.mul_nonneg hp (by omega))
  rw [hsx] at h
  have g1 : bnZ D B (x.1 * t) (prT l) = bnZ x.2 B x.1 (prT l) * t := by rw [← hte, bn_scale ht]
  have g2 : bnZ D B (p * r) (prT l) = bnZ q B p (prT l) * r := by
   have hre' : q * r = D := hre
   rw [← hre', bn_scale hr]
  rw [g1, g2] at h
  have h2 := (cand_ok hc hx.mem).1
  have h4 := Int.mul_le_mul_of_nonneg_right h (Int.le_of_lt (Int.mul_pos h2 hq))
  have hre' : q * r = D := hre
  have e1 : bnZ x.2 B x.1 (prT l) * t * (x.2 * q) = bnZ x.2 B x.1 (prT l) * q * (x.2 * t) := by
   generalize bnZ x.2 B x.1 (prT l) = b
   simp only [Int.mul_assoc, Int.mul_left_comm, Int.mul_comm]
  have e2 : bnZ q B p (prT l) * r * (x.2 * q) = bnZ q B p (prT l) * x.2 * (q * r) := by
   generalize bnZ q B p (prT l) = b
   simp only [Int.mul_assoc, Int.mul_left_comm, Int.mul_comm]
  rw [e1, e2, hte, hre'] at h4
  exact Int.le_of_mul_le_mul_right h4 hD
 ·obtain ⟨D, sc, hD, hs⟩ := gen 1 (by decide)
  obtain ⟨m1, m2, m3, m4⟩ := main 1 (by decide) D sc hD hs
  obtain ⟨t, ht, hte, hsx⟩ := hs x (.inl hx.mem)
  obtain ⟨r, hr, hre, hsr⟩ := hs y (.inl hy)
  have h2 := (cand_ok hc hx.mem).1
  have h3 := (cand_ok hc hy).1
  have hlt' : sc y < sc x := by
   rw [hsr, hsx]
   have h4 : y.1 * x.2 * D < x.1 * y.2 * D := Int.mul_lt_mul_of_pos_right hlt hD
   have e1 : y.1 * x.2 * D = y.1 * r * (x.2 * y.2) := by rw [← hre]; simp only [Int.mul_assoc, Int.mul_left_comm, Int.mul_comm]
   have e2 : x.1 * y.2 * D = x.1 * t * (x.2 * y.2) := by rw [← hte]; simp only [Int.mul_assoc, Int.mul_left_comm, Int.mul_comm]
   rw [e1, e2] at h4
   exact Int.lt_of_mul_lt_mul_right h4 (Int.le_of_lt (Int.mul_pos h2 h3))
  have h := (price_min m1 m2 m3).2 (sc y) (List.mem_map_of_mem hy) hlt'
  have g1 : bnZ D B (sc x) (prT l) = bnZ x.2 B x.1 (prT l) * t := by rw [hsx, ← hte, bn_scale ht]
  have g2 : bnZ D B (sc y) (prT l) = bnZ y.2 B y.1 (prT l) * r := by rw [hsr, ← hre, bn_scale hr]
  rw [g1, g2] at h
  have h4 := Int.mul_lt_mul_of_pos_right h (Int.mul_pos h2 h3)
  have e1 : bnZ x.2 B x.1 (prT l) * t * (x.2 * y.2) = bnZ x.2 B x.1 (prT l) * y.2 * (x.2 * t) := by
   generalize bnZ x.2 B x.1 (prT l) = b
   simp only [Int.mul_assoc, Int.mul_left_comm, Int.mul_comm]
  have e2 : bnZ y.2 B y.1 (prT l) * r * (x.2 * y.2) = bnZ y.2 B y.1 (prT l) * x.2 * (y.2 * r) := by
   generalize bnZ y.2 B y.1 (prT l) = b
   simp only [Int.mul_assoc, Int.mul_left_comm, Int.mul_comm]
  rw [e1, e2, hte, hre] at h4
  exact Int.lt_of_mul_lt_mul_right h4 (by omega)
end Go.Proofs.YtnmgpbihknjdjaaGreatDoor

/- Bounds of scores (plain laws). -/
namespace Go.Proofs.YtnmgpbihknjdjaaGreatDoor
open Go.RowKit
set_option linter.unusedVariables false
theorem gn_nn (q p : Int) : ∀ l : List (Int × Int), 0 ≤ gnZ q p l
 | [] => Int.le_refl 0
 | x :: l => by
  have := gn_nn q p l
  rw [gnZ]
  have := Int.le_max_left 0 (x.2 * q - p * x.1)
  omega
theorem gn_drop (q p : Int) (l : List (Int × Int)) : ∀ (k j : Nat), gnZ q p (l.drop (k + j)) ≤ gnZ q p (l.drop k)
 | k, 0 => Int.le_refl _
 | k, j + 1 => by
  refine Int.le_trans ?_ (gn_drop q p l k j)
  by_cases h : k + j < l.length
  ·rw [List.drop_eq_getElem_cons h, gnZ, show k + (j + 1) = k + j + 1 by omega]
   have := Int.le_max_left 0 ((l[k + j]).2 * q - p * (l[k + j]).1)
   omega
  ·rw [List.drop_eq_nil_of_le (by omega), List.drop_eq_nil_of_le (by omega)]; exact Int.le_refl _
theorem weak_dual (l : List Tg) {q p : Int} (hp : 0 ≤ p) : ∀ (S : List Nat) (k : Nat), (∀ i ∈ S, k ≤ i ∧ i < l.length) → S.Pairwise (· < ·) → scoreL l S * q ≤ gnZ q p ((prT l).drop k) + p * costL l S
 | [], k, _, _ => by
  have := gn_nn q p ((prT l).drop k)
  simp only [scoreL, costL]; omega
 | i :: S, k, h, ha => by
  obtain ⟨h1, h2⟩ := h i (List.mem_cons_self ..)
  obtain ⟨a1, a2⟩ := List.pairwise_cons.1 ha
  have ih := weak_dual l (q := q) hp S (i + 1) (fun j hj => ⟨a1 j hj, (h j (List.mem_cons_of_mem _ hj)).2⟩) a2
  have hd := gn_drop q p (prT l) k (i - k)
  rw [show k + (i - k) = i by omega] at hd
  have hi : i < (prT l).length := by rw [List.length_map]; exact h2
  rw [List.drop_eq_getElem_cons hi, gnZ, List.getElem_map] at hd
  have ht : tgI l i = l[i] := by unfold tgI; rw [List.getD_eq_getElem?_getD, List.getElem?_eq_getElem h2]; rfl
  have hm := Int.le_max_right 0 (l[i].s * q - p * l[i].c)
  rw [scoreL, costL, ht, Int.add_mul, Int.mul_add]
  simp only at hd
  omega
theorem weak_bn (l : List Tg) {q p B : Int} (hp : 0 ≤ p) {S : List Nat} (h : ∀ i ∈ S, i < l.length) (ha : S.Pairwise (· < ·)) (hc : costL l S ≤ B) : scoreL l S * q ≤ bnZ q B p (prT l) := by
 have := weak_dual l (q := q) hp S 0 (fun i hi => ⟨Nat.zero_le _, h i hi⟩) ha
 rw [List.drop_zero] at this
 have := Int.mul_le_mul_of_nonneg_left hc hp
 unfold bnZ
 omega
theorem gn_bd {q p S C : Int} (hq : 0 ≤ q) (hp : 0 ≤ p) : ∀ l : List (Int × Int), (∀ x ∈ l, 0 ≤ x.1 ∧ x.1 ≤ C ∧ 0 ≤ x.2 ∧ x.2 ≤ S) → gnZ q p l ≤ l.length * (S * q)
 | [], _ => by simp [gnZ]
 | x :: l, h => by
  have ih := gn_bd hq hp l fun y hy => h y (List.mem_cons_of_mem _ hy)
  obtain ⟨h1, h2, h3, h4⟩ := h x (List.mem_cons_self ..)
  have e1 : x.2 * q ≤ S * q := Int.mul_le_mul_of_nonneg_right h4 hq
  have e2 : 0 ≤ p * x.1 := Int.mul_nonneg hp h1
  have e3 : 0 ≤ x.2 * q := Int.mul_nonneg h3 hq
  rw [gnZ, List.length_cons, show ((l.length + 1 : Nat) : Int) = (l.length : Int) + 1 by omega, Int.add_mul, Int.one_mul]
  have : max 0 (x.2 * q - p * x.1) ≤ S * q := Int.max_le.2 ⟨by omega, by omega⟩
  omega
end Go.Proofs.YtnmgpbihknjdjaaGreatDoor

/- Prices in order (plain laws). -/
namespace Go.Proofs.YtnmgpbihknjdjaaGreatDoor
open Go.RowKit
set_option linter.unusedVariables false
abbrev rowFr (x : Int × Int) : List Int := [x.1, x.2]
theorem rowsOf_pairs : ∀ l : List (Int × Int), rowsOf (l.map encPt) = some (l.map rowFr)
 | [] => rfl
 | x :: l => by
  have h : rowOf (encPt x) = some (rowFr x) := rfl
  rw [List.map_cons, rowsOf, rowsOf_pairs l, h]; rfl
def insFr (x : Int × Int) : List (Int × Int) → List (Int × Int)
 | [] => [x]
 | y :: ys => if x.1 * y.2 < y.1 * x.2 then x :: y :: ys else y :: insFr x ys
def sortFr : List (Int × Int) → List (Int × Int)
 | [] => []
 | x :: xs => insFr x (sortFr xs)
theorem insR_row (x : Int × Int) : ∀ l : List (Int × Int), insS 1 (rowFr x) (l.map rowFr) = (insFr x l).map rowFr
 | [] => rfl
 | y :: l => by
  rw [List.map_cons, insS, insFr]
  by_cases h : x.1 * y.2 < y.1 * x.2
  ·rw [if_pos h, if_pos (by simpa [sortLt] using h)]; rfl
  ·rw [if_neg h, if_neg (by simpa [sortLt] using h), insR_row x l]; rfl
theorem sortR_row : ∀ l : List (Int × Int), sortS 1 (l.map rowFr) = (sortFr l).map rowFr
 | [] => rfl
 | x :: l => by rw [List.map_cons, sortS, sortR_row l, insR_row]; rfl
theorem insFr_perm (x : Int × Int) : ∀ l : List (Int × Int), (insFr x l).Perm (x :: l)
 | [] => .refl _
 | y :: l => by
  rw [insFr]
  split
  ·exact .refl _
  ·exact ((insFr_perm x l).cons y).trans (.swap x y l)
theorem sortFr_perm : ∀ l : List (Int × Int), (sortFr l).Perm l
 | [] => .refl _
 | x :: l => (insFr_perm x _).trans ((sortFr_perm l).cons x)
def PosFr (l : List (Int × Int)) : Prop := ∀ x ∈ l, 0 < x.2
abbrev LeFr (a b : Int × Int) : Prop := a.1 * b.2 ≤ b.1 * a.2
theorem insFr_srt {x : Int × Int} (hx : 0 < x.2) : ∀ {l : List (Int × Int)}, PosFr l → l.Pairwise LeFr → (insFr x l).Pairwise LeFr
 | [], _, _ => List.pairwise_singleton _ _
 | y :: l, hp, hs => by
  obtain ⟨h1, h2⟩ := List.pairwise_cons.1 hs
  have hy := hp y (List.mem_cons_self ..)
  rw [insFr]
  split
  ·rename_i hlt
   refine List.pairwise_cons.2 ⟨fun z hz => ?_, hs⟩
   rcases List.mem_cons.1 hz with rfl | hz
   ·exact Int.le_of_lt hlt
   ·exact fr_transL hx hy (hp z (List.mem_cons_of_mem _ hz)) (Int.le_of_lt hlt) (h1 z hz)
  ·rename_i hge
   refine List.pairwise_cons.2 ⟨fun z hz => ?_, insFr_srt hx (fun z hz => hp z (List.mem_cons_of_mem _ hz)) h2⟩
   rcases List.mem_cons.1 ((insFr_perm x l).mem_iff.1 hz) with rfl | hz
   ·exact Int.not_lt.1 hge
   ·exact h1 z hz
theorem sortFr_srt : ∀ {l : List (Int × Int)}, PosFr l → (sortFr l).Pairwise LeFr
 | [], _ => .nil
 | x :: l, h => insFr_srt (h x (List.mem_cons_self ..)) (fun z hz => h z (List.mem_cons_of_mem _ ((sortFr_perm l).mem_iff.1 hz))) (sortFr_srt fun z hz => h z (List.mem_cons_of_mem _ hz))
theorem lowFr_uniq {a b c d : Int} (hb : 0 < b) (hd : 0 < d) (h1 : Int.gcd a b = 1) (h2 : Int.gcd c d = 1) (h : a * d = c * b) : a = c ∧ b = d := by
 have e1 : b ∣ d := dvd_gcd1 (k := a) (by rw [h]; exact Int.dvd_mul_left ..) (by rw [Int.gcd_comm]; exact h1)
 have e2 : d ∣ b := dvd_gcd1 (k := c) (by rw [← h]; exact Int.dvd_mul_left ..) (by rw [Int.gcd_comm]; exact h2)
 have e3 : b = d := Int.le_antisymm (Int.le_of_dvd hd e1) (Int.le_of_dvd hb e2)
 subst e3
 exact ⟨Int.eq_of_mul_eq_mul_right (by omega) h, rfl⟩
theorem ordFr_srt : ∀ {l : List (Int × Int)}, (∀ x ∈ l, 0 < x.2 ∧ Int.gcd x.1 x.2 = 1) → l.Pairwise LeFr → ordS 1 (l.map rowFr) = true
 | [], _, _ => rfl
 | x :: l, h, hs => by
  obtain ⟨h1, h2⟩ := List.pairwise_cons.1 hs
  rw [List.map_cons, ordS, ordFr_srt (fun z hz => h z (List.mem_cons_of_mem _ hz)) h2, Bool.and_true, List.all_eq_true]
  intro r hr
  obtain ⟨y, hy, rfl⟩ := List.mem_map.1 hr
  have hle := h1 y hy
  by_cases hlt : x.1 * y.2 < y.1 * x.2
  ·have : sortLt 1 (rowFr x) (rowFr y) = true := by simpa [sortLt] using hlt
   rw [this, Bool.true_or]
  ·have : sortLt 1 (rowFr x) (rowFr y) = false := by simpa [sortLt] using hlt
   obtain ⟨a1, a2⟩ := h x (List.mem_cons_self ..)
   obtain ⟨b1, b2⟩ := h y (List.mem_cons_of_mem _ hy)
   obtain ⟨e1, e2⟩ := lowFr_uniq a1 b1 a2 b2 (by unfold LeFr at hle; omega)
   rw [this, Bool.false_or, Bool.not_false, Bool.and_true, decide_eq_true_eq, rowFr, rowFr, e1, e2]
theorem srt_fracs {l : List (Int × Int)} (h : ∀ x ∈ l, ((-1000000000 < x.1 ∧ x.1 < 1000000000) ∧ x.2 < 1000000000) ∧ 0 < x.2 ∧ Int.gcd x.1 x.2 = 1) : srtM 1 (l.map encPt) = some ((sortFr l).map encPt) := by
 unfold srtM
 rw [rowsOf_pairs]
 simp only
 have h1 : (l.map rowFr).all (okRow 1) = true := by
  rw [List.all_eq_true]
  intro r hr
  obtain ⟨x, hx, rfl⟩ := List.mem_map.1 hr
  obtain ⟨⟨⟨a1, a2⟩, a3⟩, a4, _⟩ := h x hx
  simp [okRow, rowFr, a1, a2, a3, a4]
  omega
 have h2 : ordS 1 (sortS 1 (l.map rowFr)) = true := by
  rw [sortR_row]
  exact ordFr_srt (fun x hx => (h x ((sortFr_perm l).mem_iff.1 hx)).2) (sortFr_srt fun x hx => (h x hx).2.1)
 rw [h1, h2, sortR_row, List.map_map]
 rfl
theorem fIg_at {α : Type} {P : α → Bool} : ∀ {zs : List α} (s : Nat), zs.any P = true → ∃ i, ∃ h : i < zs.length, fIg P zs s = ((s + i : Nat) : Int) ∧ P zs[i] = true ∧ ∀ j (hj : j < zs.length), j < i → P zs[j] = false
 | z :: zs, s, ha => by
  by_cases hz : P z = true
  ·exact ⟨0, by simp, by rw [fIg, if_pos hz]; rfl, hz, fun j _ hj => absurd hj (Nat.not_lt_zero _)⟩
  ·have hz : P z = false := by simpa using hz
   rw [List.any_cons, hz, Bool.false_or] at ha
   obtain ⟨i, hi, e1, e2, e3⟩ := fIg_at (s + 1) ha
   refine ⟨i + 1, by simp; omega, by rw [fIg, if_neg (by rw [hz]; decide), e1]; congr 1; omega, e2, fun j hj hji => ?_⟩
   cases j with
   | zero => exact hz
   | succ j => exact e3 j (by simp at hj; omega) (by omega)
theorem maxFr : ∀ {l : List (Int × Int)}, PosFr l → l ≠ [] → ∃ m ∈ l, ∀ y ∈ l, LeFr y m
 | [x], _, _ => ⟨x, List.mem_cons_self .., fun y hy => by rw [List.mem_singleton.1 hy]; exact Int.le_refl _⟩
 | x :: y :: l, hp, _ => by
  obtain ⟨m, hm, hmx⟩ := maxFr (l := y :: l) (fun z hz => hp z (List.mem_cons_of_mem _ hz)) (by simp)
  have hm0 := hp m (List.mem_cons_of_mem _ hm)
  have hx0 := hp x (List.mem_cons_self ..)
  by_cases hle : x.1 * m.2 ≤ m.1 * x.2
  ·refine ⟨m, List.mem_cons_of_mem _ hm, fun z hz => ?_⟩
   rcases List.mem_cons.1 hz with rfl | hz
   ·exact hle
   ·exact hmx z hz
  ·refine ⟨x, List.mem_cons_self .., fun z hz => ?_⟩
   rcases List.mem_cons.1 hz with rfl | hz
   ·exact Int.le_refl _
   ·exact fr_transL (hp z (List.mem_cons_of_mem _ hz)) hm0 hx0 (hmx z hz) (by omega)
theorem cwFr_zero {q p : Int} : ∀ l : List Tg, (∀ x ∈ l, x.s * q ≤ p * x.c) → cwZ q p (prT l) = 0
 | [], _ => rfl
 | x :: l, h => by
  have h1 := h x (List.mem_cons_self ..)
  rw [prT, List.map_cons, cwZ, if_neg (by simp only; omega)]
  have := cwFr_zero l fun y hy => h y (List.mem_cons_of_mem _ hy)
  rw [prT] at this
  rw [this]; rfl
theorem first_pr {l : List Tg} {B : Int} (hB : 0 ≤ B) (hc : ∀ x ∈ l, 0 < x.c) : ∃ i, ∃ h : i < (sortFr (cand l)).length, fIg (fun x : Int × Int => decide (cwZ x.2 x.1 (prT l) ≤ B)) (sortFr (cand l)) 0 = (i : Nat) ∧ IsPr l B (sortFr (cand l))[i] := by
 have hpos : PosFr (cand l) := fun y hy => (cand_ok hc hy).1
 have hany : (sortFr (cand l)).any (fun x : Int × Int => decide (cwZ x.2 x.1 (prT l) ≤ B)) = true := by
  obtain ⟨m, hm, hmx⟩ := maxFr hpos (by simp [cand])
  rw [List.any_eq_true]
  refine ⟨m, (sortFr_perm _).mem_iff.2 hm, ?_⟩
  rw [decide_eq_true_eq, cwFr_zero l fun x hx => ?_]
  ·exact hB
  ·have hy := hmx (lowF x.s x.c) (List.mem_cons_of_mem _ (List.mem_map.2 ⟨x, hx, rfl⟩))
   have h0 := hc x hx
   obtain ⟨e1, e2, e3⟩ := lowF_ok (n := x.s) (show x.c ≠ 0 by omega)
   have hg := (lowG_ok (n := x.s) (show x.c ≠ 0 by omega)).2.2.2.1 h0
   unfold LeFr at hy
   have := Int.mul_le_mul_of_nonneg_left hy (Int.le_of_lt hg)
   have f1 : x.s * m.2 = lowG x.s x.c * ((lowF x.s x.c).1 * m.2) := by rw [← Int.mul_assoc, ← e1]
   have f2 : m.1 * x.c = lowG x.s x.c * (m.1 * (lowF x.s x.c).2) := by rw [Int.mul_left_comm, ← e2]
   rw [f1, f2]; exact this
 obtain ⟨i, hi, e1, e2, e3⟩ := fIg_at 0 hany
 refine ⟨i, hi, by rw [e1, Nat.zero_add], (sortFr_perm _).mem_iff.1 (List.getElem_mem hi), of_decide_eq_true e2, fun y hy hlt => ?_⟩
 obtain ⟨j, hj, rfl⟩ := List.getElem_of_mem ((sortFr_perm _).mem_iff.2 hy)
 by_cases hji : j < i
 ·have := e3 j hj hji
  rw [decide_eq_false_iff_not] at this
  omega
 ·by_cases hij : i = j
  ·subst hij; omega
  ·have hs := List.pairwise_iff_getElem.1 (sortFr_srt hpos) i j hi hj (by omega)
   unfold LeFr at hs
   omega
end Go.Proofs.YtnmgpbihknjdjaaGreatDoor

/- Contracts: prices, bounds of scores. -/
namespace Go.Proofs.YtnmgpbihknjdjaaGreatDoor
open Go.RowKit
set_option linter.unusedVariables false
def isSB (n : Int) : Int → List Int → Bool
 | _, [] => true
 | p, x :: l => inB x 0 (n - 1) && decide (p < x) && isSB n x l
theorem at_int (S : List Int) (i : Nat) (h : i < S.length) : (S.map I64)[((i : Nat) : Int).toNat]? = some (I64 S[i]) := by
 rw [Int.toNat_natCast, List.getElem?_map, List.getElem?_eq_getElem h]; rfl
theorem mf_isSet : MT.mf 39 = some ⟨36, [(.tmp 4)], (.seq (.reg [gO 4 (.mv cF)]) (.seq (.seq (.reg [gO 5 (.mv (cI 0))]) (.block 0 (.loop [5, 0, 1] (.seq (.seq (.reg [gO 6 (.mv (.s 5)), gO 7 (.mv (.s 0)), gO 8 (.len (.s 7)), gO 9 (.bin .lss (.s 6) (.s 8))]) (.cond (.s 9) .skip (.exit 0))) (.seq (.block 1 (.seq (.reg [gO 12 (.mv (.s 0)), gO 13 (.mv (.s 5)), gO 14 (.ia 1 (.s 12) (.s 13)), gO 15 (.ld none (.s 14)), gO 16 (.mv (.s 1)), gO 17 (.bin .sub (.s 16) (cI 1)), gO 18 (.call 53 [.s 15, (cI 0), .s 17]), gO 19 (.un .not (.s 18)), gO 20 (.mv (.s 19)), ⟨some (20, false), some 21, .mv (.s 5)⟩, ⟨some (20, false), some 22, .bin .gtr (.s 21) (cI 0)⟩, ⟨some (20, false), some 23, .mv (.s 22)⟩, ⟨some (23, true), some 24, .mv (.s 0)⟩, ⟨some (23, true), some 25, .mv (.s 5)⟩, ⟨some (23, true), some 26, .ia 1 (.s 24) (.s 25)⟩, ⟨some (23, true), some 27, .ld none (.s 26)⟩, ⟨some (23, true), some 28, .mv (.s 0)⟩, ⟨some (23, true), some 29, .mv (.s 5)⟩, ⟨some (23, true), some 30, .bin .sub (.s 29) (cI 1)⟩, ⟨some (23, true), some 31, .ia 1 (.s 28) (.s 30)⟩, ⟨some (23, true), some 32, .ld none (.s 31)⟩, ⟨some (23, true), some 33, .bin .leq (.s 27) (.s 32)⟩, ⟨some (20, false), some 34, .pick (.s 23) (.s 33) cF⟩, gO 35 (.pick (.s 20) cT (.s 34))]) (.cond (.s 35) (.seq (.reg [gO 4 (.mv cF)]) .ret) .skip))) (.reg [gO 10 (.mv (.s 5)), gO 11 (.bin .add (.s 10) (cI 1)), gO 5 (.mv (.s 11))])))))) (.seq (.reg [gO 4 (.mv cT)]) .ret)))⟩ := by kernel_rfl
theorem isSet_z (k : Nat) (S : List Int) (n : Nat) (hl : S.length ≤ 1000) (hn : n ≤ 1000) : runZ MT (orA (k + 1)) (itA (k + 1)) 4000000 39 [.sl (S.map I64), I64 n] [] = some (Bo (isSB n (-1) S), []) := by
 have l1 : (MV.sl (S.map I64)).slen = some S.length := by simp [MV.slen]
 refine runZ_of mf_isSet (by simp) ?_
 simp only [argsL]
 repeat (first | apply ef_seq | (apply ef_mv; exact rfl; exact rfl) | apply ef_nil | apply seqQ.normal | apply ef_block)
 refine ef_loopf (α := Nat × Int) (fun p => p.1 ≤ S.length ∧ isSB n (-1) S = isSB n p.2 (S.drop p.1) ∧ ((p.1 = 0 ∧ p.2 = -1) ∨ 0 < p.1 ∧ (S.map I64)[((p.1 : Int) - 1).toNat]? = some (I64 p.2))) (fun p => [(5, I64 (p.1 : Int))]) [(0, .sl (S.map I64)), (1, I64 n)] (fun _ => []) (fun p => S.length - p.1) (0, -1) [5] (fun _ => rfl) (by ((repeat (refine Hold.cons (by exact rfl) ?_)); exact Hold.nil)) (by ((repeat (refine Hold.cons (by exact rfl) ?_)); exact Hold.nil)) rfl rfl ⟨by omega, rfl, .inl ⟨rfl, rfl⟩⟩ (by simp; omega) ?_
 rintro ⟨i, q⟩ ⟨hi, hz, hq⟩
 try simp only at hi hz hq ⊢
 by_cases hlt : i < S.length
 ·have e1 := at_int S i hlt
  have e0 : (S.map I64)[(((i + 1 : Nat) : Int) - 1).toNat]? = some (I64 S[i]) := by rw [show (((i + 1 : Nat) : Int) - 1).toNat = ((i : Nat) : Int).toNat by omega]; exact e1
  have HD := Lib.hid (drop_at S i hlt)
  have HZ := Lib.hid hz
  clear hz
  generalize S[i] = x at *
  cases hw : inB x 0 (n - 1)
  ·repeat (first | apply ef_seq | (apply ef_mv; exact rfl; exact rfl) | (apply ef_bin; (iterate 3 exact rfl); (first | exact cmp_t rfl (by first | exact rfl | (simp only [cmpP]; omega)) | ((with_reducible refine bin_sub (wrap_of ?_ ?_)) <;> omega))) | (apply ef_gn; exact rfl; (exact (rfl : true = true)); exact rfl) | (apply ef_gu; exact rfl; exact rfl) | (apply ef_pick; (iterate 3 exact rfl)) | (apply ef_len; exact rfl; exact rfl; (assumption)) | (apply ef_ldr; exact rfl; exact rfl; (exact rfl)) | (apply ef_ias; (iterate 3 exact rfl); (omega); assumption; exact rfl) | (apply ef_notF; exact rfl; exact rfl) | apply ef_nil | apply seqQ.normal | apply loopQ.ret | apply ef_ret | apply seqQ.ret | apply blockQ.ret | apply ef_block | apply ef_skip | (apply ef_condt; exact rfl; (exact (rfl : true = true))) | (apply ef_call; exact rfl; ((repeat (apply XVs.cons; exact rfl)); exact XVs.nil); (with_reducible exact Within_c k _ _ _ _ hw)))
   (refine fin1 rfl (by exact rfl) rfl ?_)
   rw [HZ.out, HD.out, isSB, hw]; rfl
  ·rcases hq with ⟨rfl, rfl⟩ | ⟨h0, hp⟩
   ·have hw2 := inB_iff.1 hw
    repeat (first | apply ef_seq | (apply ef_mv; exact rfl; exact rfl) | (apply ef_bin; (iterate 3 exact rfl); (first | exact cmp_t rfl (by first | exact rfl | (simp only [cmpP]; omega)) | exact cmp_f rfl (by simp only [cmpP]; omega) | ((with_reducible refine bin_add (wrap_of ?_ ?_)) <;> omega) | ((with_reducible refine bin_sub (wrap_of ?_ ?_)) <;> omega))) | (apply ef_gy; exact rfl; (exact (rfl : false = false))) | (apply ef_gn; exact rfl; (exact (rfl : false = false)); exact rfl) | (apply ef_pick; (iterate 3 exact rfl)) | (apply ef_len; exact rfl; exact rfl; (assumption)) | (apply ef_ldr; exact rfl; exact rfl; (exact rfl)) | (apply ef_ias; (iterate 3 exact rfl); (omega); assumption; exact rfl) | (apply ef_notT; exact rfl; exact rfl) | apply ef_nil | apply seqQ.normal | apply blockQ.normal | apply ef_block | apply ef_skip | (apply ef_condt; exact rfl; (exact (rfl : true = true))) | (apply ef_condf; exact rfl; (exact (rfl : false = false))) | (apply ef_call; exact rfl; ((repeat (apply XVs.cons; exact rfl)); exact XVs.nil); (with_reducible exact Within_c k _ _ _ _ hw)))
    (refine loopQ.normal _ _ ⟨(0 + 1, x), ⟨by simp only; omega, by rw [HZ.out, HD.out, isSB, hw, decide_eq_true (by omega)]; rfl, .inr ⟨by simp only; omega, e0⟩⟩, (by first | (simp only; omega) | omega), ⟨by ((repeat (refine Hold.cons (by exact rfl) ?_)); exact Hold.nil), by ((repeat (refine Hold.cons (by exact rfl) ?_)); exact Hold.nil)⟩, .inl (Nat.le_refl _), (by first | exact List.take_length | exact rfl | exact takeF rfl rfl)⟩)
   ·by_cases hqx : q < x
    ·repeat (first | apply ef_seq | (apply ef_mv; exact rfl; exact rfl) | (apply ef_bin; (iterate 3 exact rfl); (first | exact cmp_t rfl (by first | exact rfl | (simp only [cmpP]; omega)) | exact cmp_f rfl (by simp only [cmpP]; omega) | ((with_reducible refine bin_add (wrap_of ?_ ?_)) <;> omega) | ((with_reducible refine bin_sub (wrap_of ?_ ?_)) <;> omega))) | (apply ef_gy; exact rfl; (first | exact (rfl : true = true) | exact (rfl : false = false))) | (apply ef_pick; (iterate 3 exact rfl)) | (apply ef_len; exact rfl; exact rfl; (assumption)) | (apply ef_ldr; exact rfl; exact rfl; (exact rfl)) | (apply ef_ias; (iterate 3 exact rfl); (omega); assumption; exact rfl) | (apply ef_notT; exact rfl; exact rfl) | apply ef_nil | apply seqQ.normal | apply blockQ.normal | apply ef_block | apply ef_skip | (apply ef_condt; exact rfl; (exact (rfl : true = true))) | (apply ef_condf; exact rfl; (exact (rfl : false = false))) | (apply ef_call; exact rfl; ((repeat (apply XVs.cons; exact rfl)); exact XVs.nil); (with_reducible exact Within_c k _ _ _ _ hw)))
     (refine loopQ.normal _ _ ⟨(i + 1, x), ⟨by simp only; omega, by rw [HZ.out, HD.out, isSB, hw, decide_eq_true hqx]; rfl, .inr ⟨by simp only; omega, e0⟩⟩, (by first | (simp only; omega) | omega), ⟨by ((repeat (refine Hold.cons (by exact rfl) ?_)); exact Hold.nil), by ((repeat (refine Hold.cons (by exact rfl) ?_)); exact Hold.nil)⟩, .inl (Nat.le_refl _), (by first | exact List.take_length | exact rfl | exact takeF rfl rfl)⟩)
    ·repeat (first | apply ef_seq | (apply ef_mv; exact rfl; exact rfl) | (apply ef_bin; (iterate 3 exact rfl); (first | exact cmp_t rfl (by first | exact rfl | (simp only [cmpP]; omega)) | ((with_reducible refine bin_sub (wrap_of ?_ ?_)) <;> omega))) | (apply ef_gy; exact rfl; (first | exact (rfl : true = true) | exact (rfl : false = false))) | (apply ef_pick; (iterate 3 exact rfl)) | (apply ef_len; exact rfl; exact rfl; (assumption)) | (apply ef_ldr; exact rfl; exact rfl; (exact rfl)) | (apply ef_ias; (iterate 3 exact rfl); (omega); assumption; exact rfl) | (apply ef_notT; exact rfl; exact rfl) | apply ef_nil | apply seqQ.normal | apply loopQ.ret | apply ef_ret | apply seqQ.ret | apply blockQ.ret | apply ef_block | apply ef_skip | (apply ef_condt; exact rfl; (exact (rfl : true = true))) | (apply ef_call; exact rfl; ((repeat (apply XVs.cons; exact rfl)); exact XVs.nil); (with_reducible exact Within_c k _ _ _ _ hw)))
     (refine fin1 rfl (by exact rfl) rfl ?_)
     rw [HZ.out, HD.out, isSB, hw, decide_eq_false hqx]; rfl
 ·repeat (first | apply ef_seq | (apply ef_mv; exact rfl; exact rfl) | (apply ef_bin; (iterate 3 exact rfl); (exact cmp_f rfl (by simp only [cmpP]; omega))) | (apply ef_len; exact rfl; exact rfl; (assumption)) | apply ef_nil | apply seqQ.normal | apply loopQ.exit | apply ef_ret | apply ef_exit | apply seqQ.exit | apply blockQ.here | (apply ef_condf; exact rfl; (exact (rfl : false = false))))
  (refine fin1 rfl (by exact rfl) rfl ?_)
  rw [hz, List.drop_eq_nil_of_le (by omega)]; rfl
theorem isSet_c (k : Nat) (S : List Int) (n : Nat) (h : MHeap) {v : MV} (hl : S.length ≤ 1000) (hn : n ≤ 1000) (hv : frz 0 [] h 8 v = some (.sl (S.map I64))) {t : Bool} (ht : isSB n (-1) S = t) : orA (k + 2) 39 [v, I64 n] h = some (Bo t, h) := by
 subst ht
 exact callL (args' := [.sl (S.map I64), I64 n]) (by simp [List.mapM_cons, hv, frz_lt (m := I64 (n : Int)) rfl]) rfl (isSet_z k S n hl hn)
theorem mf_rPriceErr : MT.mf 37 = some ⟨15, [(.tmp 2)], (.seq (.reg [gO 1 (.box 2 (.s 0)), gO 2 (.mv (cI 0))]) (.seq (.seq (.reg [gO 3 (.ld (some 2) (.s 1)), gO 4 (.call 41 [.s 3]), gO 5 (.un .not (.s 4))]) (.cond (.s 5) (.seq (.reg [gO 2 (.mv (cI 3))]) .ret) .skip)) (.seq (.seq (.reg [gO 6 (.fa 0 (.s 1)), gO 7 (.ld none (.s 6)), gO 8 (.call 53 [.s 7, (cI 0), (cI 1000000)]), gO 9 (.un .not (.s 8)), gO 10 (.mv (.s 9)), ⟨some (10, false), some 11, .fa 1 (.s 1)⟩, ⟨some (10, false), some 12, .ld none (.s 11)⟩, ⟨some (10, false), some 13, .bin .gtr (.s 12) (cI 1000000)⟩, gO 14 (.pick (.s 10) cT (.s 13))]) (.cond (.s 14) (.seq (.reg [gO 2 (.mv (cI 2))]) .ret) .skip)) (.seq (.reg [gO 2 (.mv (cI 0))]) .ret))))⟩ := by kernel_rfl
def priE (p q : Int) : Int := if isLow p q then unl (inB p 0 1000000 && decide (q ≤ 1000000)) 2 else 3
theorem mf_bIsSmallB : MT.mf 42 = some ⟨11, [(.tmp 2)], (.seq (.reg [gO 1 (.box 2 (.s 0)), gO 2 (.mv cF)]) (.seq (.reg [gO 3 (.fa 0 (.s 1)), gO 4 (.ld none (.s 3)), gO 5 (.call 53 [.s 4, (cI (-1000000000)), (cI 1000000000)]), gO 6 (.mv (.s 5)), ⟨some (6, true), some 7, .fa 1 (.s 1)⟩, ⟨some (6, true), some 8, .ld none (.s 7)⟩, ⟨some (6, true), some 9, .call 53 [.s 8, (cI 1), (cI 1000000000)]⟩, gO 10 (.pick (.s 6) (.s 9) cF), gO 2 (.mv (.s 10))]) .ret))⟩ := by kernel_rfl
theorem bIsSmallB_c (k : Nat) (p q : Int) (h : MHeap) {t : Bool} (ht : (inB p (-1000000000) 1000000000 && inB q 1 1000000000) = t) : orA (k + 2) 42 [encPt (p, q)] h = some (Bo t, h) := by
 subst ht
 refine callL (args' := [encPt (p, q)]) (frzL_lt (by simp [ltL, MV.lt])) rfl (runZ_of mf_bIsSmallB (by simp) ?_)
 simp only [argsL]
 cases a1 : inB p (-1000000000) 1000000000
 ·repeat (first | apply ef_seq | (apply ef_mv; exact rfl; exact rfl) | (apply ef_gn; exact rfl; (exact (rfl : false = false)); exact rfl) | (apply ef_pick; (iterate 3 exact rfl)) | (apply ef_ldp; exact rfl; exact rfl; (exact rfl); exact rfl; (exact rfl); (exact rfl)) | (apply ef_fap; exact rfl; exact rfl) | (apply ef_box; (iterate 4 exact rfl)) | apply ef_nil | apply seqQ.normal | apply ef_ret | (apply ef_call; exact rfl; ((repeat (apply XVs.cons; exact rfl)); exact XVs.nil); (with_reducible exact Within_c k _ _ _ _ a1)))
  (refine fin1 rfl (by exact rfl) rfl ?_)
  rfl
 ·cases a2 : inB q 1 1000000000
  all_goals
   repeat (first | apply ef_seq | (apply ef_mv; exact rfl; exact rfl) | (apply ef_gy; exact rfl; (exact (rfl : true = true))) | (apply ef_pick; (iterate 3 exact rfl)) | (apply ef_ldp; exact rfl; exact rfl; (exact rfl); exact rfl; (exact rfl); (exact rfl)) | (apply ef_fap; exact rfl; exact rfl) | (apply ef_box; (iterate 4 exact rfl)) | apply ef_nil | apply seqQ.normal | apply ef_ret | (apply ef_call; exact rfl; ((repeat (apply XVs.cons; exact rfl)); exact XVs.nil); (with_reducible first | exact Within_c k _ _ _ _ a1 | exact Within_c k _ _ _ _ a2)))
   (refine fin1 rfl (by exact rfl) rfl ?_)
   rfl
theorem mf_bWhole : MT.mf 44 = some ⟨5, [(.cell 2 (some 2))], (.seq (.reg [gO 2 (.new (.agg [(.lit (.int .i64 0)), (.lit (.int .i64 0))]))]) (.seq (.reg [gO 3 (.mv (.s 0)), gO 4 (.build [(.lit (.int .i64 0)), (.lit (.int .i64 0))] [(0, (1, (.s 3))), (1, (1, (cI 1)))]), ⟨none, none, .st 2 (.s 2) (.s 4)⟩]) .ret))⟩ := by kernel_rfl
theorem bWhole_c (k : Nat) (n : Int) (h : MHeap) : orA (k + 1) 44 [I64 n] h = some (encPt (n, 1), h) := by
 refine callPt (p := (n, 1)) (args' := [I64 n]) (frz_lits [.int .i64 n]) rfl (runZ_of mf_bWhole (by simp) ?_)
 simp only [argsL]
 repeat (first | apply ef_seq | (apply ef_mv; exact rfl; exact rfl) | (apply ef_new; exact rfl) | (apply ef_build; exact rfl; (repeat (apply XVs.cons; exact rfl)); exact XVs.nil; exact rfl; exact rfl) | (apply ef_st; (iterate 6 exact rfl); (exact rfl); exact rfl) | apply ef_nil | apply seqQ.normal | apply ef_ret)
 refine finR1 (v := encPt (n, 1)) rfl ?_ (by exact rfl) rfl
 apply resC <;> exact rfl
theorem ltL_Pt (n : Nat) (zs : List (Int × Int)) : ltL n (zs.map encPt) = true := by
 induction zs with
 | nil => rfl
 | cons z zs ih => rw [List.map_cons, ltL, ih]; rfl
theorem mf_IndexFr : MT.mf 126 = some mfW_l126 := mfW_q126
theorem IndexFr_z (k g : Nat) (caps : List MV) (P : (Int × Int) → Bool) (zs : List (Int × Int)) (hx : zs.length ≤ 1000) (hcl : ltL 0 caps = true) (hg : ∀ z ∈ zs, ∀ h, orA k g (encPt z :: caps) h = some (Bo (P z), h)) :
  runZ MT (orA k) (itA k) 4000000 126 [.sl (zs.map encPt), .fn g 0 caps] [] = some (I64 (fIg P zs 0), []) := by
 have hl : (MV.sl (zs.map encPt)).slen = some zs.length := by simp [MV.slen]
 refine runZ_of mf_IndexFr (by simp) ?_
 simp only [argsL]
 repeat (first | apply ef_seq | (apply ef_mv; exact rfl; exact rfl) | (apply ef_len; exact rfl; exact rfl; (assumption)) | apply ef_nil | apply seqQ.normal | apply ef_block)
 refine ef_loopf (α := Nat) (fun i => i ≤ zs.length ∧ fIg P zs 0 = fIg P (zs.drop i) i) (fun i => [(8, I64 (i : Int))]) [(7, I64 (zs.length : Int)), (1, .fn g 0 caps), (0, .sl (zs.map encPt))] (fun _ => []) (fun i => zs.length - i) 0 [8] (fun _ => rfl) (by ((repeat (refine Hold.cons (by exact rfl) ?_)); exact Hold.nil)) (by ((repeat (refine Hold.cons (by exact rfl) ?_)); exact Hold.nil)) rfl rfl ⟨by omega, rfl⟩ (by simp; omega) ?_
 rintro i ⟨hi, hz⟩
 by_cases hlt : i < zs.length
 ·have e1 := at_map encPt zs i hlt
  have HD := Lib.hid (drop_at zs i hlt)
  have HZ := Lib.hid hz
  have hg1 := hg zs[i] (List.getElem_mem hlt)
  clear hz
  generalize zs[i] = z at e1 HD hg1
  obtain ⟨t, ht⟩ : ∃ t, P z = t := ⟨_, rfl⟩
  have HT := Lib.hid ht
  rw [ht] at hg1
  clear ht
  cases t
  ·repeat (first | apply ef_seq | (apply ef_mv; exact rfl; exact rfl) | (apply ef_bin; (iterate 3 exact rfl); (exact cmp_t rfl (by first | exact rfl | (simp only [cmpP]; omega)))) | (apply ef_ldr; exact rfl; exact rfl; (exact rd_2 rfl rfl)) | (apply ef_ias; (iterate 3 exact rfl); (omega); assumption; exact rfl) | apply ef_nil | apply seqQ.normal | apply ef_block | apply ef_skip | (apply ef_condt; exact rfl; (exact (rfl : true = true))))
   (apply ef_callv; (· exact rfl); (· exact rfl); (· ((repeat (apply XVs.cons; exact rfl)); exact XVs.nil)); (· exact rfl); (· exact hg1 _))
   repeat (first | (apply ef_mv; exact rfl; exact rfl) | (apply ef_bin; (iterate 3 exact rfl); (((with_reducible refine bin_add (wrap_of ?_ ?_)) <;> omega))) | apply ef_nil | apply seqQ.normal | apply blockQ.normal | apply ef_skip | (apply ef_condf; exact rfl; (exact (rfl : false = false))))
   (refine loopQ.normal _ _ ⟨i + 1, ⟨hlt, by rw [HZ.out, HD.out]; simp [fIg, HT.out]⟩, (by first | (simp only; omega) | omega), ⟨by ((repeat (refine Hold.cons (by exact rfl) ?_)); exact Hold.nil), by ((repeat (refine Hold.cons (by exact rfl) ?_)); exact Hold.nil)⟩, .inl (Nat.le_refl _), (by first | exact List.take_length | exact rfl | exact takeF rfl rfl)⟩)
  ·repeat (first | apply ef_seq | (apply ef_mv; exact rfl; exact rfl) | (apply ef_bin; (iterate 3 exact rfl); (exact cmp_t rfl (by first | exact rfl | (simp only [cmpP]; omega)))) | (apply ef_ldr; exact rfl; exact rfl; (exact rd_2 rfl rfl)) | (apply ef_ias; (iterate 3 exact rfl); (omega); assumption; exact rfl) | apply ef_nil | apply seqQ.normal | apply ef_block | apply ef_skip | (apply ef_condt; exact rfl; (exact (rfl : true = true))))
   (apply ef_callv; (· exact rfl); (· exact rfl); (· ((repeat (apply XVs.cons; exact rfl)); exact XVs.nil)); (· exact rfl); (· exact hg1 _))
   repeat (first | apply ef_seq | (apply ef_mv; exact rfl; exact rfl) | apply ef_nil | apply seqQ.normal | apply loopQ.ret | apply ef_ret | apply seqQ.ret | apply blockQ.ret | (apply ef_condt; exact rfl; (exact (rfl : true = true))))
   (refine fin1 rfl (by exact rfl) rfl ?_)
   rw [HZ.out, HD.out]; simp [fIg, HT.out]
 ·repeat (first | apply ef_seq | (apply ef_mv; exact rfl; exact rfl) | (apply ef_bin; (iterate 3 exact rfl); (exact cmp_f rfl (by simp only [cmpP]; omega))) | apply ef_nil | apply seqQ.normal | apply loopQ.exit | apply ef_ret | apply ef_exit | apply seqQ.exit | apply blockQ.here | (apply ef_condf; exact rfl; (exact (rfl : false = false))))
  (refine fin1 rfl (by exact rfl) rfl ?_)
  rw [hz, List.drop_eq_nil_of_le (by omega)]; rfl
theorem IndexFr_c (k g : Nat) (caps : List MV) (P : (Int × Int) → Bool) (zs : List (Int × Int)) (h : MHeap) {v fv : MV} (hx : zs.length ≤ 1000) (hcl : ltL 0 caps = true) (hg : ∀ z ∈ zs, ∀ h, orA k g (encPt z :: caps) h = some (Bo (P z), h)) (hv : frz 0 [] h 8 v = some (.sl (zs.map encPt))) (hf : frz 0 [] h 8 fv = some (.fn g 0 caps)) :
  orA (k + 1) 126 [v, fv] h = some (I64 (fIg P zs 0), h) :=
 callL (args' := [.sl (zs.map encPt), .fn g 0 caps]) (by simp [List.mapM_cons, hv, hf]) rfl (IndexFr_z k g caps P zs hx hcl hg)
theorem cw_drop {l : List Tg} {q p : Int} {i : Nat} (h : i < l.length) : cwZ q p (prT (l.drop i)) = (if p * l[i].c < l[i].s * q then l[i].c else 0) + cwZ q p (prT (l.drop (i + 1))) := by
 rw [List.drop_eq_getElem_cons h]; rfl
theorem gn_dropE {l : List Tg} {q p : Int} {i : Nat} (h : i < l.length) : gnZ q p (prT (l.drop i)) = mx 0 (l[i].s * q - p * l[i].c) + gnZ q p (prT (l.drop (i + 1))) := by
 rw [List.drop_eq_getElem_cons h]
 show max 0 (l[i].s * q - p * l[i].c) + _ = _
 congr 1
 unfold mx
 omega
theorem mul_bd {a b A B : Int} (ha : 0 ≤ a ∧ a ≤ A) (hb : 0 ≤ b ∧ b ≤ B) : 0 ≤ a * b ∧ a * b ≤ A * B := ⟨Int.mul_nonneg ha.1 hb.1, Int.mul_le_mul ha.2 hb.2 hb.1 (by omega)⟩
theorem mf_Pf2 : MT.mf 127 = some mfW_l127 := mfW_q127
theorem Pf2_c (k : Nat) (l : List Tg) (B : Int) (f : Pt) (h : MHeap) (hx : l.length ≤ 1000) (ok : OkTg l) (hp : 0 ≤ f.1 ∧ f.1 ≤ 1000000) (hq : 0 ≤ f.2 ∧ f.2 ≤ 1000000) : orA (k + 1) 127 [encPt f, .rp (.sl (l.map encTg)) 0, .rp (I64 B) 0] h = some (Bo (decide (cwZ f.2 f.1 (prT l) ≤ B)), h) := by
 have hs : (MV.sl (l.map encTg)).slen = some l.length := by simp [MV.slen]
 refine callL (args' := [encPt f, .rp (.sl (l.map encTg)) 0, .rp (I64 B) 0]) (frzL_lt (by simp [ltL, MV.lt, ltL_Tg])) rfl (runZ_of mf_Pf2 (by simp) ?_)
 simp only [argsL]
 repeat (first | apply ef_seq | (apply ef_mv; exact rfl; exact rfl) | (apply ef_len; exact rfl; exact rfl; (assumption)) | (apply ef_ldr; exact rfl; exact rfl; (exact rfl)) | (apply ef_box; (iterate 4 exact rfl)) | apply ef_nil | apply seqQ.normal | apply ef_block)
 refine ef_loopf (α := Nat × Int) (fun z => z.1 ≤ l.length ∧ z.2 + cwZ f.2 f.1 (prT (l.drop z.1)) = cwZ f.2 f.1 (prT l) ∧ 0 ≤ z.2 ∧ z.2 ≤ 1000000 * z.1) (fun z => [(10, I64 (z.1 : Int)), (5, I64 z.2)]) [(9, I64 (l.length : Int)), (8, .sl (l.map encTg)), (3, .ptr 0 0 0 0), (2, .rp (I64 B) 0)] (fun _ => [⟨0, false, 2, [encPt f]⟩]) (fun z => l.length - z.1) (0, 0) [10, 5] (fun _ => rfl) (by ((repeat (refine Hold.cons (by exact rfl) ?_)); exact Hold.nil)) (by ((repeat (refine Hold.cons (by exact rfl) ?_)); exact Hold.nil)) rfl rfl ⟨by omega, by simp, by simp, by simp⟩ (by simp; omega) ?_
 rintro ⟨i, s⟩ ⟨hi, hz, h1, h2⟩
 try simp only at hi hz h1 h2 ⊢
 by_cases hlt : i < l.length
 ·have e1 := at_map encTg l i hlt
  rw [cw_drop hlt] at hz
  obtain ⟨b1, b2⟩ := ok l[i] (List.getElem_mem hlt)
  generalize l[i] = x at *
  have m1 := mul_bd (A := 1000000) (B := 1000000) b2 hq
  have m2 := mul_bd (A := 1000000) (B := 1000000) hp b1
  by_cases hc : f.1 * x.c < x.s * f.2
  ·rw [if_pos hc] at hz
   repeat (first | apply ef_seq | (apply ef_mv; exact rfl; exact rfl) | (apply ef_bin; (iterate 3 exact rfl); (first | exact cmp_t rfl (by first | exact rfl | (simp only [cmpP]; omega)) | ((with_reducible refine bin_add (wrap_of ?_ ?_)) <;> omega) | ((with_reducible refine bin_mul (wrap_of ?_ ?_)) <;> omega))) | (apply ef_ldr; exact rfl; exact rfl; (exact rd_3 rfl rfl rfl)) | (apply ef_ldp; exact rfl; exact rfl; (exact rfl); exact rfl; (exact rfl); (exact rfl)) | (apply ef_ias; (iterate 3 exact rfl); (omega); assumption; exact rfl) | (apply ef_fap; exact rfl; exact rfl) | (apply ef_newst; (iterate 3 exact rfl); (exact rfl); exact rfl) | apply ef_nil | apply seqQ.normal | apply blockQ.normal | apply ef_block | apply ef_skip | (apply ef_condt; exact rfl; (exact (rfl : true = true))))
   (refine loopQ.normal _ _ ⟨(i + 1, s + x.c), ⟨by simp only; omega, by simp only; omega, by simp only; omega, by simp only; omega⟩, (by show l.length - (i + 1) < l.length - i; omega), ⟨by ((repeat (refine Hold.cons (by exact rfl) ?_)); exact Hold.nil), by ((repeat (refine Hold.cons (by exact rfl) ?_)); exact Hold.nil)⟩, .inr ⟨by ((repeat (refine hdl_cons rfl (by first | rfl | (simp [MV.lt, ltL, ltL_Tg])) ?_)); exact hdl_nil), by first | rfl | (simp [hltL, ltL, MV.lt, ltL, ltL_Tg])⟩, by first | exact rfl | (simp only [List.map_append, List.map_set]; exact rfl)⟩)
  ·rw [if_neg hc] at hz
   repeat (first | apply ef_seq | (apply ef_mv; exact rfl; exact rfl) | (apply ef_bin; (iterate 3 exact rfl); (first | exact cmp_t rfl (by first | exact rfl | (simp only [cmpP]; omega)) | exact cmp_f rfl (by simp only [cmpP]; omega) | ((with_reducible refine bin_add (wrap_of ?_ ?_)) <;> omega) | ((with_reducible refine bin_mul (wrap_of ?_ ?_)) <;> omega))) | (apply ef_ldr; exact rfl; exact rfl; (exact rd_3 rfl rfl rfl)) | (apply ef_ldp; exact rfl; exact rfl; (exact rfl); exact rfl; (exact rfl); (exact rfl)) | (apply ef_ias; (iterate 3 exact rfl); (omega); assumption; exact rfl) | (apply ef_fap; exact rfl; exact rfl) | (apply ef_newst; (iterate 3 exact rfl); (exact rfl); exact rfl) | apply ef_nil | apply seqQ.normal | apply blockQ.normal | apply ef_block | apply ef_skip | (apply ef_condt; exact rfl; (exact (rfl : true = true))) | (apply ef_condf; exact rfl; (exact (rfl : false = false))))
   (refine loopQ.normal _ _ ⟨(i + 1, s), ⟨by simp only; omega, by simp only; omega, by simp only; omega, by simp only; omega⟩, (by show l.length - (i + 1) < l.length - i; omega), ⟨by ((repeat (refine Hold.cons (by exact rfl) ?_)); exact Hold.nil), by ((repeat (refine Hold.cons (by exact rfl) ?_)); exact Hold.nil)⟩, .inr ⟨by ((repeat (refine hdl_cons rfl (by first | rfl | (simp [MV.lt, ltL, ltL_Tg])) ?_)); exact hdl_nil), by first | rfl | (simp [hltL, ltL, MV.lt, ltL, ltL_Tg])⟩, by first | exact rfl | (simp only [List.map_append, List.map_set]; exact rfl)⟩)
 ·rw [List.drop_eq_nil_of_le (by omega)] at hz
  have hz : s = cwZ f.2 f.1 (prT l) := by simpa [cwZ] using hz
  subst hz
  repeat (first | apply ef_seq | (apply ef_mv; exact rfl; exact rfl) | (apply ef_bin; (iterate 3 exact rfl); (first | exact cmp_f rfl (by simp only [cmpP]; omega) | exact rfl)) | (apply ef_ldr; exact rfl; exact rfl; (exact rfl)) | apply ef_nil | apply seqQ.normal | apply loopQ.exit | apply ef_ret | apply ef_exit | apply seqQ.exit | apply blockQ.here | (apply ef_condf; exact rfl; (exact (rfl : false = false))))
  (refine fin1 rfl (by exact rfl) rfl ?_)
  rfl
theorem mf_BoundAt : MT.mf 34 = some ⟨66, [(.cell 6 (some 2)), (.tmp 7)], (.seq (.reg [gO 5 (.box 2 (.s 2)), gO 6 (.new (.agg [(.lit (.int .i64 0)), (.lit (.int .i64 0))])), gO 7 (.mv (cI 0))]) (.seq (.reg [gO 13 (.fa 0 (.s 5)), gO 14 (.ld none (.s 13)), gO 15 (.call 103 [.s 14, (cI 0), (cI 1000000)]), gO 16 (.mv (.s 15)), ⟨some (16, true), some 17, .fa 1 (.s 5)⟩, ⟨some (16, true), some 18, .ld none (.s 17)⟩, ⟨some (16, true), some 19, .bin .leq (.s 18) (cI 1000000)⟩, gO 20 (.pick (.s 16) (.s 19) cF), gO 8 (.mv (.s 20))]) (.seq (.seq (.reg [gO 21 (.mv (.s 0)), gO 22 (.mv (.s 1)), gO 23 (.call 107 [.s 21, .s 22]), gO 24 (.ld (some 2) (.s 5)), gO 25 (.call 123 [.s 24]), gO 26 (.call 105 [.s 25, (cI 3)]), gO 27 (.mv (.s 8)), gO 28 (.call 105 [.s 27, (cI 2)]), gO 29 (.bsl (.lit (.int .i64 0)) 1 3 [(0, (.s 23)), (1, (.s 26)), (2, (.s 28))]), gO 30 (.call 104 [.s 29]), gO 9 (.mv (.s 30))]) (.seq (.reg [gO 31 (.mv (.s 9)), gO 32 (.bin .neq (.s 31) (cI 0))]) (.cond (.s 32) (.seq (.reg [gO 33 (.build [(.lit (.int .i64 0)), (.lit (.int .i64 0))] []), gO 34 (.mv (.s 9)), ⟨none, none, .st 2 (.s 6) (.s 33)⟩, gO 7 (.mv (.s 34))]) .ret) .skip))) (.seq (.reg [gO 35 (.fa 0 (.s 5)), gO 36 (.ld none (.s 35)), gO 37 (.mv (.s 1)), gO 38 (.bin .mul (.s 36) (.s 37)), gO 10 (.mv (.s 38))]) (.seq (.seq (.reg [gO 39 (.mv (.s 0)), gO 40 (.len (.s 39)), gO 41 (.mv (cI 0))]) (.block 0 (.loop [41, 40, 39, 10, 5, 6] (.seq (.reg [gO 42 (.bin .lss (.s 41) (.s 40))]) (.seq (.cond (.s 42) .skip (.exit 0)) (.seq (.block 1 (.seq (.reg [gO 43 (.ia 3 (.s 39) (.s 41)), gO 44 (.ld (some 3) (.s 43)), gO 12 (.new (.agg [(.lit (.string ⟨#[]⟩)), (.lit (.int .i64 0)), (.lit (.int .i64 0))])), ⟨none, none, .st 3 (.s 12) (.s 44)⟩]) (.reg [gO 45 (.mv (.s 10)), gO 46 (.fa 2 (.s 12)), gO 47 (.ld none (.s 46)), gO 48 (.fa 1 (.s 5)), gO 49 (.ld none (.s 48)), gO 50 (.bin .mul (.s 47) (.s 49)), gO 51 (.fa 0 (.s 5)), gO 52 (.ld none (.s 51)), gO 53 (.fa 1 (.s 12)), gO 54 (.ld none (.s 53)), gO 55 (.bin .mul (.s 52) (.s 54)), gO 56 (.bin .sub (.s 50) (.s 55)), gO 57 (.mx (cI 0) (.s 56)), gO 58 (.bin .add (.s 45) (.s 57)), gO 10 (.mv (.s 58))]))) (.reg [gO 59 (.bin .add (.s 41) (cI 1)), gO 41 (.mv (.s 59))]))))))) (.seq (.reg [gO 60 (.mv (.s 10)), gO 61 (.fa 1 (.s 5)), gO 62 (.ld none (.s 61)), gO 63 (.call 117 [.s 60, .s 62]), gO 64 (.ext (.s 63) 0), gO 65 (.ext (.s 63) 1), ⟨none, none, .st 2 (.s 6) (.s 64)⟩, gO 7 (.mv (.s 65))]) .ret))))))⟩ := by kernel_rfl
set_option maxHeartbeats 2000000 in
theorem BoundAt_c (k : Nat) (l : List Tg) (B : Int) (f : Pt) (h : MHeap) {v : MV} (hx : l.length ≤ 12) (hn : ∀ z ∈ l, z.nm.size ≤ 1000) (ok : OkTg l) (hv : frz 0 [] h 8 v = some (.sl (l.map encTg))) (he : bdgE l B = 0) (hB : 0 ≤ B ∧ B ≤ 1000000) (hp : 0 ≤ f.1 ∧ f.1 ≤ 1000000) (hq : 1 ≤ f.2 ∧ f.2 ≤ 1000000) (hlw : isLow f.1 f.2 = true) : orA (k + 8) 34 [v, I64 B, encPt f] h = some (.tup [encPt ((lowR (bnZ f.2 B f.1 (prT l)) f.2).1, (lowR (bnZ f.2 B f.1 (prT l)) f.2).2.1), I64 (lowR (bnZ f.2 B f.1 (prT l)) f.2).2.2], h) := by
 have hs : (MV.sl (l.map encTg)).slen = some l.length := by simp [MV.slen]
 refine callTP (p := ((lowR (bnZ f.2 B f.1 (prT l)) f.2).1, (lowR (bnZ f.2 B f.1 (prT l)) f.2).2.1)) (args' := [.sl (l.map encTg), I64 B, encPt f]) (by simp [List.mapM_cons, hv, frz_lt (m := I64 B) rfl, frz_lt (m := encPt f) rfl]) rfl (runZ_of mf_BoundAt (by simp) ?_)
 simp only [argsL]
 have w1 : inB f.1 0 1000000 = true := inB_iff.2 hp
 have h1 := fun h => budgetErr_c k l B h (v := .sl (l.map encTg)) (by omega) hn (frz_sl (ltL_Tg 0 l)) he
 have h2 := fun h => isLow_c (k + 5) f.1 f.2 h (by omega) hlw
 have h3 := fun h => unless_c (k + 6) true 3 h rfl
 have h4 := fun h => unless_c (k + 6) true 2 h rfl
 have mB := mul_bd (A := 1000000) (B := 1000000) hp hB
 repeat (first | apply ef_seq | (apply ef_mv; exact rfl; exact rfl) | (apply ef_bin; (iterate 3 exact rfl); (first | exact cmp_t rfl (by first | exact rfl | (simp only [cmpP]; omega)) | ((with_reducible refine bin_mul (wrap_of ?_ ?_)) <;> omega) | exact rfl)) | (apply ef_gy; exact rfl; (exact (rfl : true = true))) | (apply ef_pick; (iterate 3 exact rfl)) | (apply ef_len; exact rfl; exact rfl; (assumption)) | (apply ef_ldp; exact rfl; exact rfl; (exact rfl); exact rfl; (exact rfl); (first | exact rd_2 rfl rfl | exact rfl)) | (apply ef_fap; exact rfl; exact rfl) | (apply ef_box; (iterate 4 exact rfl)) | (apply ef_new; exact rfl) | (apply ef_bsl; exact rfl; (repeat (apply XVs.cons; exact rfl)); exact XVs.nil; exact rfl) | apply ef_nil | apply seqQ.normal | apply ef_block | apply ef_skip | (apply ef_condf; exact rfl; (exact (rfl : false = false))) | (apply ef_call; exact rfl; ((repeat (apply XVs.cons; exact rfl)); exact XVs.nil); (with_reducible first | exact h1 _ | exact h2 _ | exact h3 _ | exact h4 _ | exact within_c (k + 6) _ _ _ _ w1)) | (apply ef_call; exact rfl; ((repeat (apply XVs.cons; exact rfl)); exact XVs.nil); (with_reducible apply first3_c); (iterate 3 exact rfl); (exact rfl)))
 refine ef_loopf (α := Nat × Int) (fun z => z.1 ≤ l.length ∧ z.2 + gnZ f.2 f.1 (prT (l.drop z.1)) = bnZ f.2 B f.1 (prT l) ∧ 0 ≤ z.2 ∧ z.2 ≤ 1000000000000 + 1000000000000 * z.1) (fun z => [(41, I64 (z.1 : Int)), (10, I64 z.2)]) [(40, I64 (l.length : Int)), (39, .sl (l.map encTg)), (5, .ptr 0 0 0 0), (6, .ptr 1 0 0 0)] (fun _ => [⟨0, false, 2, [encPt f]⟩, ⟨0, false, 2, [.agg [I64 0, I64 0]]⟩, _]) (fun z => l.length - z.1) (0, f.1 * B) [41, 10] (fun _ => rfl) (by ((repeat (refine Hold.cons (by exact rfl) ?_)); exact Hold.nil)) (by ((repeat (refine Hold.cons (by exact rfl) ?_)); exact Hold.nil)) rfl rfl ⟨by omega, by simp [bnZ], by simp only; omega, by simp only; omega⟩ (by simp; omega) ?_
 rintro ⟨i, s⟩ ⟨hi, hz, a1, a2⟩
 try simp only at hi hz a1 a2 ⊢
 by_cases hlt : i < l.length
 ·have e1 := at_map encTg l i hlt
  rw [gn_dropE hlt] at hz
  obtain ⟨b1, b2⟩ := ok l[i] (List.getElem_mem hlt)
  generalize l[i] = x at *
  have m1 := mul_bd (A := 1000000) (B := 1000000) b2 ⟨by omega, hq.2⟩
  have m2 := mul_bd (A := 1000000) (B := 1000000) hp b1
  have m3 : 0 ≤ mx 0 (x.s * f.2 - f.1 * x.c) ∧ mx 0 (x.s * f.2 - f.1 * x.c) ≤ 1000000000000 := by unfold mx; split <;> omega
  repeat (first | apply ef_seq | (apply ef_mv; exact rfl; exact rfl) | (apply ef_bin; (iterate 3 exact rfl); (first | exact cmp_t rfl (by first | exact rfl | (simp only [cmpP]; omega)) | ((with_reducible refine bin_add (wrap_of ?_ ?_)) <;> omega) | ((with_reducible refine bin_sub (wrap_of ?_ ?_)) <;> omega) | ((with_reducible refine bin_mul (wrap_of ?_ ?_)) <;> omega))) | (apply ef_ldr; exact rfl; exact rfl; (exact rd_3 rfl rfl rfl)) | (apply ef_ldp; exact rfl; exact rfl; (exact rfl); exact rfl; (exact rfl); (exact rfl)) | (apply ef_ias; (iterate 3 exact rfl); (omega); assumption; exact rfl) | (apply ef_fap; exact rfl; exact rfl) | (apply ef_mx; (iterate 3 exact rfl)) | (apply ef_newst; (iterate 3 exact rfl); (exact rfl); exact rfl) | apply ef_nil | apply seqQ.normal | apply blockQ.normal | apply ef_block | apply ef_skip | (apply ef_condt; exact rfl; (exact (rfl : true = true))))
  (refine loopQ.normal _ _ ⟨(i + 1, s + mx 0 (x.s * f.2 - f.1 * x.c)), ⟨by simp only; omega, by simp only; omega, by simp only; omega, by simp only; omega⟩, (by show l.length - (i + 1) < l.length - i; omega), ⟨by ((repeat (refine Hold.cons (by exact rfl) ?_)); exact Hold.nil), by ((repeat (refine Hold.cons (by exact rfl) ?_)); exact Hold.nil)⟩, .inr ⟨by ((repeat (refine hdl_cons rfl (by first | rfl | (simp [MV.lt, ltL, ltL_Tg])) ?_)); exact hdl_nil), by first | rfl | (simp [hltL, ltL, MV.lt, ltL, ltL_Tg])⟩, by first | exact rfl | (simp only [List.map_append, List.map_set]; exact rfl)⟩)
 ·rw [List.drop_eq_nil_of_le (by omega)] at hz
  have hz : s = bnZ f.2 B f.1 (prT l) := by simpa [gnZ] using hz
  rw [hz] at a1 a2 ⊢
  have hlo := fun h => lowest_c (k + 3) (bnZ f.2 B f.1 (prT l)) f.2 h (by omega) (by omega) (by omega) (by omega)
  generalize bnZ f.2 B f.1 (prT l) = N at *
  subst hz
  repeat (first | apply ef_seq | (apply ef_mv; exact rfl; exact rfl) | (apply ef_bin; (iterate 3 exact rfl); (exact cmp_f rfl (by simp only [cmpP]; omega))) | (apply ef_ldp; exact rfl; exact rfl; (exact rfl); exact rfl; (exact rfl); (exact rfl)) | (apply ef_fap; exact rfl; exact rfl) | (apply ef_ext; (iterate 3 exact rfl)) | (apply ef_st; (iterate 6 exact rfl); (exact rfl); exact rfl) | apply ef_nil | apply seqQ.normal | apply loopQ.exit | apply ef_ret | apply ef_exit | apply seqQ.exit | apply blockQ.here | (apply ef_condf; exact rfl; (exact (rfl : false = false))) | (apply ef_call; exact rfl; ((repeat (apply XVs.cons; exact rfl)); exact XVs.nil); (with_reducible exact hlo _)))
  refine finR2 (v := encPt ((lowR s f.2).1, (lowR s f.2).2.1)) (w := I64 (lowR s f.2).2.2) rfl ?_ (by exact rfl) rfl rfl rfl
  apply resC <;> exact rfl
end Go.Proofs.YtnmgpbihknjdjaaGreatDoor

/- Contracts: the price. -/
namespace Go.Proofs.YtnmgpbihknjdjaaGreatDoor
open Go.RowKit
set_option linter.unusedVariables false
def OkC1 (l : List Tg) (C S : Int) : Prop := ∀ x ∈ l, (1 ≤ x.c ∧ x.c ≤ C) ∧ 0 ≤ x.s ∧ x.s ≤ S
theorem OkC1.tg {l : List Tg} {C S : Int} (h : OkC1 l C S) (hC : C ≤ 1000000) (hS : S ≤ 1000000) : OkTg l := fun x hx => by
 have := h x hx
 omega
theorem lowF_in {s c S C : Int} (hc : 1 ≤ c ∧ c ≤ C) (hs : 0 ≤ s ∧ s ≤ S) : (0 ≤ (lowF s c).1 ∧ (lowF s c).1 ≤ S) ∧ 1 ≤ (lowF s c).2 ∧ (lowF s c).2 ≤ C := by
 obtain ⟨e1, e2, e3⟩ := lowF_ok (n := s) (show c ≠ 0 by omega)
 have hg := (lowG_ok (n := s) (show c ≠ 0 by omega)).2.2.2.1 (by omega)
 generalize lowG s c = g at *
 generalize (lowF s c).1 = a at *
 generalize (lowF s c).2 = b at *
 have h1 : 0 ≤ a := by
  refine Classical.byContradiction fun hn => ?_
  have : g * a < 0 := Int.mul_neg_of_pos_of_neg hg (by omega)
  omega
 have h2 : 1 * a ≤ g * a := Int.mul_le_mul_of_nonneg_right (by omega) h1
 have h3 : 1 * b ≤ g * b := Int.mul_le_mul_of_nonneg_right (by omega) (by omega)
 omega
theorem cand_bd {l : List Tg} {C S : Int} (h : OkC1 l C S) (hC : 1 ≤ C) (hS : 0 ≤ S) {y : Int × Int} (hy : y ∈ cand l) : (0 ≤ y.1 ∧ y.1 ≤ S) ∧ 1 ≤ y.2 ∧ y.2 ≤ C := by
 rcases List.mem_cons.1 hy with rfl | hy
 ·exact ⟨⟨by simp, hS⟩, by simp, hC⟩
 ·obtain ⟨x, hx, rfl⟩ := List.mem_map.1 hy
  exact lowF_in (h x hx).1 (h x hx).2
theorem lowR_eq {s c : Int} (hc : 1 ≤ c ∧ c ≤ 1000000) (hs : 0 ≤ s ∧ s ≤ 1000000) : lowR s c = ((lowF s c).1, (lowF s c).2, 0) := by
 obtain ⟨⟨a1, a2⟩, a3, a4⟩ := lowF_in hc hs
 unfold lowR
 rw [inB_iff.2 ⟨by omega, by omega⟩, decide_eq_true (show (lowF s c).2 ≤ 1000000000 by omega)]; rfl
def prI (l : List Tg) (B : Int) : Int := fIg (fun x : Int × Int => decide (cwZ x.2 x.1 (prT l) ≤ B)) (sortFr (cand l)) 0
def prF (l : List Tg) (B : Int) : Pt := (sortFr (cand l)).getD (prI l B).toNat (0, 1)
theorem prF_ok {l : List Tg} {B C S : Int} (hB : 0 ≤ B) (h : OkC1 l C S) : IsPr l B (prF l B) ∧ (0 ≤ prI l B ∧ prI l B < l.length + 1) ∧ ((sortFr (cand l)).map encPt)[(prI l B).toNat]? = some (encPt (prF l B)) := by
 obtain ⟨i, hi, e, hp⟩ := first_pr (l := l) (B := B) hB (fun x hx => by have := (h x hx).1.1; omega)
 have e : prI l B = (i : Nat) := e
 have e2 : prF l B = (sortFr (cand l))[i] := by
  unfold prF
  rw [e, Int.toNat_natCast, List.getD_eq_getElem?_getD, List.getElem?_eq_getElem hi]; rfl
 have hsl : (sortFr (cand l)).length = l.length + 1 := by rw [(sortFr_perm _).length_eq]; simp [cand]
 refine ⟨by rw [e2]; exact hp, by omega, ?_⟩
 rw [e2, e, Int.toNat_natCast, List.getElem?_map, List.getElem?_eq_getElem hi]; rfl
theorem cand_take {l : List Tg} {i : Nat} (h : i < l.length) : ((cand l).take (i + 1 + 1)).map encPt = ((cand l).take (i + 1)).map encPt ++ [encPt (lowF l[i].s l[i].c)] := by
 have hc : i + 1 < (cand l).length := by simp [cand]; exact h
 have he : (cand l)[i + 1] = lowF l[i].s l[i].c := by simp [cand]
 rw [List.take_succ_eq_append_getElem hc, he, List.map_append]; rfl
theorem mf_PriceFor : MT.mf 35 = some mfW_l35 := mfW_q35
set_option maxHeartbeats 4000000 in
theorem PriceFor_c (k : Nat) (l : List Tg) (B : Int) (h : MHeap) {v : MV} (hx : l.length ≤ 12) (hn : ∀ z ∈ l, z.nm.size ≤ 1000) (ok : OkC1 l 1000000 1000000) (hv : frz 0 [] h 8 v = some (.sl (l.map encTg))) (he : bdgE l B = 0) (hB : 0 ≤ B) : orA (k + 8) 35 [v, I64 B] h = some (.tup [encPt (prF l B), I64 0], h) := by
 have hs : (MV.sl (l.map encTg)).slen = some l.length := by simp [MV.slen]
 refine callTP (p := prF l B) (args' := [.sl (l.map encTg), I64 B]) (by simp [List.mapM_cons, hv, frz_lt (m := I64 B) rfl]) rfl (runZ_of mf_PriceFor (by simp) ?_)
 simp only [argsL]
 have h1 := fun h => budgetErr_c k l B h (v := .sl (l.map encTg)) (by omega) hn (frz_sl (ltL_Tg 0 l)) he
 obtain ⟨hpr, ⟨hp0, hp1⟩, hat⟩ := prF_ok (l := l) (B := B) hB ok
 have hcl : (cand l).length = l.length + 1 := by simp [cand]
 have hsl : (sortFr (cand l)).length = l.length + 1 := by rw [(sortFr_perm _).length_eq, hcl]
 repeat (first | apply ef_seq | (apply ef_mv; exact rfl; exact rfl) | (apply ef_bin; (iterate 3 exact rfl); (exact cmp_f rfl (by simp only [cmpP]; omega))) | (apply ef_len; exact rfl; exact rfl; (assumption)) | (apply ef_ldp; exact rfl; exact rfl; (exact rfl); exact rfl; (exact rfl); (exact rfl)) | (apply ef_box; (iterate 4 exact rfl)) | (apply ef_new; exact rfl) | (apply ef_build; exact rfl; (repeat (apply XVs.cons; exact rfl)); exact XVs.nil; exact rfl; exact rfl) | (apply ef_bsl; exact rfl; (repeat (apply XVs.cons; exact rfl)); exact XVs.nil; exact rfl) | apply ef_nil | apply seqQ.normal | apply ef_block | apply ef_skip | (apply ef_condf; exact rfl; (exact (rfl : false = false))) | (apply ef_call; exact rfl; ((repeat (apply XVs.cons; exact rfl)); exact XVs.nil); (with_reducible exact h1 _)))
 refine ef_loopf (α := Nat × List MV) (fun z => z.1 ≤ l.length ∧ z.2 = ((cand l).take (z.1 + 1)).map encPt) (fun z => [(24, I64 (z.1 : Int)), (7, .arr 3 0 (z.1 + 1) z.1)]) [(23, I64 (l.length : Int)), (22, .sl (l.map encTg)), (2, .ptr 0 0 0 0), (3, .ptr 1 0 0 0), (4, .ptr 2 0 0 0)] (fun z => [⟨0, false, 1, [.sl (l.map encTg)]⟩, ⟨0, false, 1, [I64 B]⟩, ⟨0, false, 2, [.agg [I64 0, I64 0]]⟩, ⟨z.1, false, 2, z.2⟩]) (fun z => l.length - z.1) (0, [encPt (0, 1)]) [24, 7] (fun _ => rfl) (by ((repeat (refine Hold.cons (by exact rfl) ?_)); exact Hold.nil)) (by ((repeat (refine Hold.cons (by exact rfl) ?_)); exact Hold.nil)) rfl rfl ⟨by omega, rfl⟩ (by simp; omega) ?_
 rintro ⟨i, rs⟩ ⟨hi, hrs⟩
 try simp only at hi hrs ⊢
 have hrl : rs.length = i + 1 := by rw [hrs, List.length_map, List.length_take, hcl]; omega
 have hlr : ∀ j, ltL j rs = true := fun j => by rw [hrs]; exact ltL_Pt j _
 by_cases hlt : i < l.length
 ·have e1 := at_map encTg l i hlt
  have hnx := cand_take hlt
  obtain ⟨b1, b2⟩ := ok l[i] (List.getElem_mem hlt)
  generalize l[i] = x at *
  have hlo := fun h => lowest_c (k + 3) x.s x.c h (by omega) (by omega) (by omega) (by omega)
  rw [lowR_eq b1 b2] at hlo
  generalize lowF x.s x.c = y at *
  have hnx := Lib.hid hnx
  repeat (first | apply ef_seq | (apply ef_mv; exact rfl; exact rfl) | (apply ef_bin; (iterate 3 exact rfl); (exact cmp_t rfl (by first | exact rfl | (simp only [cmpP]; omega)))) | (apply ef_ldr; exact rfl; exact rfl; (exact rd_3 rfl rfl rfl)) | (apply ef_ldp; exact rfl; exact rfl; (exact rfl); exact rfl; (exact rfl); (first | exact rd_2 rfl rfl | exact rfl)) | (apply ef_ias; (iterate 3 exact rfl); (omega); assumption; exact rfl) | (apply ef_fap; exact rfl; exact rfl) | (apply ef_ext; (iterate 3 exact rfl)) | (apply ef_newst; (iterate 3 exact rfl); (exact rfl); exact rfl) | (apply ef_bsl; exact rfl; (repeat (apply XVs.cons; exact rfl)); exact XVs.nil; exact rfl) | apply ef_nil | apply seqQ.normal | apply ef_block | apply ef_skip | (apply ef_condt; exact rfl; (exact (rfl : true = true))) | (apply ef_call; exact rfl; ((repeat (apply XVs.cons; exact rfl)); exact XVs.nil); (with_reducible exact hlo _)))
  (apply ef_app; (· exact rfl); (· exact rfl); (· exact rfl); (· exact rfl); (· exact rfl); (· exact rfl); (· (simp [hrl])); (· exact rfl); (· (simp [hrl]; omega)); (· (exact rfl)); (· exact rfl))
  repeat (first | (apply ef_mv; exact rfl; exact rfl) | (apply ef_bin; (iterate 3 exact rfl); (((with_reducible refine bin_add (wrap_of ?_ ?_)) <;> omega))) | apply ef_nil | apply seqQ.normal | apply blockQ.normal)
  (refine loopQ.normal _ _ ⟨(i + 1, rs ++ [encPt y]), ⟨hlt, by simp only; rw [hnx.out, hrs]⟩, (by show l.length - (i + 1) < l.length - i; omega), ⟨by ((repeat (refine Hold.cons (by exact rfl) ?_)); exact Hold.nil), by ((repeat (refine Hold.cons (by exact rfl) ?_)); exact Hold.nil)⟩, .inr ⟨by ((repeat (refine hdl_cons rfl (by first | rfl | (simp [MV.lt, ltL, ltL_Tg, hlr, ltL_app2, splice, MV.cells])) ?_)); exact hdl_nil), by (simp [hltL, ltL, MV.lt, ltL, ltL_Tg, hlr, ltL_app2, splice, MV.cells])⟩, by exact rfl⟩)
 ·obtain rfl : i = l.length := by omega
  rw [List.take_of_length_le (by omega)] at hrs
  have hz := Lib.hid (show srtM 1 ((rs.drop 0).take (l.length + 1)) = some ((sortFr (cand l)).map encPt) by
   rw [List.drop_zero, List.take_of_length_le (by omega), hrs]
   exact srt_fracs fun y hy => by
    obtain ⟨⟨c1, c2⟩, c3, c4⟩ := cand_bd ok (by omega) (by omega) hy
    exact ⟨⟨⟨by omega, by omega⟩, by omega⟩, by omega, (cand_ok (fun x hx => by have := (ok x hx).1.1; omega) hy).2.2⟩)
  repeat (first | apply ef_seq | (apply ef_mv; exact rfl; exact rfl) | (apply ef_bin; (iterate 3 exact rfl); (exact cmp_f rfl (by simp only [cmpP]; omega))) | apply ef_nil | apply seqQ.normal | apply loopQ.exit | apply ef_exit | apply seqQ.exit | apply blockQ.here | (apply ef_condf; exact rfl; (exact (rfl : false = false))))
  refine ef_srt (ht := by exact rfl) (by exact rfl) (by exact rfl) (by exact rfl) (by simp [hrl]) (by omega) (by exact rfl) (by exact rfl) (by exact hz.out) ?_
  have hK : List.take 0 rs ++ List.map encPt (sortFr (cand l)) ++ List.drop (0 + (l.length + 1)) rs = List.map encPt (sortFr (cand l)) := by
   rw [List.take_zero, List.nil_append, Nat.zero_add, List.drop_eq_nil_of_le (by omega), List.append_nil]
  rw [hK]
  have hix := fun (M : MHeap) (q0 : M[0]? = some (⟨0, false, 1, [.sl (l.map encTg)]⟩ : MObj)) (q1 : M[1]? = some (⟨0, false, 1, [I64 B]⟩ : MObj)) (q3 : M[3]? = some (⟨l.length, false, 2, (sortFr (cand l)).map encPt⟩ : MObj)) => IndexFr_c (k + 6) 127 [.rp (.sl (l.map encTg)) 0, .rp (I64 B) 0] (fun x : Int × Int => decide (cwZ x.2 x.1 (prT l) ≤ B)) (sortFr (cand l)) M (v := .arr 3 0 (l.length + 1) l.length) (fv := .fn 127 0 [.ptr 0 0 0 0, .ptr 1 0 0 0]) (by omega) (by simp [ltL, MV.lt, ltL_Tg])
   (fun z hz h => by
    have hc := cand_bd ok (by omega) (by omega) ((sortFr_perm _).mem_iff.1 hz)
    exact Pf2_c (k + 5) l B z h (by omega) (ok.tg (by omega) (by omega)) hc.1 ⟨by omega, hc.2.2⟩)
   (frz_row q3 rfl (by rw [List.length_map]; omega) (ltL_Pt 0 _) rfl) (by simp [frz, MV.lt, ltL, q0, q1, ltL_Tg])
  have hix := fun M q0 q1 q3 => (show _ = some (I64 (prI l B), M) from hix M q0 q1 q3)
  clear hz hK
  generalize sortFr (cand l) = zs at *
  generalize prI l B = n at *
  generalize prF l B = y at *
  repeat (first | apply ef_seq | (apply ef_mv; exact rfl; exact rfl) | (apply ef_mf; exact rfl; (repeat (apply XVs.cons; exact rfl)); exact XVs.nil) | apply ef_nil | apply seqQ.normal)
  (apply ef_call; (· exact rfl); (· ((repeat (apply XVs.cons; exact rfl)); exact XVs.nil)); · exact hix _ (by exact rfl) (by exact rfl) (by exact rfl))
  repeat (first | apply ef_seq | (apply ef_mv; exact rfl; exact rfl) | (apply ef_iaa; (iterate 3 exact rfl); (omega); (omega); (exact ok_of rfl rfl rfl)) | apply ef_nil | apply seqQ.normal)
  have hat0 : (List.map encPt zs)[0 + n.toNat]? = some (encPt y) := by rw [Nat.zero_add]; exact hat
  (apply ef_ldp; (· exact rfl); (· exact rfl); (· exact rfl); (· exact rfl); (· exact hat0); (· exact rfl))
  repeat (first | (apply ef_mv; exact rfl; exact rfl) | (apply ef_st; (iterate 6 exact rfl); (exact rfl); exact rfl) | apply ef_nil | apply seqQ.normal | apply ef_ret)
  refine finR2 (v := encPt y) (w := I64 0) rfl ?_ (by exact rfl) rfl rfl rfl
  apply resC <;> exact rfl
end Go.Proofs.YtnmgpbihknjdjaaGreatDoor

/- Contracts: the cut for a slope. -/
namespace Go.Proofs.YtnmgpbihknjdjaaGreatDoor
open Go.RowKit
set_option linter.unusedVariables false
end Go.Proofs.YtnmgpbihknjdjaaGreatDoor

/- Contracts: the cuts of a layer. -/
namespace Go.Proofs.YtnmgpbihknjdjaaGreatDoor
open Go.RowKit
set_option linter.unusedVariables false
end Go.Proofs.YtnmgpbihknjdjaaGreatDoor

/- Contracts: the document's holes, layers and cuts. -/
namespace Go.Proofs.YtnmgpbihknjdjaaGreatDoor
open Go.RowKit
set_option linter.unusedVariables false
theorem mf_bIsLow : MT.mf 41 = some ⟨14, [(.tmp 2)], (.seq (.reg [gO 1 (.box 2 (.s 0)), gO 2 (.mv cF)]) (.seq (.reg [gO 3 (.fa 1 (.s 1)), gO 4 (.ld none (.s 3)), gO 5 (.bin .gtr (.s 4) (cI 0)), gO 6 (.mv (.s 5)), ⟨some (6, true), some 7, .fa 0 (.s 1)⟩, ⟨some (6, true), some 8, .ld none (.s 7)⟩, ⟨some (6, true), some 9, .fa 1 (.s 1)⟩, ⟨some (6, true), some 10, .ld none (.s 9)⟩, ⟨some (6, true), some 11, .call 131 [.s 8, .s 10]⟩, ⟨some (6, true), some 12, .bin .eql (.s 11) (cI 1)⟩, gO 13 (.pick (.s 6) (.s 12) cF), gO 2 (.mv (.s 13))]) .ret))⟩ := by kernel_rfl
theorem bIsLow_c (k : Nat) (p q : Int) (h : MHeap) (h4 : q ≤ 9223372036854775807) {t : Bool} (ht : isLow p q = t) : orA (k + 3) 41 [encPt (p, q)] h = some (Bo t, h) := by
 refine callL (args' := [encPt (p, q)]) (frzL_lt rfl) rfl (runZ_of mf_bIsLow (by simp) ?_)
 simp only [argsL]
 subst ht
 unfold isLow
 by_cases h0 : 0 < q
 ·have hd := fun h => bGcd_c k p q h (fun e => by omega) (by omega) h4
  generalize (Int.gcd p q : Int) = G at *
  by_cases hG : G = 1
  ·repeat (first | apply ef_seq | (apply ef_mv; exact rfl; exact rfl) | (apply ef_bin; (iterate 3 exact rfl); (exact cmp_t rfl (by first | exact rfl | (simp only [cmpP]; omega)))) | (apply ef_gy; exact rfl; (exact (rfl : true = true))) | (apply ef_pick; (iterate 3 exact rfl)) | (apply ef_ldp; (iterate 4 exact rfl); (exact rfl); (exact rfl)) | (apply ef_fap; exact rfl; exact rfl) | (apply ef_box; (iterate 4 exact rfl)) | apply ef_nil | apply seqQ.normal | apply ef_ret | (apply ef_call; exact rfl; ((repeat (apply XVs.cons; exact rfl)); exact XVs.nil); (with_reducible exact hd _)))
   (refine fin1 rfl (by exact rfl) rfl ?_)
   simp [h0, hG]
  ·repeat (first | apply ef_seq | (apply ef_mv; exact rfl; exact rfl) | (apply ef_bin; (iterate 3 exact rfl); (first | exact cmp_t rfl (by first | exact rfl | (simp only [cmpP]; omega)) | exact cmp_f rfl (by simp only [cmpP]; omega))) | (apply ef_gy; exact rfl; (exact (rfl : true = true))) | (apply ef_pick; (iterate 3 exact rfl)) | (apply ef_ldp; (iterate 4 exact rfl); (exact rfl); (exact rfl)) | (apply ef_fap; exact rfl; exact rfl) | (apply ef_box; (iterate 4 exact rfl)) | apply ef_nil | apply seqQ.normal | apply ef_ret | (apply ef_call; exact rfl; ((repeat (apply XVs.cons; exact rfl)); exact XVs.nil); (with_reducible exact hd _)))
   (refine fin1 rfl (by exact rfl) rfl ?_)
   simp [h0, hG]
 ·repeat (first | apply ef_seq | (apply ef_mv; exact rfl; exact rfl) | (apply ef_bin; (iterate 3 exact rfl); (exact cmp_f rfl (by simp only [cmpP]; omega))) | (apply ef_gn; exact rfl; (exact (rfl : false = false)); exact rfl) | (apply ef_pick; (iterate 3 exact rfl)) | (apply ef_ldp; (iterate 4 exact rfl); (exact rfl); (exact rfl)) | (apply ef_fap; exact rfl; exact rfl) | (apply ef_box; (iterate 4 exact rfl)) | apply ef_nil | apply seqQ.normal | apply ef_ret)
  (refine fin1 rfl (by exact rfl) rfl ?_)
  simp [h0]
end Go.Proofs.YtnmgpbihknjdjaaGreatDoor

/- Bounds: what the law asks (plain laws). -/
namespace Go.Proofs.YtnmgpbihknjdjaaGreatDoor
open Go.RowKit
set_option linter.unusedVariables false
theorem isSB_nat (n : Nat) : ∀ (S : List Nat) (p : Int), (∀ i ∈ S, p < i ∧ i < n) → S.Pairwise (· < ·) → isSB n p (natI S) = true
 | [], _, _, _ => rfl
 | i :: S, p, h, ha => by
  obtain ⟨a1, a2⟩ := List.pairwise_cons.1 ha
  obtain ⟨h1, h2⟩ := h i (List.mem_cons_self ..)
  show isSB n p ((i : Int) :: natI S) = true
  rw [isSB, inB_iff.2 ⟨by omega, by omega⟩, decide_eq_true h1, isSB_nat n S i (fun j hj => ⟨by have := a1 j hj; omega, (h j (List.mem_cons_of_mem _ hj)).2⟩) a2]; rfl
theorem nat_isSB (n : Nat) : ∀ (ws : List Int) (p : Int), isSB n p ws = true → ∃ W : List Nat, ws = natI W ∧ (∀ i ∈ W, p < i ∧ i < n) ∧ W.Pairwise (· < ·)
 | [], _, _ => ⟨[], rfl, by simp, .nil⟩
 | x :: ws, p, h => by
  rw [isSB, Bool.and_eq_true, Bool.and_eq_true, inB_iff, decide_eq_true_eq] at h
  obtain ⟨⟨⟨h1, h2⟩, h3⟩, h4⟩ := h
  obtain ⟨W, rfl, g1, g2⟩ := nat_isSB n ws x h4
  obtain ⟨i, rfl⟩ := Int.eq_ofNat_of_zero_le h1
  refine ⟨i :: W, rfl, fun j hj => ?_, List.pairwise_cons.2 ⟨fun j hj => ?_, g2⟩⟩
  ·rcases List.mem_cons.1 hj with rfl | hj
   ·omega
   ·have := g1 j hj; omega
  ·have := g1 j hj; omega
theorem lowR_eq9 {s c : Int} (hc : 1 ≤ c ∧ c ≤ 1000000000) (hs : 0 ≤ s ∧ s ≤ 1000000000) : lowR s c = ((lowF s c).1, (lowF s c).2, 0) := by
 obtain ⟨⟨a1, a2⟩, a3, a4⟩ := lowF_in hc hs
 unfold lowR
 rw [inB_iff.2 ⟨by omega, by omega⟩, decide_eq_true a4]; rfl
theorem isLow_low {n d : Int} (hd : d ≠ 0) : isLow (lowF n d).1 (lowF n d).2 = true := by
 unfold isLow
 rw [lowF_low hd, decide_eq_true (lowF_ok (n := n) hd).2.2]; rfl
structure BndF (l : List Tg) (B m : Int) (x : Pt) : Prop where
 pri : priE x.1 x.2 = 0
 low : isLow x.1 x.2 = true
 p1 : 0 ≤ x.1 ∧ x.1 ≤ 1000
 p2 : 1 ≤ x.2 ∧ x.2 ≤ 1000
 eq : lowR (bnZ x.2 B x.1 (prT l)) x.2 = ((lowF (bnZ x.2 B x.1 (prT l)) x.2).1, (lowF (bnZ x.2 B x.1 (prT l)) x.2).2, 0)
 big : m * (lowF (bnZ x.2 B x.1 (prT l)) x.2).2 ≤ (lowF (bnZ x.2 B x.1 (prT l)) x.2).1
 bds : (0 ≤ (lowF (bnZ x.2 B x.1 (prT l)) x.2).1 ∧ (lowF (bnZ x.2 B x.1 (prT l)) x.2).1 ≤ 1000000000) ∧ 1 ≤ (lowF (bnZ x.2 B x.1 (prT l)) x.2).2 ∧ (lowF (bnZ x.2 B x.1 (prT l)) x.2).2 ≤ 1000
theorem bnd_ok {l : List Tg} {B : Int} (hl : l.length ≤ 8) (hB : 0 ≤ B ∧ B ≤ 10000) (ok : OkC1 l 1000 1000) : BndF l B (bestF l B (2 ^ l.length)).2 (prF l B) := by
 have hpr := (prF_ok (l := l) (B := B) hB.1 ok).1
 obtain ⟨⟨b1, b2⟩, b3, b4⟩ := cand_bd ok (by omega) (by omega) hpr.mem
 have hcp : ∀ x ∈ l, 0 < x.c := fun x hx => by have := (ok x hx).1.1; omega
 obtain ⟨c1, _, c3⟩ := cand_ok hcp hpr.mem
 generalize prF l B = x at *
 have hlw : isLow x.1 x.2 = true := by unfold isLow; rw [c3, decide_eq_true c1]; rfl
 have hN := gn_bd (q := x.2) (p := x.1) (S := 1000) (C := 1000) (by omega) b1 (prT l) (fun z hz => by
  obtain ⟨y, hy, rfl⟩ := List.mem_map.1 hz
  have := ok y hy
  simp only
  omega)
 have hN0 := gn_nn x.2 x.1 (prT l)
 have m1 := mul_bd (A := 1000) (B := 10000) ⟨b1, b2⟩ hB
 have m2 := mul_bd (a := ((prT l).length : Int)) (b := 1000 * x.2) (A := 8) (B := 1000000) (by rw [List.length_map]; omega) (by omega)
 obtain ⟨⟨X, _, h1⟩, h2, h3, h4⟩ := bestF_ok l hB.1 (2 ^ l.length)
 obtain ⟨hi, ha⟩ := bestF_lt (l := l) (B := B) (n := l.length) (by omega)
 have hw := weak_bn l (q := x.2) (p := x.1) (B := B) b1 hi ha h2
 rw [h3] at hw
 have hbn : 0 ≤ bnZ x.2 B x.1 (prT l) ∧ bnZ x.2 B x.1 (prT l) ≤ 1000000000 := by unfold bnZ; omega
 generalize (bestF l B (2 ^ l.length)).2 = m at *
 have e := low_le (n := m) (d := 1) (m := bnZ x.2 B x.1 (prT l)) (c := x.2) (by decide) c1 (by rw [Int.mul_one]; exact hw)
 have em : lowF m 1 = (m, 1) := by
  have hg : Int.gcd m 1 = 1 := by simp
  unfold lowF lowG
  rw [hg]
  simp
 rw [em] at e
 have bds := lowF_in (s := bnZ x.2 B x.1 (prT l)) (c := x.2) (C := 1000) (S := 1000000000) ⟨b3, b4⟩ hbn
 refine ⟨?_, hlw, ⟨b1, b2⟩, ⟨b3, b4⟩, lowR_eq9 ⟨b3, by omega⟩ hbn, by simpa using e, bds⟩
 unfold priE
 rw [hlw, inB_iff.2 ⟨b1, by omega⟩, decide_eq_true (show x.2 ≤ 1000000 by omega)]; rfl
theorem bnd_min {l : List Tg} {B : Int} (hB : 0 ≤ B) {C S : Int} (ok : OkC1 l C S) {p q : Int} (hp : 0 ≤ p) (hq : 0 < q) : (lowF (bnZ (prF l B).2 B (prF l B).1 (prT l)) (prF l B).2).1 * (lowF (bnZ q B p (prT l)) q).2 ≤ (lowF (bnZ q B p (prT l)) q).1 * (lowF (bnZ (prF l B).2 B (prF l B).1 (prT l)) (prF l B).2).2 := by
 have hpr := (prF_ok (l := l) (B := B) hB ok).1
 have hcp : ∀ x ∈ l, 0 < x.c := fun x hx => by have := (ok x hx).1.1; omega
 obtain ⟨c1, _, _⟩ := cand_ok hcp hpr.mem
 exact low_le c1 hq ((price_spec hcp hpr).1 p q hp hq)
theorem priE_ok {p q : Int} (h : priE p q = 0) : isLow p q = true ∧ (0 ≤ p ∧ p ≤ 1000000) ∧ 1 ≤ q ∧ q ≤ 1000000 := by
 unfold priE at h
 cases h1 : isLow p q <;> rw [h1] at h
 ·simp at h
 ·rw [if_pos rfl, unl_zero (by decide), Bool.and_eq_true, inB_iff, decide_eq_true_eq] at h
  unfold isLow at h1
  rw [Bool.and_eq_true, decide_eq_true_eq] at h1
  exact ⟨rfl, h.1, by omega, h.2⟩
theorem rPriceErr_c (k : Nat) (f : Pt) (h : MHeap) (h4 : f.2 ≤ 9223372036854775807) {e : Int} (he : priE f.1 f.2 = e) : orA (k + 4) 37 [encPt f] h = some (I64 e, h) := by
 subst he
 refine callL (args' := [encPt f]) (frzL_lt (by simp [ltL, MV.lt])) rfl (runZ_of mf_rPriceErr (by simp) ?_)
 simp only [argsL]
 unfold priE
 obtain ⟨t, ht⟩ : ∃ t, isLow f.1 f.2 = t := ⟨_, rfl⟩
 have h1 := fun h => bIsLow_c k f.1 f.2 h h4 ht
 rw [ht]
 cases t
 ·repeat (first | apply ef_seq | (apply ef_mv; exact rfl; exact rfl) | (apply ef_ldp; exact rfl; exact rfl; (exact rfl); exact rfl; (exact rfl); (exact rd_2 rfl rfl)) | (apply ef_notF; exact rfl; exact rfl) | (apply ef_box; (iterate 4 exact rfl)) | apply ef_nil | apply seqQ.normal | apply ef_ret | apply seqQ.ret | (apply ef_condt; exact rfl; (exact (rfl : true = true))) | (apply ef_call; exact rfl; ((repeat (apply XVs.cons; exact rfl)); exact XVs.nil); (with_reducible exact h1 _)))
  (refine fin1 rfl (by exact rfl) rfl ?_)
  rfl
 ·cases a1 : inB f.1 0 1000000
  ·repeat (first | apply ef_seq | (apply ef_mv; exact rfl; exact rfl) | (apply ef_gn; exact rfl; (exact (rfl : true = true)); exact rfl) | (apply ef_pick; (iterate 3 exact rfl)) | (apply ef_ldp; exact rfl; exact rfl; (exact rfl); exact rfl; (exact rfl); (first | exact rd_2 rfl rfl | exact rfl)) | (apply ef_fap; exact rfl; exact rfl) | (apply ef_notT; exact rfl; exact rfl) | (apply ef_notF; exact rfl; exact rfl) | (apply ef_box; (iterate 4 exact rfl)) | apply ef_nil | apply seqQ.normal | apply ef_ret | apply seqQ.ret | apply ef_skip | (apply ef_condt; exact rfl; (exact (rfl : true = true))) | (apply ef_condf; exact rfl; (exact (rfl : false = false))) | (apply ef_call; exact rfl; ((repeat (apply XVs.cons; exact rfl)); exact XVs.nil); (with_reducible first | exact h1 _ | exact Within_c (k + 2) _ _ _ _ a1)))
   (refine fin1 rfl (by exact rfl) rfl ?_)
   rfl
  ·by_cases a2 : f.2 ≤ 1000000
   ·rw [decide_eq_true a2]
    repeat (first | apply ef_seq | (apply ef_mv; exact rfl; exact rfl) | (apply ef_bin; (iterate 3 exact rfl); (exact cmp_f rfl (by simp only [cmpP]; omega))) | (apply ef_gy; exact rfl; (exact (rfl : false = false))) | (apply ef_pick; (iterate 3 exact rfl)) | (apply ef_ldp; exact rfl; exact rfl; (exact rfl); exact rfl; (exact rfl); (first | exact rd_2 rfl rfl | exact rfl)) | (apply ef_fap; exact rfl; exact rfl) | (apply ef_notT; exact rfl; exact rfl) | (apply ef_box; (iterate 4 exact rfl)) | apply ef_nil | apply seqQ.normal | apply ef_ret | apply ef_skip | (apply ef_condf; exact rfl; (exact (rfl : false = false))) | (apply ef_call; exact rfl; ((repeat (apply XVs.cons; exact rfl)); exact XVs.nil); (with_reducible first | exact h1 _ | exact Within_c (k + 2) _ _ _ _ a1)))
    (refine fin1 rfl (by exact rfl) rfl ?_)
    rfl
   ·rw [decide_eq_false a2]
    repeat (first | apply ef_seq | (apply ef_mv; exact rfl; exact rfl) | (apply ef_bin; (iterate 3 exact rfl); (exact cmp_t rfl (by first | exact rfl | (simp only [cmpP]; omega)))) | (apply ef_gy; exact rfl; (exact (rfl : false = false))) | (apply ef_pick; (iterate 3 exact rfl)) | (apply ef_ldp; exact rfl; exact rfl; (exact rfl); exact rfl; (exact rfl); (first | exact rd_2 rfl rfl | exact rfl)) | (apply ef_fap; exact rfl; exact rfl) | (apply ef_notT; exact rfl; exact rfl) | (apply ef_box; (iterate 4 exact rfl)) | apply ef_nil | apply seqQ.normal | apply ef_ret | apply seqQ.ret | apply ef_skip | (apply ef_condt; exact rfl; (exact (rfl : true = true))) | (apply ef_condf; exact rfl; (exact (rfl : false = false))) | (apply ef_call; exact rfl; ((repeat (apply XVs.cons; exact rfl)); exact XVs.nil); (with_reducible first | exact h1 _ | exact Within_c (k + 2) _ _ _ _ a1)))
    (refine fin1 rfl (by exact rfl) rfl ?_)
    rfl
theorem lowR_two (n d : Int) (hd : 0 < d) : (lowR n d = ((lowF n d).1, (lowF n d).2, 0) ∧ inB (lowF n d).1 (-1000000000) 1000000000 = true ∧ inB (lowF n d).2 1 1000000000 = true) ∨ lowR n d = (0, 0, 8) := by
 have h0 := (lowF_ok (n := n) (show d ≠ 0 by omega)).2.2
 unfold lowR
 by_cases h : (inB (lowF n d).1 (-1000000000) 1000000000 && decide ((lowF n d).2 ≤ 1000000000)) = true
 ·rw [if_pos h]
  rw [Bool.and_eq_true, decide_eq_true_eq] at h
  exact .inl ⟨rfl, h.1, inB_iff.2 ⟨by omega, h.2⟩⟩
 ·rw [if_neg h]; exact .inr rfl
end Go.Proofs.YtnmgpbihknjdjaaGreatDoor
