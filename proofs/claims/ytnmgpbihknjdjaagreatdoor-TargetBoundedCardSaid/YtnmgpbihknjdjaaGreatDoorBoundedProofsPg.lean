/- The row of TargetBounded. -/
import Derived.Test.YtnmgpbihknjdjaaGreatDoorCards
import Derived.Test.YtnmgpbihknjdjaaGreatDoorTie
import Derived.LaidMore
import Derived.LaidOnce
import Derived.SevenTiedAt
import Derived.Stop.Joined
import Derived.Test.YtnmgpbihknjdjaaGreatDoorProg
import Derived.Test.YtnmgpbihknjdjaaGreatDoorChecked
import Derived.Test.YtnmgpbihknjdjaaGreatDoorRows
import Derived.Test.YtnmgpbihknjdjaaGreatDoorBoundedProofsPf
set_option linter.unusedVariables false
set_option linter.unusedSimpArgs false
/- TargetBounded: the walk. -/
namespace Go.Proofs.YtnmgpbihknjdjaaGreatDoor
open Go.RowKit
set_option linter.unusedVariables false
theorem cmpI_nn {a b : Int} (h : b ≤ a) : 0 ≤ cmpI a b := by unfold cmpI; split <;> (try split) <;> omega
theorem mf_lawBd : MT.mf 6 = some ⟨226, [(.tmp 6)], (.seq (.reg [gO 4 (.box 2 (.s 1)), gO 5 (.box 2 (.s 2)), gO 6 (.mv cF)]) (.seq (.seq (.reg [gO 24 (.call 15 []), gO 25 (.un .not (.s 24))]) (.cond (.s 25) (.seq (.reg [gO 6 (.mv cF)]) .ret) .skip)) (.seq (.seq (.reg [gO 26 (.mv (.s 0)), gO 27 (.call 16 [.s 26]), gO 28 (.un .not (.s 27)), gO 29 (.mv (.s 28)), ⟨some (29, false), some 30, .mv (.s 0)⟩, ⟨some (29, false), some 31, .len (.s 30)⟩, ⟨some (29, false), some 32, .bin .gtr (.s 31) (cI 8)⟩, gO 33 (.pick (.s 29) cT (.s 32)), gO 34 (.mv (.s 33)), ⟨some (34, false), some 35, .mv (.s 0)⟩, ⟨some (34, false), some 36, .fa 0 (.s 4)⟩, ⟨some (34, false), some 37, .ld none (.s 36)⟩, ⟨some (34, false), some 38, .call 22 [.s 35, .s 37]⟩, ⟨some (34, false), some 39, .bin .neq (.s 38) (cI 0)⟩, gO 40 (.pick (.s 34) cT (.s 39)), gO 41 (.mv (.s 40)), ⟨some (41, false), some 42, .fa 0 (.s 4)⟩, ⟨some (41, false), some 43, .ld none (.s 42)⟩, ⟨some (41, false), some 44, .bin .gtr (.s 43) (cI 10000)⟩, gO 45 (.pick (.s 41) cT (.s 44)), gO 46 (.mv (.s 45)), ⟨some (46, false), some 47, .ld (some 2) (.s 5)⟩, ⟨some (46, false), some 48, .call 37 [.s 47]⟩, ⟨some (46, false), some 49, .bin .neq (.s 48) (cI 0)⟩, gO 50 (.pick (.s 46) cT (.s 49)), gO 51 (.mv (.s 50)), ⟨some (51, false), some 52, .fa 1 (.s 4)⟩, ⟨some (51, false), some 53, .ld none (.s 52)⟩, ⟨some (51, false), some 54, .len (.s 53)⟩, ⟨some (51, false), some 55, .bin .gtr (.s 54) (cI 8)⟩, gO 56 (.pick (.s 51) cT (.s 55))]) (.cond (.s 56) (.seq (.reg [gO 6 (.mv cT)]) .ret) .skip)) (.seq (.seq (.reg [gO 7 (.mv (cI 0))]) (.block 0 (.loop [7, 0, 4, 5] (.seq (.seq (.reg [gO 57 (.mv (.s 7)), gO 58 (.mv (.s 0)), gO 59 (.len (.s 58)), gO 60 (.bin .lss (.s 57) (.s 59))]) (.cond (.s 60) .skip (.exit 0))) (.seq (.block 1 (.seq (.reg [gO 63 (.mv (.s 0)), gO 64 (.mv (.s 7)), gO 65 (.ia 3 (.s 63) (.s 64)), gO 66 (.fa 1 (.s 65)), gO 67 (.ld none (.s 66)), gO 68 (.bin .gtr (.s 67) (cI 1000)), gO 69 (.mv (.s 68)), ⟨some (69, false), some 70, .mv (.s 0)⟩, ⟨some (69, false), some 71, .mv (.s 7)⟩, ⟨some (69, false), some 72, .ia 3 (.s 70) (.s 71)⟩, ⟨some (69, false), some 73, .fa 2 (.s 72)⟩, ⟨some (69, false), some 74, .ld none (.s 73)⟩, ⟨some (69, false), some 75, .bin .gtr (.s 74) (cI 1000)⟩, gO 76 (.pick (.s 69) cT (.s 75))]) (.cond (.s 76) (.seq (.reg [gO 6 (.mv cT)]) .ret) .skip))) (.reg [gO 61 (.mv (.s 7)), gO 62 (.bin .add (.s 61) (cI 1)), gO 7 (.mv (.s 62))])))))) (.seq (.reg [gO 78 (.mv (.s 0)), gO 79 (.call 19 [.s 78]), gO 80 (.fa 0 (.s 4)), gO 81 (.ld none (.s 80)), gO 82 (.call 20 [.s 79, .s 81]), gO 77 (.mv (.s 82)), gO 83 (.ext (.s 77) 0), gO 84 (.ext (.s 77) 1), gO 85 (.ext (.s 77) 2), gO 8 (.mv (.s 83)), gO 9 (.mv (.s 84)), gO 10 (.mv (.s 85))]) (.seq (.seq (.reg [gO 86 (.mv (.s 10)), gO 87 (.bin .neq (.s 86) (cI 0)), gO 88 (.mv (.s 87)), ⟨some (88, false), some 89, .mv (.s 8)⟩, ⟨some (88, false), some 90, .mv (.s 0)⟩, ⟨some (88, false), some 91, .len (.s 90)⟩, ⟨some (88, false), some 92, .call 39 [.s 89, .s 91]⟩, ⟨some (88, false), some 93, .un .not (.s 92)⟩, gO 94 (.pick (.s 88) cT (.s 93))]) (.cond (.s 94) (.seq (.reg [gO 6 (.mv cF)]) .ret) .skip)) (.seq (.seq (.reg [gO 96 (.mv (.s 0)), gO 97 (.mv (.s 8)), gO 98 (.call 40 [.s 96, .s 97]), gO 95 (.mv (.s 98)), gO 99 (.ext (.s 95) 0), gO 100 (.ext (.s 95) 1), gO 11 (.mv (.s 99)), gO 12 (.mv (.s 100))]) (.seq (.reg [gO 101 (.mv (.s 11)), gO 102 (.fa 0 (.s 4)), gO 103 (.ld none (.s 102)), gO 104 (.bin .gtr (.s 101) (.s 103)), gO 105 (.mv (.s 104)), ⟨some (105, false), some 106, .mv (.s 12)⟩, ⟨some (105, false), some 107, .mv (.s 9)⟩, ⟨some (105, false), some 108, .bin .neq (.s 106) (.s 107)⟩, gO 109 (.pick (.s 105) cT (.s 108))]) (.cond (.s 109) (.seq (.reg [gO 6 (.mv cF)]) .ret) .skip))) (.seq (.seq (.reg [gO 110 (.fa 1 (.s 4)), gO 111 (.ld none (.s 110)), gO 112 (.mv (.s 0)), gO 113 (.len (.s 112)), gO 114 (.call 39 [.s 111, .s 113])]) (.cond (.s 114) (.seq (.reg [gO 116 (.mv (.s 0)), gO 117 (.fa 1 (.s 4)), gO 118 (.ld none (.s 117)), gO 119 (.call 40 [.s 116, .s 118]), gO 115 (.mv (.s 119)), gO 120 (.ext (.s 115) 0), gO 121 (.ext (.s 115) 1), gO 13 (.mv (.s 120)), gO 14 (.mv (.s 121))]) (.seq (.reg [gO 122 (.mv (.s 13)), gO 123 (.fa 0 (.s 4)), gO 124 (.ld none (.s 123)), gO 125 (.bin .leq (.s 122) (.s 124)), gO 126 (.mv (.s 125)), ⟨some (126, true), some 127, .mv (.s 14)⟩, ⟨some (126, true), some 128, .mv (.s 9)⟩, ⟨some (126, true), some 129, .bin .gtr (.s 127) (.s 128)⟩, gO 130 (.pick (.s 126) (.s 129) cF)]) (.cond (.s 130) (.seq (.reg [gO 6 (.mv cF)]) .ret) .skip))) .skip)) (.seq (.reg [gO 15 (.new (.agg [(.lit (.int .i64 0)), (.lit (.int .i64 0))])), gO 132 (.mv (.s 0)), gO 133 (.call 19 [.s 132]), gO 134 (.fa 0 (.s 4)), gO 135 (.ld none (.s 134)), gO 136 (.call 35 [.s 133, .s 135]), gO 131 (.mv (.s 136)), gO 137 (.ext (.s 131) 0), gO 138 (.ext (.s 131) 1), gO 15 (.nilck (.s 15)), ⟨none, none, .st 2 (.s 15) (.s 137)⟩, gO 16 (.mv (.s 138))]) (.seq (.seq (.reg [gO 139 (.mv (.s 16)), gO 140 (.bin .neq (.s 139) (cI 0)), gO 141 (.mv (.s 140)), ⟨some (141, false), some 142, .ld (some 2) (.s 15)⟩, ⟨some (141, false), some 143, .call 37 [.s 142]⟩, ⟨some (141, false), some 144, .bin .neq (.s 143) (cI 0)⟩, gO 145 (.pick (.s 141) cT (.s 144))]) (.cond (.s 145) (.seq (.reg [gO 6 (.mv cF)]) .ret) .skip)) (.seq (.reg [gO 17 (.new (.agg [(.lit (.int .i64 0)), (.lit (.int .i64 0))])), gO 147 (.mv (.s 0)), gO 148 (.call 19 [.s 147]), gO 149 (.fa 0 (.s 4)), gO 150 (.ld none (.s 149)), gO 151 (.ld (some 2) (.s 15)), gO 152 (.call 34 [.s 148, .s 150, .s 151]), gO 146 (.mv (.s 152)), gO 153 (.ext (.s 146) 0), gO 154 (.ext (.s 146) 1), gO 17 (.nilck (.s 17)), ⟨none, none, .st 2 (.s 17) (.s 153)⟩, gO 18 (.mv (.s 154))]) (.seq (.reg [gO 19 (.new (.agg [(.lit (.int .i64 0)), (.lit (.int .i64 0))])), gO 156 (.mv (.s 0)), gO 157 (.call 19 [.s 156]), gO 158 (.fa 0 (.s 4)), gO 159 (.ld none (.s 158)), gO 160 (.ld (some 2) (.s 5)), gO 161 (.call 34 [.s 157, .s 159, .s 160]), gO 155 (.mv (.s 161)), gO 162 (.ext (.s 155) 0), gO 163 (.ext (.s 155) 1), gO 19 (.nilck (.s 19)), ⟨none, none, .st 2 (.s 19) (.s 162)⟩, gO 20 (.mv (.s 163))]) (.seq (.seq (.reg [gO 164 (.mv (.s 18)), gO 165 (.bin .neq (.s 164) (cI 0)), gO 166 (.mv (.s 165)), ⟨some (166, false), some 167, .ld (some 2) (.s 17)⟩, ⟨some (166, false), some 168, .call 41 [.s 167]⟩, ⟨some (166, false), some 169, .un .not (.s 168)⟩, gO 170 (.pick (.s 166) cT (.s 169)), gO 171 (.mv (.s 170)), ⟨some (171, false), some 172, .ld (some 2) (.s 17)⟩, ⟨some (171, false), some 173, .call 42 [.s 172]⟩, ⟨some (171, false), some 174, .un .not (.s 173)⟩, gO 175 (.pick (.s 171) cT (.s 174)), gO 176 (.mv (.s 175)), ⟨some (176, false), some 177, .ld (some 2) (.s 17)⟩, ⟨some (176, false), some 178, .mv (.s 9)⟩, ⟨some (176, false), some 179, .call 44 [.s 178]⟩, ⟨some (176, false), some 180, .call 43 [.s 177, .s 179]⟩, ⟨some (176, false), some 181, .bin .lss (.s 180) (cI 0)⟩, gO 182 (.pick (.s 176) cT (.s 181)), gO 183 (.mv (.s 182)), ⟨some (183, false), some 184, .mv (.s 20)⟩, ⟨some (183, false), some 185, .bin .neq (.s 184) (cI 0)⟩, ⟨some (183, false), some 186, .mv (.s 185)⟩, ⟨some (186, true), some 187, .mv (.s 20)⟩, ⟨some (186, true), some 188, .bin .neq (.s 187) (cI 8)⟩, ⟨some (183, false), some 189, .pick (.s 186) (.s 188) cF⟩, gO 190 (.pick (.s 183) cT (.s 189))]) (.cond (.s 190) (.seq (.reg [gO 6 (.mv cF)]) .ret) .skip)) (.seq (.seq (.reg [gO 191 (.mv (.s 20)), gO 192 (.bin .eql (.s 191) (cI 0)), gO 193 (.mv (.s 192)), ⟨some (193, true), some 194, .ld (some 2) (.s 19)⟩, ⟨some (193, true), some 195, .call 41 [.s 194]⟩, ⟨some (193, true), some 196, .un .not (.s 195)⟩, ⟨some (193, true), some 197, .mv (.s 196)⟩, ⟨some (197, false), some 198, .ld (some 2) (.s 19)⟩, ⟨some (197, false), some 199, .call 42 [.s 198]⟩, ⟨some (197, false), some 200, .un .not (.s 199)⟩, ⟨some (193, true), some 201, .pick (.s 197) cT (.s 200)⟩, ⟨some (193, true), some 202, .mv (.s 201)⟩, ⟨some (202, false), some 203, .ld (some 2) (.s 19)⟩, ⟨some (202, false), some 204, .ld (some 2) (.s 17)⟩, ⟨some (202, false), some 205, .call 43 [.s 203, .s 204]⟩, ⟨some (202, false), some 206, .bin .lss (.s 205) (cI 0)⟩, ⟨some (193, true), some 207, .pick (.s 202) cT (.s 206)⟩, gO 208 (.pick (.s 193) (.s 207) cF)]) (.cond (.s 208) (.seq (.reg [gO 6 (.mv cF)]) .ret) .skip)) (.seq (.reg [gO 210 (.mv (.s 0)), gO 211 (.call 19 [.s 210]), gO 212 (.fa 0 (.s 4)), gO 213 (.ld none (.s 212)), gO 214 (.bin .add (.s 213) (cI 1)), gO 215 (.call 20 [.s 211, .s 214]), gO 209 (.mv (.s 215)), gO 216 (.ext (.s 209) 0), gO 217 (.ext (.s 209) 1), gO 218 (.ext (.s 209) 2), gO 21 (.mv (.s 216)), gO 22 (.mv (.s 217)), gO 23 (.mv (.s 218))]) (.seq (.reg [gO 219 (.mv (.s 23)), gO 220 (.bin .eql (.s 219) (cI 0)), gO 221 (.mv (.s 220)), ⟨some (221, true), some 222, .mv (.s 22)⟩, ⟨some (221, true), some 223, .mv (.s 9)⟩, ⟨some (221, true), some 224, .bin .geq (.s 222) (.s 223)⟩, gO 225 (.pick (.s 221) (.s 224) cF), gO 6 (.mv (.s 225))]) .ret))))))))))))))))⟩ := by kernel_rfl
theorem bdgE_in {l : List Tg} {B : Int} (h : bdgE l B = 0) : (itmE l).2 = 0 ∧ 0 ≤ B ∧ B ≤ 1000000 := by
 unfold bdgE at h
 obtain ⟨hi, h⟩ := firstE_nil h
 obtain ⟨hb, _⟩ := firstE_nil h
 rw [unl_zero (by decide), inB_iff] at hb
 exact ⟨hi, hb⟩
theorem bdgE_of {l : List Tg} {B : Int} (hi : (itmE l).2 = 0) (h : 0 ≤ B ∧ B ≤ 1000000) : bdgE l B = 0 := by
 unfold bdgE
 rw [hi, inB_iff.2 h]; rfl
theorem itm_c1 {l : List Tg} (h : (itmE l).2 = 0) : OkC1 l 1000000 1000000 := by
 unfold itmE at h
 by_cases h1 : 12 < l.length
 ·rw [if_pos h1] at h; exact absurd h (by decide)
 ·rw [if_neg h1] at h
  exact fun x hx => firT_ok l l 0 h x hx
set_option maxRecDepth 4000 in
set_option maxHeartbeats 8000000 in
theorem TargetBounded_z (l : List Tg) (B : Int) (ws : List Int) (f : Pt) (hlen : (l.length : Int) ≤ 9223372036854775807) (hsz : ∀ z ∈ l, (z.nm.size : Int) ≤ 9223372036854775807) (hws : (ws.length : Int) ≤ 9223372036854775807) (hf : f.2 ≤ 9223372036854775807) :
  runZ MT (orA 14) (itA 14) 4000000 6 [.sl (l.map encTg), .agg [I64 B, .sl (ws.map I64)], encPt f] [] = some (Bo true, []) := by
 refine runZ_of mf_lawBd (by simp) ?_
 simp only [argsL]
 have hs : (MV.sl (l.map encTg)).slen = some l.length := by simp [MV.slen]
 have hs2 : (MV.sl (ws.map I64)).slen = some ws.length := by simp [MV.slen]
 have aw := fun h => awake_c h
 cases hfew : fewT l
 ·have fw := fun h => Few_c 13 l h hlen hsz hfew
  repeat (first | apply ef_seq | (apply ef_mv; exact rfl; exact rfl) | (apply ef_gn; exact rfl; (exact (rfl : true = true)); exact rfl) | (apply ef_pick; (iterate 3 exact rfl)) | (apply ef_notT; exact rfl; exact rfl) | (apply ef_notF; exact rfl; exact rfl) | (apply ef_box; (iterate 4 exact rfl)) | apply ef_nil | apply seqQ.normal | apply ef_ret | apply seqQ.ret | apply ef_skip | (apply ef_condt; exact rfl; (exact (rfl : true = true))) | (apply ef_condf; exact rfl; (exact (rfl : false = false))) | (apply ef_call; exact rfl; ((repeat (apply XVs.cons; exact rfl)); exact XVs.nil); (with_reducible first | exact aw _ | exact fw _)))
  (refine fin1 rfl (by exact rfl) rfl ?_)
  rfl
 have fw := fun h => Few_c 13 l h hlen hsz hfew
 obtain ⟨hx, hn⟩ := fewT_ok hfew
 by_cases h8 : 8 < l.length
 ·repeat (first | apply ef_seq | (apply ef_mv; exact rfl; exact rfl) | (apply ef_bin; (iterate 3 exact rfl); (exact cmp_t rfl (by first | exact rfl | (simp only [cmpP]; omega)))) | (apply ef_gy; exact rfl; (exact (rfl : false = false))) | (apply ef_gn; exact rfl; (exact (rfl : true = true)); exact rfl) | (apply ef_pick; (iterate 3 exact rfl)) | (apply ef_len; exact rfl; exact rfl; (assumption)) | (apply ef_notT; exact rfl; exact rfl) | (apply ef_box; (iterate 4 exact rfl)) | apply ef_nil | apply seqQ.normal | apply ef_ret | apply seqQ.ret | apply ef_skip | (apply ef_condt; exact rfl; (exact (rfl : true = true))) | (apply ef_condf; exact rfl; (exact (rfl : false = false))) | (apply ef_call; exact rfl; ((repeat (apply XVs.cons; exact rfl)); exact XVs.nil); (with_reducible first | exact aw _ | exact fw _)))
  (refine fin1 rfl (by exact rfl) rfl ?_)
  rfl
 have hn' : ∀ z ∈ l, z.nm.size ≤ 1000 := fun z hz => by have := hn z hz; omega
 have fs : ∀ h, frz 0 [] h 8 (.sl (l.map encTg)) = some (.sl (l.map encTg)) := fun h => frz_sl (ltL_Tg 0 l)
 obtain ⟨e, he⟩ : ∃ e, bdgE l B = e := ⟨_, rfl⟩
 have r2 := fun h => rBudgetErr_c 10 l B h (by omega) hn' (fs h) he
 by_cases h0 : e = 0
 ·subst h0
  by_cases hB : 10000 < B
  ·repeat (first | apply ef_seq | (apply ef_mv; exact rfl; exact rfl) | (apply ef_bin; (iterate 3 exact rfl); (first | exact cmp_t rfl (by first | exact rfl | (simp only [cmpP]; omega)) | exact cmp_f rfl (by simp only [cmpP]; omega))) | (apply ef_gy; exact rfl; (exact (rfl : false = false))) | (apply ef_gn; exact rfl; (exact (rfl : true = true)); exact rfl) | (apply ef_pick; (iterate 3 exact rfl)) | (apply ef_len; exact rfl; exact rfl; (assumption)) | (apply ef_ldp; exact rfl; exact rfl; (exact rfl); exact rfl; (exact rfl); (exact rfl)) | (apply ef_fap; exact rfl; exact rfl) | (apply ef_notT; exact rfl; exact rfl) | (apply ef_box; (iterate 4 exact rfl)) | apply ef_nil | apply seqQ.normal | apply ef_ret | apply seqQ.ret | apply ef_skip | (apply ef_condt; exact rfl; (exact (rfl : true = true))) | (apply ef_condf; exact rfl; (exact (rfl : false = false))) | (apply ef_call; exact rfl; ((repeat (apply XVs.cons; exact rfl)); exact XVs.nil); (with_reducible first | exact aw _ | exact fw _ | exact r2 _)))
   (refine fin1 rfl (by exact rfl) rfl ?_)
   rfl
  obtain ⟨e2, he2⟩ : ∃ e, priE f.1 f.2 = e := ⟨_, rfl⟩
  have r3 := fun h => rPriceErr_c 10 f h hf he2
  by_cases h02 : e2 = 0
  ·subst h02
   by_cases hw8 : 8 < ws.length
   ·repeat (first | apply ef_seq | (apply ef_mv; exact rfl; exact rfl) | (apply ef_bin; (iterate 3 exact rfl); (first | exact cmp_t rfl (by first | exact rfl | (simp only [cmpP]; omega)) | exact cmp_f rfl (by simp only [cmpP]; omega))) | (apply ef_gy; exact rfl; (exact (rfl : false = false))) | (apply ef_pick; (iterate 3 exact rfl)) | (apply ef_len; exact rfl; exact rfl; (assumption)) | (apply ef_ldp; exact rfl; exact rfl; (exact rfl); exact rfl; (exact rfl); (first | exact rd_2 rfl rfl | exact rfl)) | (apply ef_fap; exact rfl; exact rfl) | (apply ef_notT; exact rfl; exact rfl) | (apply ef_box; (iterate 4 exact rfl)) | apply ef_nil | apply seqQ.normal | apply ef_ret | apply seqQ.ret | apply ef_skip | (apply ef_condt; exact rfl; (exact (rfl : true = true))) | (apply ef_condf; exact rfl; (exact (rfl : false = false))) | (apply ef_call; exact rfl; ((repeat (apply XVs.cons; exact rfl)); exact XVs.nil); (with_reducible first | exact aw _ | exact fw _ | exact r2 _ | exact r3 _)))
    (refine fin1 rfl (by exact rfl) rfl ?_)
    rfl
   ·obtain ⟨hi0, hb1, hb2⟩ := bdgE_in he
    have ok1 := itm_c1 hi0
    repeat (first | apply ef_seq | (apply ef_mv; exact rfl; exact rfl) | (apply ef_bin; (iterate 3 exact rfl); (exact cmp_f rfl (by simp only [cmpP]; omega))) | (apply ef_gy; exact rfl; (exact (rfl : false = false))) | (apply ef_pick; (iterate 3 exact rfl)) | (apply ef_len; exact rfl; exact rfl; (assumption)) | (apply ef_ldp; exact rfl; exact rfl; (exact rfl); exact rfl; (exact rfl); (first | exact rd_2 rfl rfl | exact rfl)) | (apply ef_fap; exact rfl; exact rfl) | (apply ef_notT; exact rfl; exact rfl) | (apply ef_box; (iterate 4 exact rfl)) | apply ef_nil | apply seqQ.normal | apply ef_block | apply ef_skip | (apply ef_condf; exact rfl; (exact (rfl : false = false))) | (apply ef_call; exact rfl; ((repeat (apply XVs.cons; exact rfl)); exact XVs.nil); (with_reducible first | exact aw _ | exact fw _ | exact r2 _ | exact r3 _)))
    refine ef_loopf (α := Nat) (fun i => i ≤ l.length ∧ ∀ x ∈ l.take i, x.c ≤ 1000 ∧ x.s ≤ 1000) (fun i => [(7, I64 (i : Int))]) [(0, .sl (l.map encTg)), (4, .ptr 0 0 0 0), (5, .ptr 1 0 0 0)] (fun _ => [⟨0, false, 2, [.agg [I64 B, .sl (ws.map I64)]]⟩, ⟨0, false, 2, [encPt f]⟩]) (fun i => l.length - i) 0 [7] (fun _ => rfl) (by ((repeat (refine Hold.cons (by exact rfl) ?_)); exact Hold.nil)) (by ((repeat (refine Hold.cons (by exact rfl) ?_)); exact Hold.nil)) rfl rfl ⟨by omega, by simp⟩ (by simp; omega) ?_
    rintro i ⟨hi, hal⟩
    by_cases hlt : i < l.length
    ·have e1 := at_map encTg l i hlt
     have hnx : ∀ x ∈ l.take (i + 1), x ∈ l.take i ∨ x = l[i] := fun x hx => by
      rw [List.take_succ_eq_append_getElem hlt, List.mem_append, List.mem_singleton] at hx
      exact hx
     generalize l[i] = x at *
     by_cases c1 : 1000 < x.c
     ·repeat (first | apply ef_seq | (apply ef_mv; exact rfl; exact rfl) | (apply ef_bin; (iterate 3 exact rfl); (exact cmp_t rfl (by first | exact rfl | (simp only [cmpP]; omega)))) | (apply ef_gn; exact rfl; (exact (rfl : true = true)); exact rfl) | (apply ef_pick; (iterate 3 exact rfl)) | (apply ef_len; exact rfl; exact rfl; (assumption)) | (apply ef_ldr; exact rfl; exact rfl; (exact rfl)) | (apply ef_ias; (iterate 3 exact rfl); (omega); assumption; exact rfl) | (apply ef_far; exact rfl; exact rfl) | apply ef_nil | apply seqQ.normal | apply loopQ.ret | apply ef_ret | apply seqQ.ret | apply blockQ.ret | apply ef_block | apply ef_skip | (apply ef_condt; exact rfl; (exact (rfl : true = true))))
      (refine fin1 rfl (by exact rfl) rfl ?_)
      rfl
     ·by_cases c2 : 1000 < x.s
      ·repeat (first | apply ef_seq | (apply ef_mv; exact rfl; exact rfl) | (apply ef_bin; (iterate 3 exact rfl); (first | exact cmp_t rfl (by first | exact rfl | (simp only [cmpP]; omega)) | exact cmp_f rfl (by simp only [cmpP]; omega))) | (apply ef_gy; exact rfl; (exact (rfl : false = false))) | (apply ef_pick; (iterate 3 exact rfl)) | (apply ef_len; exact rfl; exact rfl; (assumption)) | (apply ef_ldr; exact rfl; exact rfl; (exact rfl)) | (apply ef_ias; (iterate 3 exact rfl); (omega); assumption; exact rfl) | (apply ef_far; exact rfl; exact rfl) | apply ef_nil | apply seqQ.normal | apply loopQ.ret | apply ef_ret | apply seqQ.ret | apply blockQ.ret | apply ef_block | apply ef_skip | (apply ef_condt; exact rfl; (exact (rfl : true = true))))
       (refine fin1 rfl (by exact rfl) rfl ?_)
       rfl
      ·repeat (first | apply ef_seq | (apply ef_mv; exact rfl; exact rfl) | (apply ef_bin; (iterate 3 exact rfl); (first | exact cmp_t rfl (by first | exact rfl | (simp only [cmpP]; omega)) | exact cmp_f rfl (by simp only [cmpP]; omega) | ((with_reducible refine bin_add (wrap_of ?_ ?_)) <;> omega))) | (apply ef_gy; exact rfl; (exact (rfl : false = false))) | (apply ef_pick; (iterate 3 exact rfl)) | (apply ef_len; exact rfl; exact rfl; (assumption)) | (apply ef_ldr; exact rfl; exact rfl; (exact rfl)) | (apply ef_ias; (iterate 3 exact rfl); (omega); assumption; exact rfl) | (apply ef_far; exact rfl; exact rfl) | apply ef_nil | apply seqQ.normal | apply blockQ.normal | apply ef_block | apply ef_skip | (apply ef_condt; exact rfl; (exact (rfl : true = true))) | (apply ef_condf; exact rfl; (exact (rfl : false = false))))
       (refine loopQ.normal _ _ ⟨i + 1, ⟨hlt, fun y hy => (hnx y hy).elim (fun h => hal y h) (fun h => by rw [h]; exact ⟨by omega, by omega⟩)⟩, (by show l.length - (i + 1) < l.length - i; omega), ⟨by ((repeat (refine Hold.cons (by exact rfl) ?_)); exact Hold.nil), by ((repeat (refine Hold.cons (by exact rfl) ?_)); exact Hold.nil)⟩, .inl (Nat.le_refl _), (by first | exact List.take_length | exact rfl | exact takeF rfl rfl)⟩)
    ·rw [List.take_of_length_le (by omega)] at hal
     have ok : OkC1 l 1000 1000 := fun x hx => by
      have h1 := ok1 x hx
      have h2 := hal x hx
      omega
     have okT := ok.tg (by omega) (by omega)
     have cp := fun h => CopyItems_c 13 l h (by omega)
     have fz0 : ∀ (M : MHeap), frz 0 [] (M ++ [⟨0, false, 3, l.map encTg⟩]) 8 (.arr M.length 0 l.length 0) = some (.sl (l.map encTg)) := fun M =>
      frz_row (o := ⟨0, false, 3, l.map encTg⟩) (at_endN M _) rfl (by simp) (ltL_Tg 0 l) rfl
     have c2 := fun M => BestSet_c 6 l B (M ++ [⟨0, false, 3, l.map encTg⟩]) (by omega) hn' okT (fz0 M) he hb1
     have he3 := bdgE_of (B := B + 1) hi0 (by omega)
     have c3 := fun M => BestSet_c 6 l (B + 1) (M ++ [⟨0, false, 3, l.map encTg⟩]) (by omega) hn' okT (fz0 M) he3 (by omega)
     have hmono := best_mono (l := l) (B := B) (C := B + 1) hb1 (by omega) (by omega)
     have c4 := fun M => PriceFor_c 6 l B (M ++ [⟨0, false, 3, l.map encTg⟩]) (by omega) hn' ok1 (fz0 M) he hb1
     have bo := bnd_ok (l := l) (B := B) (by omega) ⟨hb1, by omega⟩ ok
     obtain ⟨f1, f2, f3⟩ := priE_ok he2
     have bm := bnd_min (l := l) (B := B) hb1 ok (p := f.1) (q := f.2) f2.1 (by omega)
     have c5 := fun M => BoundAt_c 6 l B (prF l B) (M ++ [⟨0, false, 3, l.map encTg⟩]) (by omega) hn' okT (fz0 M) he ⟨hb1, hb2⟩ ⟨bo.p1.1, by have := bo.p1.2; omega⟩ ⟨bo.p2.1, by have := bo.p2.2; omega⟩ bo.low
     have c6 := fun M => BoundAt_c 6 l B f (M ++ [⟨0, false, 3, l.map encTg⟩]) (by omega) hn' okT (fz0 M) he ⟨hb1, hb2⟩ f2 f3 f1
     have r4 := fun h => rPriceErr_c 10 (prF l B) h (by have := bo.p2.2; omega) bo.pri
     have beq := bo.eq
     have bbig := bo.big
     have bbds := bo.bds
     have lw1 := isLow_low (n := bnZ (prF l B).2 B (prF l B).1 (prT l)) (d := (prF l B).2) (by have := bo.p2.1; omega)
     have lw2 := isLow_low (n := bnZ f.2 B f.1 (prT l)) (d := f.2) (by omega)
     have two := lowR_two (bnZ f.2 B f.1 (prT l)) f.2 (by omega)
     obtain ⟨⟨X1, _, g1⟩, g2, g3, _⟩ := bestF_ok l hb1 (2 ^ l.length)
     obtain ⟨gi, ga⟩ := bestF_lt (l := l) (B := B) (n := l.length) (by omega)
     have hmost := fun (W : List Nat) (hW : ∀ i ∈ W, i < l.length) (ha : W.Pairwise (· < ·)) (hc : costL l W ≤ B) => best_most (l := l) (B := B) hb1 (S := W) (by omega) hW ha hc
     have hS : (bestF l B (2 ^ l.length)).1.length ≤ 12 := by
      obtain ⟨Z, hZ, hZe⟩ := bestF_mb l B l.length _ (Nat.le_refl _)
      rw [hZe]
      have := mbL_len (m := l.length) hZ (by omega)
      omega
     rw [beq] at c5
     generalize lowF (bnZ (prF l B).2 B (prF l B).1 (prT l)) (prF l B).2 = u at *
     generalize lowF (bnZ f.2 B f.1 (prT l)) f.2 = w at *
     generalize lowR (bnZ f.2 B f.1 (prT l)) f.2 = v at *
     generalize bestF l (B + 1) (2 ^ l.length) = R2 at *
     obtain ⟨S2, m2⟩ := R2
     generalize bestF l B (2 ^ l.length) = R at *
     obtain ⟨S, m⟩ := R
     clear bo beq
     generalize prF l B = x at *
     simp only at hS g2 g3 gi hmono c2 c3 bbig
     have hset := isSB_nat l.length S (-1) (fun i hi => ⟨by omega, gi i hi⟩) ga
     have hm0 := hmost [] (by simp) .nil (by simpa [costL] using hb1)
     simp only [scoreL] at hm0
     simp only at hmost
     have hWh := fun h => bWhole_c 13 m h
     have q1 : 0 ≤ m * u.2 := Int.mul_nonneg hm0 (by omega)
     obtain ⟨v1, hv1⟩ : ∃ v1, cmpI (u.1 * 1) (m * u.2) = v1 := ⟨_, rfl⟩
     have hv1n : 0 ≤ v1 := by rw [← hv1]; exact cmpI_nn (by omega)
     have hC1 := fun h => bCmp_c 13 u (m, 1) h (by simp only; omega) (by simp only; omega) hv1
     have hL1 := fun h => bIsLow_c 11 u.1 u.2 h (by omega) lw1
     have hM1 := fun h => bIsSmallB_c 12 u.1 u.2 h (t := true) (by rw [inB_iff.2 ⟨by omega, by omega⟩, inB_iff.2 ⟨by omega, by omega⟩]; rfl)
     obtain ⟨t, ht⟩ : ∃ t, isSB l.length (-1) ws = t := ⟨_, rfl⟩
     have tW := fun h => isSet_c 12 ws l.length h (v := .sl (ws.map I64)) (by omega) (by omega) (frz_sl (ltL_I 0 ws)) ht
     rcases two with ⟨rfl, i1, i2⟩ | rfl
     ·simp only at c6
      have i1' := inB_iff.1 i1
      have i2' := inB_iff.1 i2
      have q2 : 0 ≤ u.1 * w.2 := Int.mul_nonneg bbds.1.1 (by omega)
      have q3 : w.1 * u.2 ≤ 1000000000 * u.2 := Int.mul_le_mul_of_nonneg_right i1'.2 (by omega)
      obtain ⟨v2, hv2⟩ : ∃ v2, cmpI (w.1 * u.2) (u.1 * w.2) = v2 := ⟨_, rfl⟩
      have hv2n : 0 ≤ v2 := by rw [← hv2]; exact cmpI_nn bm
      have hC2 := fun h => bCmp_c 13 w u h (by omega) (by omega) hv2
      have hL2 := fun h => bIsLow_c 11 w.1 w.2 h (by omega) lw2
      have hM2 := fun h => bIsSmallB_c 12 w.1 w.2 h (t := true) (by rw [i1, i2]; rfl)
      cases t
      ·repeat (first | apply ef_seq | (apply ef_mv; exact rfl; exact rfl) | (apply ef_bin; (iterate 3 exact rfl); (exact cmp_f rfl (by simp only [cmpP]; omega))) | (apply ef_gy; exact rfl; (exact (rfl : false = false))) | (apply ef_len; exact rfl; exact rfl; (assumption)) | (apply ef_ldp; exact rfl; exact rfl; (exact rfl); exact rfl; (exact rfl); (exact rfl)) | (apply ef_fap; exact rfl; exact rfl) | (apply ef_ext; (iterate 3 exact rfl)) | apply ef_nil | apply seqQ.normal | apply loopQ.exit | apply ef_exit | apply seqQ.exit | apply blockQ.here | (apply ef_condf; exact rfl; (exact (rfl : false = false))) | (apply ef_call; exact rfl; ((repeat (apply XVs.cons; exact rfl)); exact XVs.nil); (with_reducible first | exact cp _ | exact c2 _)))
       (apply ef_call; (· exact rfl); (· ((repeat (apply XVs.cons; exact rfl)); exact XVs.nil)); · exact isSet_c 12 (natI S) l.length _ (by rw [List.length_map]; omega) (by omega) (frz_row (o := setO S) rfl rfl (nat_len S).symm (natI_lt 0 S) rfl) hset)
       repeat (first | apply ef_seq | (apply ef_mv; exact rfl; exact rfl) | (apply ef_gy; exact rfl; (exact (rfl : false = false))) | (apply ef_pick; (iterate 3 exact rfl)) | (apply ef_notT; exact rfl; exact rfl) | apply ef_nil | apply seqQ.normal | apply ef_skip | (apply ef_condf; exact rfl; (exact (rfl : false = false))))
       (apply ef_call; (· exact rfl); (· ((repeat (apply XVs.cons; exact rfl)); exact XVs.nil)); · exact rTotals_c 13 l S _ okT gi (by omega) (fs _) (frz_row (o := setO S) rfl rfl (nat_len S).symm (natI_lt 0 S) rfl))
       repeat (first | apply ef_seq | (apply ef_mv; exact rfl; exact rfl) | (apply ef_bin; (iterate 3 exact rfl); (first | exact cmp_t rfl (by first | exact rfl | (simp only [cmpP]; omega)) | exact cmp_f rfl (by simp only [cmpP]; omega) | ((with_reducible refine bin_add (wrap_of ?_ ?_)) <;> omega))) | (apply ef_gy; exact rfl; (first | exact (rfl : true = true) | exact (rfl : false = false))) | (apply ef_gn; exact rfl; (exact (rfl : false = false)); exact rfl) | (apply ef_pick; (iterate 3 exact rfl)) | (apply ef_len; exact rfl; exact rfl; (assumption)) | (apply ef_ldp; exact rfl; exact rfl; (exact rfl); exact rfl; (exact rfl); (first | exact rd_2 rfl rfl | exact rfl)) | (apply ef_fap; exact rfl; exact rfl) | (apply ef_notT; exact rfl; exact rfl) | (apply ef_ext; (iterate 3 exact rfl)) | (apply ef_new; exact rfl) | (apply ef_nilck; (iterate 3 exact rfl)) | (apply ef_st; (iterate 6 exact rfl); (exact rfl); exact rfl) | apply ef_nil | apply seqQ.normal | apply ef_ret | apply ef_skip | (apply ef_condf; exact rfl; (exact (rfl : false = false))) | (apply ef_call; exact rfl; ((repeat (apply XVs.cons; exact rfl)); exact XVs.nil); (with_reducible first | exact cp _ | exact tW _ | exact c4 _ | exact c5 _ | exact c6 _ | exact r4 _ | exact hL1 _ | exact hM1 _ | exact hWh _ | exact hC1 _ | exact c3 _ | exact hL2 _ | exact hM2 _ | exact hC2 _)))
       (refine fin1 rfl (by exact rfl) rfl ?_)
       rfl
      ·obtain ⟨W, rfl, w1, w2⟩ := nat_isSB _ _ _ ht
       have tT := fun h => rTotals_c 13 l W h (v := .sl (l.map encTg)) (w := .sl ((natI W).map I64)) okT (fun i hi => by have := (w1 i hi).2; omega) (by rw [List.length_map] at hw8; omega) (fs h) (frz_sl (natI_lt 0 W))
       have hmw := hmost W (fun i hi => by have := (w1 i hi).2; omega) w2
       generalize costL l W = cW at *
       generalize scoreL l W = sW at *
       by_cases hcw : cW ≤ B
       ·have hmw := hmw hcw
        repeat (first | apply ef_seq | (apply ef_mv; exact rfl; exact rfl) | (apply ef_bin; (iterate 3 exact rfl); (exact cmp_f rfl (by simp only [cmpP]; omega))) | (apply ef_gy; exact rfl; (exact (rfl : false = false))) | (apply ef_len; exact rfl; exact rfl; (assumption)) | (apply ef_ldp; exact rfl; exact rfl; (exact rfl); exact rfl; (exact rfl); (exact rfl)) | (apply ef_fap; exact rfl; exact rfl) | (apply ef_ext; (iterate 3 exact rfl)) | apply ef_nil | apply seqQ.normal | apply loopQ.exit | apply ef_exit | apply seqQ.exit | apply blockQ.here | (apply ef_condf; exact rfl; (exact (rfl : false = false))) | (apply ef_call; exact rfl; ((repeat (apply XVs.cons; exact rfl)); exact XVs.nil); (with_reducible first | exact cp _ | exact c2 _)))
        (apply ef_call; (· exact rfl); (· ((repeat (apply XVs.cons; exact rfl)); exact XVs.nil)); · exact isSet_c 12 (natI S) l.length _ (by rw [List.length_map]; omega) (by omega) (frz_row (o := setO S) rfl rfl (nat_len S).symm (natI_lt 0 S) rfl) hset)
        repeat (first | apply ef_seq | (apply ef_mv; exact rfl; exact rfl) | (apply ef_gy; exact rfl; (exact (rfl : false = false))) | (apply ef_pick; (iterate 3 exact rfl)) | (apply ef_notT; exact rfl; exact rfl) | apply ef_nil | apply seqQ.normal | apply ef_skip | (apply ef_condf; exact rfl; (exact (rfl : false = false))))
        (apply ef_call; (· exact rfl); (· ((repeat (apply XVs.cons; exact rfl)); exact XVs.nil)); · exact rTotals_c 13 l S _ okT gi (by omega) (fs _) (frz_row (o := setO S) rfl rfl (nat_len S).symm (natI_lt 0 S) rfl))
        repeat (first | apply ef_seq | (apply ef_mv; exact rfl; exact rfl) | (apply ef_bin; (iterate 3 exact rfl); (first | exact cmp_t rfl (by first | exact rfl | (simp only [cmpP]; omega)) | exact cmp_f rfl (by simp only [cmpP]; omega) | ((with_reducible refine bin_add (wrap_of ?_ ?_)) <;> omega))) | (apply ef_gy; exact rfl; (first | exact (rfl : true = true) | exact (rfl : false = false))) | (apply ef_gn; exact rfl; (exact (rfl : false = false)); exact rfl) | (apply ef_pick; (iterate 3 exact rfl)) | (apply ef_len; exact rfl; exact rfl; (assumption)) | (apply ef_ldp; exact rfl; exact rfl; (exact rfl); exact rfl; (exact rfl); (first | exact rd_2 rfl rfl | exact rfl)) | (apply ef_fap; exact rfl; exact rfl) | (apply ef_notT; exact rfl; exact rfl) | (apply ef_ext; (iterate 3 exact rfl)) | (apply ef_new; exact rfl) | (apply ef_nilck; (iterate 3 exact rfl)) | (apply ef_st; (iterate 6 exact rfl); (exact rfl); exact rfl) | apply ef_nil | apply seqQ.normal | apply ef_ret | apply ef_skip | (apply ef_condt; exact rfl; (exact (rfl : true = true))) | (apply ef_condf; exact rfl; (exact (rfl : false = false))) | (apply ef_call; exact rfl; ((repeat (apply XVs.cons; exact rfl)); exact XVs.nil); (with_reducible first | exact cp _ | exact tW _ | exact c4 _ | exact c5 _ | exact c6 _ | exact r4 _ | exact hL1 _ | exact hM1 _ | exact hWh _ | exact hC1 _ | exact c3 _ | exact hL2 _ | exact hM2 _ | exact hC2 _ | exact tT _)))
        (refine fin1 rfl (by exact rfl) rfl ?_)
        rfl
       ·clear hmw
        repeat (first | apply ef_seq | (apply ef_mv; exact rfl; exact rfl) | (apply ef_bin; (iterate 3 exact rfl); (exact cmp_f rfl (by simp only [cmpP]; omega))) | (apply ef_gy; exact rfl; (exact (rfl : false = false))) | (apply ef_len; exact rfl; exact rfl; (assumption)) | (apply ef_ldp; exact rfl; exact rfl; (exact rfl); exact rfl; (exact rfl); (exact rfl)) | (apply ef_fap; exact rfl; exact rfl) | (apply ef_ext; (iterate 3 exact rfl)) | apply ef_nil | apply seqQ.normal | apply loopQ.exit | apply ef_exit | apply seqQ.exit | apply blockQ.here | (apply ef_condf; exact rfl; (exact (rfl : false = false))) | (apply ef_call; exact rfl; ((repeat (apply XVs.cons; exact rfl)); exact XVs.nil); (with_reducible first | exact cp _ | exact c2 _)))
        (apply ef_call; (· exact rfl); (· ((repeat (apply XVs.cons; exact rfl)); exact XVs.nil)); · exact isSet_c 12 (natI S) l.length _ (by rw [List.length_map]; omega) (by omega) (frz_row (o := setO S) rfl rfl (nat_len S).symm (natI_lt 0 S) rfl) hset)
        repeat (first | apply ef_seq | (apply ef_mv; exact rfl; exact rfl) | (apply ef_gy; exact rfl; (exact (rfl : false = false))) | (apply ef_pick; (iterate 3 exact rfl)) | (apply ef_notT; exact rfl; exact rfl) | apply ef_nil | apply seqQ.normal | apply ef_skip | (apply ef_condf; exact rfl; (exact (rfl : false = false))))
        (apply ef_call; (· exact rfl); (· ((repeat (apply XVs.cons; exact rfl)); exact XVs.nil)); · exact rTotals_c 13 l S _ okT gi (by omega) (fs _) (frz_row (o := setO S) rfl rfl (nat_len S).symm (natI_lt 0 S) rfl))
        repeat (first | apply ef_seq | (apply ef_mv; exact rfl; exact rfl) | (apply ef_bin; (iterate 3 exact rfl); (first | exact cmp_t rfl (by first | exact rfl | (simp only [cmpP]; omega)) | exact cmp_f rfl (by simp only [cmpP]; omega) | ((with_reducible refine bin_add (wrap_of ?_ ?_)) <;> omega))) | (apply ef_gy; exact rfl; (first | exact (rfl : true = true) | exact (rfl : false = false))) | (apply ef_gn; exact rfl; (exact (rfl : false = false)); exact rfl) | (apply ef_pick; (iterate 3 exact rfl)) | (apply ef_len; exact rfl; exact rfl; (assumption)) | (apply ef_ldp; exact rfl; exact rfl; (exact rfl); exact rfl; (exact rfl); (first | exact rd_2 rfl rfl | exact rfl)) | (apply ef_fap; exact rfl; exact rfl) | (apply ef_notT; exact rfl; exact rfl) | (apply ef_ext; (iterate 3 exact rfl)) | (apply ef_new; exact rfl) | (apply ef_nilck; (iterate 3 exact rfl)) | (apply ef_st; (iterate 6 exact rfl); (exact rfl); exact rfl) | apply ef_nil | apply seqQ.normal | apply ef_ret | apply ef_skip | (apply ef_condt; exact rfl; (exact (rfl : true = true))) | (apply ef_condf; exact rfl; (exact (rfl : false = false))) | (apply ef_call; exact rfl; ((repeat (apply XVs.cons; exact rfl)); exact XVs.nil); (with_reducible first | exact cp _ | exact tW _ | exact c4 _ | exact c5 _ | exact c6 _ | exact r4 _ | exact hL1 _ | exact hM1 _ | exact hWh _ | exact hC1 _ | exact c3 _ | exact hL2 _ | exact hM2 _ | exact hC2 _ | exact tT _)))
        (refine fin1 rfl (by exact rfl) rfl ?_)
        rfl
     ·simp only at c6
      cases t
      ·repeat (first | apply ef_seq | (apply ef_mv; exact rfl; exact rfl) | (apply ef_bin; (iterate 3 exact rfl); (exact cmp_f rfl (by simp only [cmpP]; omega))) | (apply ef_gy; exact rfl; (exact (rfl : false = false))) | (apply ef_len; exact rfl; exact rfl; (assumption)) | (apply ef_ldp; exact rfl; exact rfl; (exact rfl); exact rfl; (exact rfl); (exact rfl)) | (apply ef_fap; exact rfl; exact rfl) | (apply ef_ext; (iterate 3 exact rfl)) | apply ef_nil | apply seqQ.normal | apply loopQ.exit | apply ef_exit | apply seqQ.exit | apply blockQ.here | (apply ef_condf; exact rfl; (exact (rfl : false = false))) | (apply ef_call; exact rfl; ((repeat (apply XVs.cons; exact rfl)); exact XVs.nil); (with_reducible first | exact cp _ | exact c2 _)))
       (apply ef_call; (· exact rfl); (· ((repeat (apply XVs.cons; exact rfl)); exact XVs.nil)); · exact isSet_c 12 (natI S) l.length _ (by rw [List.length_map]; omega) (by omega) (frz_row (o := setO S) rfl rfl (nat_len S).symm (natI_lt 0 S) rfl) hset)
       repeat (first | apply ef_seq | (apply ef_mv; exact rfl; exact rfl) | (apply ef_gy; exact rfl; (exact (rfl : false = false))) | (apply ef_pick; (iterate 3 exact rfl)) | (apply ef_notT; exact rfl; exact rfl) | apply ef_nil | apply seqQ.normal | apply ef_skip | (apply ef_condf; exact rfl; (exact (rfl : false = false))))
       (apply ef_call; (· exact rfl); (· ((repeat (apply XVs.cons; exact rfl)); exact XVs.nil)); · exact rTotals_c 13 l S _ okT gi (by omega) (fs _) (frz_row (o := setO S) rfl rfl (nat_len S).symm (natI_lt 0 S) rfl))
       repeat (first | apply ef_seq | (apply ef_mv; exact rfl; exact rfl) | (apply ef_bin; (iterate 3 exact rfl); (first | exact cmp_t rfl (by first | exact rfl | (simp only [cmpP]; omega)) | exact cmp_f rfl (by simp only [cmpP]; omega) | ((with_reducible refine bin_add (wrap_of ?_ ?_)) <;> omega))) | (apply ef_gy; exact rfl; (first | exact (rfl : true = true) | exact (rfl : false = false))) | (apply ef_gn; exact rfl; (exact (rfl : false = false)); exact rfl) | (apply ef_gu; exact rfl; exact rfl) | (apply ef_pick; (iterate 3 exact rfl)) | (apply ef_len; exact rfl; exact rfl; (assumption)) | (apply ef_ldp; exact rfl; exact rfl; (exact rfl); exact rfl; (exact rfl); (first | exact rd_2 rfl rfl | exact rfl)) | (apply ef_fap; exact rfl; exact rfl) | (apply ef_notT; exact rfl; exact rfl) | (apply ef_ext; (iterate 3 exact rfl)) | (apply ef_new; exact rfl) | (apply ef_nilck; (iterate 3 exact rfl)) | (apply ef_st; (iterate 6 exact rfl); (exact rfl); exact rfl) | apply ef_nil | apply seqQ.normal | apply ef_ret | apply ef_skip | (apply ef_condf; exact rfl; (exact (rfl : false = false))) | (apply ef_call; exact rfl; ((repeat (apply XVs.cons; exact rfl)); exact XVs.nil); (with_reducible first | exact cp _ | exact tW _ | exact c4 _ | exact c5 _ | exact c6 _ | exact r4 _ | exact hL1 _ | exact hM1 _ | exact hWh _ | exact hC1 _ | exact c3 _)))
       (refine fin1 rfl (by exact rfl) rfl ?_)
       rfl
      ·obtain ⟨W, rfl, w1, w2⟩ := nat_isSB _ _ _ ht
       have tT := fun h => rTotals_c 13 l W h (v := .sl (l.map encTg)) (w := .sl ((natI W).map I64)) okT (fun i hi => by have := (w1 i hi).2; omega) (by rw [List.length_map] at hw8; omega) (fs h) (frz_sl (natI_lt 0 W))
       have hmw := hmost W (fun i hi => by have := (w1 i hi).2; omega) w2
       generalize costL l W = cW at *
       generalize scoreL l W = sW at *
       by_cases hcw : cW ≤ B
       ·have hmw := hmw hcw
        repeat (first | apply ef_seq | (apply ef_mv; exact rfl; exact rfl) | (apply ef_bin; (iterate 3 exact rfl); (exact cmp_f rfl (by simp only [cmpP]; omega))) | (apply ef_gy; exact rfl; (exact (rfl : false = false))) | (apply ef_len; exact rfl; exact rfl; (assumption)) | (apply ef_ldp; exact rfl; exact rfl; (exact rfl); exact rfl; (exact rfl); (exact rfl)) | (apply ef_fap; exact rfl; exact rfl) | (apply ef_ext; (iterate 3 exact rfl)) | apply ef_nil | apply seqQ.normal | apply loopQ.exit | apply ef_exit | apply seqQ.exit | apply blockQ.here | (apply ef_condf; exact rfl; (exact (rfl : false = false))) | (apply ef_call; exact rfl; ((repeat (apply XVs.cons; exact rfl)); exact XVs.nil); (with_reducible first | exact cp _ | exact c2 _)))
        (apply ef_call; (· exact rfl); (· ((repeat (apply XVs.cons; exact rfl)); exact XVs.nil)); · exact isSet_c 12 (natI S) l.length _ (by rw [List.length_map]; omega) (by omega) (frz_row (o := setO S) rfl rfl (nat_len S).symm (natI_lt 0 S) rfl) hset)
        repeat (first | apply ef_seq | (apply ef_mv; exact rfl; exact rfl) | (apply ef_gy; exact rfl; (exact (rfl : false = false))) | (apply ef_pick; (iterate 3 exact rfl)) | (apply ef_notT; exact rfl; exact rfl) | apply ef_nil | apply seqQ.normal | apply ef_skip | (apply ef_condf; exact rfl; (exact (rfl : false = false))))
        (apply ef_call; (· exact rfl); (· ((repeat (apply XVs.cons; exact rfl)); exact XVs.nil)); · exact rTotals_c 13 l S _ okT gi (by omega) (fs _) (frz_row (o := setO S) rfl rfl (nat_len S).symm (natI_lt 0 S) rfl))
        repeat (first | apply ef_seq | (apply ef_mv; exact rfl; exact rfl) | (apply ef_bin; (iterate 3 exact rfl); (first | exact cmp_t rfl (by first | exact rfl | (simp only [cmpP]; omega)) | exact cmp_f rfl (by simp only [cmpP]; omega) | ((with_reducible refine bin_add (wrap_of ?_ ?_)) <;> omega))) | (apply ef_gy; exact rfl; (first | exact (rfl : true = true) | exact (rfl : false = false))) | (apply ef_gn; exact rfl; (exact (rfl : false = false)); exact rfl) | (apply ef_gu; exact rfl; exact rfl) | (apply ef_pick; (iterate 3 exact rfl)) | (apply ef_len; exact rfl; exact rfl; (assumption)) | (apply ef_ldp; exact rfl; exact rfl; (exact rfl); exact rfl; (exact rfl); (first | exact rd_2 rfl rfl | exact rfl)) | (apply ef_fap; exact rfl; exact rfl) | (apply ef_notT; exact rfl; exact rfl) | (apply ef_ext; (iterate 3 exact rfl)) | (apply ef_new; exact rfl) | (apply ef_nilck; (iterate 3 exact rfl)) | (apply ef_st; (iterate 6 exact rfl); (exact rfl); exact rfl) | apply ef_nil | apply seqQ.normal | apply ef_ret | apply ef_skip | (apply ef_condt; exact rfl; (exact (rfl : true = true))) | (apply ef_condf; exact rfl; (exact (rfl : false = false))) | (apply ef_call; exact rfl; ((repeat (apply XVs.cons; exact rfl)); exact XVs.nil); (with_reducible first | exact cp _ | exact tW _ | exact c4 _ | exact c5 _ | exact c6 _ | exact r4 _ | exact hL1 _ | exact hM1 _ | exact hWh _ | exact hC1 _ | exact c3 _ | exact tT _)))
        (refine fin1 rfl (by exact rfl) rfl ?_)
        rfl
       ·clear hmw
        repeat (first | apply ef_seq | (apply ef_mv; exact rfl; exact rfl) | (apply ef_bin; (iterate 3 exact rfl); (exact cmp_f rfl (by simp only [cmpP]; omega))) | (apply ef_gy; exact rfl; (exact (rfl : false = false))) | (apply ef_len; exact rfl; exact rfl; (assumption)) | (apply ef_ldp; exact rfl; exact rfl; (exact rfl); exact rfl; (exact rfl); (exact rfl)) | (apply ef_fap; exact rfl; exact rfl) | (apply ef_ext; (iterate 3 exact rfl)) | apply ef_nil | apply seqQ.normal | apply loopQ.exit | apply ef_exit | apply seqQ.exit | apply blockQ.here | (apply ef_condf; exact rfl; (exact (rfl : false = false))) | (apply ef_call; exact rfl; ((repeat (apply XVs.cons; exact rfl)); exact XVs.nil); (with_reducible first | exact cp _ | exact c2 _)))
        (apply ef_call; (· exact rfl); (· ((repeat (apply XVs.cons; exact rfl)); exact XVs.nil)); · exact isSet_c 12 (natI S) l.length _ (by rw [List.length_map]; omega) (by omega) (frz_row (o := setO S) rfl rfl (nat_len S).symm (natI_lt 0 S) rfl) hset)
        repeat (first | apply ef_seq | (apply ef_mv; exact rfl; exact rfl) | (apply ef_gy; exact rfl; (exact (rfl : false = false))) | (apply ef_pick; (iterate 3 exact rfl)) | (apply ef_notT; exact rfl; exact rfl) | apply ef_nil | apply seqQ.normal | apply ef_skip | (apply ef_condf; exact rfl; (exact (rfl : false = false))))
        (apply ef_call; (· exact rfl); (· ((repeat (apply XVs.cons; exact rfl)); exact XVs.nil)); · exact rTotals_c 13 l S _ okT gi (by omega) (fs _) (frz_row (o := setO S) rfl rfl (nat_len S).symm (natI_lt 0 S) rfl))
        repeat (first | apply ef_seq | (apply ef_mv; exact rfl; exact rfl) | (apply ef_bin; (iterate 3 exact rfl); (first | exact cmp_t rfl (by first | exact rfl | (simp only [cmpP]; omega)) | exact cmp_f rfl (by simp only [cmpP]; omega) | ((with_reducible refine bin_add (wrap_of ?_ ?_)) <;> omega))) | (apply ef_gy; exact rfl; (first | exact (rfl : true = true) | exact (rfl : false = false))) | (apply ef_gn; exact rfl; (exact (rfl : false = false)); exact rfl) | (apply ef_gu; exact rfl; exact rfl) | (apply ef_pick; (iterate 3 exact rfl)) | (apply ef_len; exact rfl; exact rfl; (assumption)) | (apply ef_ldp; exact rfl; exact rfl; (exact rfl); exact rfl; (exact rfl); (first | exact rd_2 rfl rfl | exact rfl)) | (apply ef_fap; exact rfl; exact rfl) | (apply ef_notT; exact rfl; exact rfl) | (apply ef_ext; (iterate 3 exact rfl)) | (apply ef_new; exact rfl) | (apply ef_nilck; (iterate 3 exact rfl)) | (apply ef_st; (iterate 6 exact rfl); (exact rfl); exact rfl) | apply ef_nil | apply seqQ.normal | apply ef_ret | apply ef_skip | (apply ef_condt; exact rfl; (exact (rfl : true = true))) | (apply ef_condf; exact rfl; (exact (rfl : false = false))) | (apply ef_call; exact rfl; ((repeat (apply XVs.cons; exact rfl)); exact XVs.nil); (with_reducible first | exact cp _ | exact tW _ | exact c4 _ | exact c5 _ | exact c6 _ | exact r4 _ | exact hL1 _ | exact hM1 _ | exact hWh _ | exact hC1 _ | exact c3 _ | exact tT _)))
        (refine fin1 rfl (by exact rfl) rfl ?_)
        rfl
  ·repeat (first | apply ef_seq | (apply ef_mv; exact rfl; exact rfl) | (apply ef_bin; (iterate 3 exact rfl); (first | exact cmp_t rfl (by first | exact rfl | (simp only [cmpP]; omega)) | exact cmp_f rfl (by simp only [cmpP]; omega))) | (apply ef_gy; exact rfl; (exact (rfl : false = false))) | (apply ef_gn; exact rfl; (exact (rfl : true = true)); exact rfl) | (apply ef_pick; (iterate 3 exact rfl)) | (apply ef_len; exact rfl; exact rfl; (assumption)) | (apply ef_ldp; exact rfl; exact rfl; (exact rfl); exact rfl; (exact rfl); (first | exact rd_2 rfl rfl | exact rfl)) | (apply ef_fap; exact rfl; exact rfl) | (apply ef_notT; exact rfl; exact rfl) | (apply ef_box; (iterate 4 exact rfl)) | apply ef_nil | apply seqQ.normal | apply ef_ret | apply seqQ.ret | apply ef_skip | (apply ef_condt; exact rfl; (exact (rfl : true = true))) | (apply ef_condf; exact rfl; (exact (rfl : false = false))) | (apply ef_call; exact rfl; ((repeat (apply XVs.cons; exact rfl)); exact XVs.nil); (with_reducible first | exact aw _ | exact fw _ | exact r2 _ | exact r3 _)))
   (refine fin1 rfl (by exact rfl) rfl ?_)
   rfl
 ·repeat (first | apply ef_seq | (apply ef_mv; exact rfl; exact rfl) | (apply ef_bin; (iterate 3 exact rfl); (first | exact cmp_t rfl (by first | exact rfl | (simp only [cmpP]; omega)) | exact cmp_f rfl (by simp only [cmpP]; omega))) | (apply ef_gy; exact rfl; (exact (rfl : false = false))) | (apply ef_gn; exact rfl; (exact (rfl : true = true)); exact rfl) | (apply ef_pick; (iterate 3 exact rfl)) | (apply ef_len; exact rfl; exact rfl; (assumption)) | (apply ef_ldp; exact rfl; exact rfl; (exact rfl); exact rfl; (exact rfl); (exact rfl)) | (apply ef_fap; exact rfl; exact rfl) | (apply ef_notT; exact rfl; exact rfl) | (apply ef_box; (iterate 4 exact rfl)) | apply ef_nil | apply seqQ.normal | apply ef_ret | apply seqQ.ret | apply ef_skip | (apply ef_condt; exact rfl; (exact (rfl : true = true))) | (apply ef_condf; exact rfl; (exact (rfl : false = false))) | (apply ef_call; exact rfl; ((repeat (apply XVs.cons; exact rfl)); exact XVs.nil); (with_reducible first | exact aw _ | exact fw _ | exact r2 _)))
  (refine fin1 rfl (by exact rfl) rfl ?_)
  rfl
end Go.Proofs.YtnmgpbihknjdjaaGreatDoor

/- Shapes of holes, layers, fractions, ranges. -/
namespace Go.Proofs.YtnmgpbihknjdjaaGreatDoor
open Go.ChangeShapes Go.WideShapes Go.ChangeAt Go.RowKit
theorem fits_i64r {m : MV} (h : Fits i64Sh m) : ∃ n : Int, m = I64 n ∧ n ≤ 9223372036854775807 := by
 obtain ⟨n, rfl, hw⟩ := fits_int h
 refine ⟨n, rfl, ?_⟩
 simp [Lit.wf] at hw
 omega
end Go.Proofs.YtnmgpbihknjdjaaGreatDoor

/- Predictions: losses and bins (plain laws). -/
namespace Go.Proofs.YtnmgpbihknjdjaaGreatDoor
open Go.RowKit
set_option linter.unusedVariables false
structure Pd where
 p : Int
 w : Bool
structure Bn where
 n : Int
 c : Int
 s : Int
def sumB (f : Bn → Int) : List Bn → Int
 | [] => 0
 | b :: l => f b + sumB f l
def cameN : List Pd → Int
 | [] => 0
 | x :: l => (if x.w then 1 else 0) + cameN l
def wantN : List Pd → Int
 | [] => 0
 | x :: l => x.p + wantN l
structure BinsS (l : List Pd) (b : List Bn) : Prop where
 len : b.length = 10
 each : ∀ i, i < 10 → 0 ≤ (b.getD i ⟨0, 0, 0⟩).c ∧ (b.getD i ⟨0, 0, 0⟩).c ≤ (b.getD i ⟨0, 0, 0⟩).n ∧ (b.getD i ⟨0, 0, 0⟩).n ≤ l.length ∧ 10 * (i : Int) * (b.getD i ⟨0, 0, 0⟩).n ≤ (b.getD i ⟨0, 0, 0⟩).s ∧ (b.getD i ⟨0, 0, 0⟩).s ≤ 10 * (i : Int) * (b.getD i ⟨0, 0, 0⟩).n + 10 * (b.getD i ⟨0, 0, 0⟩).n
 all : sumB Bn.n b = l.length
 came : sumB Bn.c b = cameN l
 want : sumB Bn.s b = wantN l
end Go.Proofs.YtnmgpbihknjdjaaGreatDoor

/- Contracts: losses. -/
namespace Go.Proofs.YtnmgpbihknjdjaaGreatDoor
open Go.RowKit
set_option linter.unusedVariables false
end Go.Proofs.YtnmgpbihknjdjaaGreatDoor

/- Shapes of predictions. -/
namespace Go.Proofs.YtnmgpbihknjdjaaGreatDoor
open Go.ChangeShapes Go.WideShapes Go.ChangeAt Go.RowKit
end Go.Proofs.YtnmgpbihknjdjaaGreatDoor

/- TargetBounded: from values of the small language to the program's. -/
namespace Go.Proofs.YtnmgpbihknjdjaaGreatDoor
open Go.ChangeShapes Go.WideShapes Go.ChangeAt Go.RowKit
def boundedShs : List Sh := [.slice tgSh, .agg [i64Sh, .slice i64Sh], .agg [i64Sh, i64Sh]]
theorem bounded_runs (ms : List MV) (h : FitsL boundedShs ms) : runZ MT (orA 14) (itA 14) 4000000 6 ms [] = some (.lit (.bool true), []) := by
 obtain ⟨m1, r1, rfl, h1, h⟩ := fitsL_cons h
 obtain ⟨m2, r2, rfl, h2, h⟩ := fitsL_cons h
 obtain ⟨m3, r3, rfl, h3, h⟩ := fitsL_cons h
 obtain rfl := fitsL_nil h
 obtain ⟨l, rfl, q1, q2⟩ := fits_tgs h1
 obtain ⟨ms, h', rfl⟩ := fits_agg h2
 obtain ⟨n1, s1, rfl, g1, g⟩ := fitsL_cons h'
 obtain ⟨n2, s2, rfl, g2, g⟩ := fitsL_cons g
 obtain rfl := fitsL_nil g
 obtain ⟨B, rfl⟩ := fits_i64d g1
 obtain ⟨ws, rfl, hw⟩ := fits_list (fun n : Int => I64 n) (fun m h => fits_i64d h) g2
 obtain ⟨ms, h', rfl⟩ := fits_agg h3
 obtain ⟨n1, s1, rfl, g1, g⟩ := fitsL_cons h'
 obtain ⟨n2, s2, rfl, g2, g⟩ := fitsL_cons g
 obtain rfl := fitsL_nil g
 obtain ⟨p, rfl⟩ := fits_i64d g1
 obtain ⟨q, rfl, hq⟩ := fits_i64r g2
 exact TargetBounded_z l B ws (p, q) q1 q2 (by omega) (by simp only; omega)
set_option maxRecDepth 100000 in
theorem bounded_lifted (os : Os) (started : os.Started) (H : Type) (enc : TypeId × Value → H) :
  ReturnsInHanded {} Tryz.checked os 6 .any (fun w args => (Rows.targetBoundedSpec.pre enc Tryz.prog Tryz.f6 [] false w args ∧ laidMetH Tryz.prog Rows.targetBoundedRow.laid w) ∧ sizedMet enc Tryz.prog Tryz.f6 (OpenSpec.ofChange Rows.targetBoundedSpec) false w args)
   (Rows.targetBoundedSpec.post enc Tryz.prog Tryz.f6 false true false false) := by
 refine returnsInHanded_of_change_and (C := Tryz.checked) (X := fun w _ => laidMetH Tryz.prog Rows.targetBoundedRow.laid w) (fun _ _ _ hh h => h.of_heap hh) Tryz.own started (by kernel_rfl) Tryz.func6
  (ChangeSpec.witness_shaped (enc := enc) (C := Tryz.checked) (os := os) (X := fun w _ => laidMetH Tryz.prog Rows.targetBoundedRow.laid w) false (World.doorLaid Tryz.prog 200 os) #[.slice none 0 0, .agg #[.int .i64 0, .slice none 0 0], .agg #[.int .i64 0, .int .i64 0]] 8 rfl (World.shaped_of_RefB (by kernel_rfl) (by kernel_rfl)) (by kernel_rfl) (by kernel_rfl) (by kernel_rfl)
   (laidMetH_of_parts3 (fuel := 8) (laidMet_of_run' 8 (by kernel_rfl) (by kernel_rfl)) (by kernel_rfl) (by kernel_rfl))) ?_
 intro W base args ds gs before hval hW _ _ hL _
 exact law_contractT (orZ_ok (by kernel_rfl) (tabOf_ok Tryz.prog) tA_ok (tI_ok) 14) boundedShs (by kernel_rfl) (by kernel_rfl) rfl rfl (fun ds h => by match ds, h with | [_, _, _], _ => exact ⟨rfl, rfl, rfl⟩) bounded_runs W base args ds gs before hval hW
  (tabs_laid hL (List.mem_cons_of_mem _ (List.mem_cons_self ..)))
end Go.Proofs.YtnmgpbihknjdjaaGreatDoor

/- Facts of the whole program that each row asks for. -/
namespace Go.Proofs.YtnmgpbihknjdjaaGreatDoor
open Go
theorem jfA : laidOutB Tryz.pinned.checked.prog = true := by kernel_rfl
theorem jfB : mapsRowed Tryz.pinned.checked.prog = true := by kernel_rfl
theorem jfC : (Tryz.pinned.checked.prog.stops == []) = true := by kernel_rfl
theorem jfD : (Tryz.pinned.checked.prog.stopKnobs == []) = true := by kernel_rfl
theorem jfE : Tryz.pinned.checked.prog.stopsHeard = true := by kernel_rfl
theorem jfF : Tryz.pinned.checked.prog.mayEnter = true := by kernel_rfl
theorem jfG : (false == Tryz.pinned.checked.prog.plainKeys) = true := by kernel_rfl
theorem and_t {a b : Bool} (h : a = true) (g : b = true) : (a && b) = true := by rw [h, g]; rfl
end Go.Proofs.YtnmgpbihknjdjaaGreatDoor

/- The row of TargetBounded. -/
namespace Go.Proofs.YtnmgpbihknjdjaaGreatDoor
open Go Go.ChangeShapes Go.WideShapes Go.ChangeAt Go.RowKit
set_option linter.unusedVariables false
theorem jfbounded_0 : Rows.targetBoundedRow.wf (OpenSpec.ofChange Rows.targetBoundedSpec) = true := by kernel_rfl
theorem jfbounded_3 : Tryz.f6.params.all (Tryz.pinned.checked.prog.readableRec ·) = true := by kernel_rfl
theorem jfbounded_4 : namedTie Tryz.pinned.checked.prog Rows.targetBoundedRow.named Rows.targetBoundedSpec.vars = true := by kernel_rfl
theorem jfbounded_5 : (Rows.targetBoundedRow.stops == []) = true := by kernel_rfl
theorem jfbounded_7 : (Rows.targetBoundedRow.knobs == []) = true := by kernel_rfl
theorem jfbounded_9 : (Rows.targetBoundedRow.inPlace == Tryz.pinned.checked.prog.inPlace 6) = true := by kernel_rfl
theorem jfbounded_10 : (Rows.targetBoundedRow.unfollowed == Tryz.pinned.checked.prog.unfollowed 6) = true := by kernel_rfl
theorem jfbounded_11 : (Rows.targetBoundedRow.recurses == Tryz.pinned.checked.prog.recurses 6) = true := by kernel_rfl
theorem jfbounded_12 : (Rows.targetBoundedRow.named == Tryz.pinned.checked.prog.varsNamed 6) = true := by kernel_rfl
theorem jfbounded_13 : (Rows.targetBoundedRow.maps == (Tryz.f6.params.toList ++ Rows.targetBoundedSpec.plain.varTypes Tryz.pinned.checked.prog).any (Tryz.pinned.checked.prog.mapsRec ·)) = true := by kernel_rfl
theorem jfbounded_14 : (Rows.targetBoundedRow.ifaces == (Tryz.f6.params.toList ++ Rows.targetBoundedSpec.plain.varTypes Tryz.pinned.checked.prog).any (Tryz.pinned.checked.prog.ifacesRec ·)) = true := by kernel_rfl
theorem jfbounded_15 : (Rows.targetBoundedRow.mapsOut == Tryz.pinned.checked.prog.mapsAmong Tryz.f6.resultTypes.toList) = true := by kernel_rfl
theorem jfbounded_16 : (Rows.targetBoundedRow.loops == (Tryz.f6.params.toList ++ Rows.targetBoundedSpec.plain.varTypes Tryz.pinned.checked.prog).any (Tryz.pinned.checked.prog.loopsFrom ·)) = true := by kernel_rfl
theorem jfbounded_17 : (Rows.targetBoundedRow.wideKeys == (Tryz.f6.params.toList ++ Rows.targetBoundedSpec.plain.varTypes Tryz.pinned.checked.prog ++ Tryz.f6.resultTypes.toList).any (Tryz.pinned.checked.prog.wideKeysFrom ·)) = true := by kernel_rfl
theorem jfbounded_18 : Rows.targetBoundedSpec.vars.all (Tryz.pinned.checked.prog.varReadable ·) = true := by kernel_rfl
theorem jfbounded_19 : Tryz.f6.resultTypes.all (fun t => Tryz.pinned.checked.prog.readableRec t && decide (t < Tryz.pinned.checked.prog.types.size)) = true := by kernel_rfl
theorem jfbounded_20 : (Rows.targetBoundedRow.ifacesOut == Tryz.f6.resultTypes.toList.any (Tryz.pinned.checked.prog.ifacesRec ·)) = true := by kernel_rfl
theorem jfbounded_21 : (Rows.targetBoundedRow.loopsOut == Tryz.f6.resultTypes.toList.any (Tryz.pinned.checked.prog.loopsFrom ·)) = true := by kernel_rfl
theorem jfbounded_23 : Rows.targetBoundedRow.shortTexts.isNone = true := by kernel_rfl
theorem jfbounded_26 : (Rows.targetBoundedRow.lifted == Tryz.pinned.checked.prog.liftsFinal) = true := by kernel_rfl
theorem jfbounded_27 : (Tryz.pinned.checked.prog.make == some Rows.targetBoundedRow.make) = true := by kernel_rfl
theorem jfbounded_29 : (Rows.targetBoundedRow.pinned == Rows.targetBoundedRow.pinnedBy) = true := by kernel_rfl
theorem jfbounded_30 : (Rows.targetBoundedRow.veiled == (Tryz.f6.params.toList ++ Rows.targetBoundedSpec.plain.varTypes Tryz.pinned.checked.prog ++ Tryz.f6.resultTypes.toList).any (Tryz.pinned.checked.prog.veiledRec ·)) = true := by kernel_rfl
theorem jfbounded_31 : Rows.targetBoundedRow.veiledFits Tryz.pinned.checked.prog Tryz.f6.params.toList (Tryz.f6.params.toList ++ Rows.targetBoundedSpec.plain.varTypes Tryz.pinned.checked.prog ++ Tryz.f6.resultTypes.toList) = true := by kernel_rfl
theorem jfbounded : joinedFacts Tryz.pinned.checked.prog 6 Tryz.f6 Rows.targetBoundedSpec Rows.targetBoundedRow = true := by
 unfold joinedFacts
 refine and_t (and_t (and_t (and_t (and_t (and_t (and_t (and_t (and_t (and_t (and_t (and_t (and_t (and_t (and_t (and_t (and_t (and_t (and_t (and_t (and_t (and_t (and_t (and_t (and_t (and_t (and_t (and_t (and_t (and_t (and_t jfbounded_0 jfA) jfB) jfbounded_3) jfbounded_4) jfbounded_5) jfC) jfbounded_7) jfD) jfbounded_9) jfbounded_10) jfbounded_11) jfbounded_12) jfbounded_13) jfbounded_14) jfbounded_15) jfbounded_16) jfbounded_17) jfbounded_18) jfbounded_19) jfbounded_20) jfbounded_21) jfG) jfbounded_23) jfE) jfF) jfbounded_26) jfbounded_27) (by kernel_rfl)) jfbounded_29) jfbounded_30) jfbounded_31
theorem targetBounded_row : Rows.targetBoundedRow.holds Tryz.pinned (OpenSpec.ofChange Rows.targetBoundedSpec) :=
 OpenClaim.holds_of_wide 6 Tryz.f6 rfl rfl rfl rfl rfl rfl rfl ⟨rfl, rfl, rfl, rfl, rfl⟩ rfl rfl rfl rfl rfl (by kernel_rfl) Tryz.func6 jfbounded
  (of_decide_eq_true (by kernel_rfl)) (by unfold Func.isWrapper; rw [if_neg (of_decide_eq_false (by kernel_rfl))]; exact ⟨rfl, rfl⟩)
  (fun os started H enc _ => bounded_lifted os started H enc)
end Go.Proofs.YtnmgpbihknjdjaaGreatDoor
