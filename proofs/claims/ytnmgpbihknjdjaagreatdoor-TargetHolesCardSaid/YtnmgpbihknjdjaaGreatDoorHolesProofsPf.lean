/- The examples that every law begins with. -/
import Derived.Laws.Bits64b
import Derived.Test.YtnmgpbihknjdjaaGreatDoorHolesProofsPe
set_option linter.unusedVariables false
set_option linter.unusedSimpArgs false
/- Contracts: layers, cuts. -/
namespace Go.Proofs.YtnmgpbihknjdjaaGreatDoor
open Go.RowKit
set_option linter.unusedVariables false
theorem lay0_ok {x : Ly} (h0 : layE0 x = 0) : slopeE x.a x.b = 0 ∧ slopeE x.c x.d = 0 := by
 unfold layE0 at h0
 obtain ⟨h1, h2⟩ := firstE_nil h0
 obtain ⟨h2, h3⟩ := firstE_nil h2
 obtain ⟨h3, -⟩ := firstE_nil h3
 exact ⟨h2, h3⟩
theorem mf_layerErr : MT.mf 118 = some mfW_l118 := mfW_q118
theorem layerErr_c (k : Nat) (x : Ly) (h : MHeap) (hb : x.b ≤ 9223372036854775807) (hd : x.d ≤ 9223372036854775807) {e : Int} (he : layE x = e) : orA (k + 6) 118 [encLy x] h = some (I64 e, h) := by
 refine callL (args' := [encLy x]) (frzL_lt rfl) rfl (runZ_of mf_layerErr (by simp) ?_)
 simp only [argsL]
 have h1 := fun h => depthErr_c (k + 1) x.dp h rfl
 have h2 := fun h => slopeErr_c k x.a x.b h hb rfl
 have h3 := fun h => slopeErr_c k x.c x.d h hd rfl
 unfold layE at he
 by_cases h0 : layE0 x = 0
 ·have h0' := h0
  unfold layE0 at h0'
  rw [if_pos h0] at he
  have hf : firstE [depE x.dp, slopeE x.a x.b, slopeE x.c x.d] = 0 := h0'
  have hs2 := lay0_ok h0
  obtain ⟨s1, s2, s3, s4, _⟩ := slope_ok hs2.1
  obtain ⟨t1, t2, t3, t4, _⟩ := slope_ok hs2.2
  have m1 := mul_bd' (a := x.a) (b := x.d) (A := 1000) (B := 1000) s1 s2 (by omega) t4
  have m2 := mul_bd' (a := x.c) (b := x.b) (A := 1000) (B := 1000) t1 t2 (by omega) s4
  have w1 : IntKind.i64.wrap (x.a * x.d) = x.a * x.d := wrap_of (by omega) (by omega)
  have w2 : IntKind.i64.wrap (x.c * x.b) = x.c * x.b := wrap_of (by omega) (by omega)
  by_cases hle : x.a * x.d ≤ x.c * x.b
  ·rw [decide_eq_true hle] at he
   repeat (first | apply ef_seq | (apply ef_mv; exact rfl; exact rfl) | (apply ef_bin; (iterate 3 exact rfl); (first | exact cmp_t rfl (by first | exact rfl | (simp only [cmpP]; omega)) | ((with_reducible refine bin_mul (wrap_of ?_ ?_)) <;> omega))) | (apply ef_ldp; (iterate 4 exact rfl); (exact rfl); (first | exact rd_2 rfl rfl | exact rfl)) | (apply ef_fap; exact rfl; exact rfl) | (apply ef_box; (iterate 4 exact rfl)) | (apply ef_bsl; exact rfl; (repeat (apply XVs.cons; exact rfl)); exact XVs.nil; exact rfl) | apply ef_nil | apply seqQ.normal | apply ef_ret | (apply ef_condt; exact rfl; (exact (rfl : true = true))) | (apply ef_call; exact rfl; ((repeat (apply XVs.cons; exact rfl)); exact XVs.nil); (with_reducible first | exact h1 _ | exact h2 _ | exact h3 _ | exact unless_c (k + 4) _ _ _ he)) | (apply ef_call; exact rfl; ((repeat (apply XVs.cons; exact rfl)); exact XVs.nil); (with_reducible apply first3_c); (iterate 3 exact rfl); (assumption)))
   (refine fin1 rfl (by exact rfl) rfl ?_)
   rfl
  ·rw [decide_eq_false hle] at he
   repeat (first | apply ef_seq | (apply ef_mv; exact rfl; exact rfl) | (apply ef_bin; (iterate 3 exact rfl); (first | exact cmp_t rfl (by first | exact rfl | (simp only [cmpP]; omega)) | exact cmp_f rfl (by simp only [cmpP]; omega) | ((with_reducible refine bin_mul (wrap_of ?_ ?_)) <;> omega))) | (apply ef_ldp; (iterate 4 exact rfl); (exact rfl); (first | exact rd_2 rfl rfl | exact rfl)) | (apply ef_fap; exact rfl; exact rfl) | (apply ef_box; (iterate 4 exact rfl)) | (apply ef_bsl; exact rfl; (repeat (apply XVs.cons; exact rfl)); exact XVs.nil; exact rfl) | apply ef_nil | apply seqQ.normal | apply ef_ret | (apply ef_condt; exact rfl; (exact (rfl : true = true))) | (apply ef_call; exact rfl; ((repeat (apply XVs.cons; exact rfl)); exact XVs.nil); (with_reducible first | exact h1 _ | exact h2 _ | exact h3 _ | exact unless_c (k + 4) _ _ _ he)) | (apply ef_call; exact rfl; ((repeat (apply XVs.cons; exact rfl)); exact XVs.nil); (with_reducible apply first3_c); (iterate 3 exact rfl); (assumption)))
   (refine fin1 rfl (by exact rfl) rfl ?_)
   rfl
 ·rw [if_neg h0] at he
  unfold layE0 at h0 he
  repeat (first | apply ef_seq | (apply ef_mv; exact rfl; exact rfl) | (apply ef_bin; (iterate 3 exact rfl); (exact cmp_f rfl (by simp only [cmpP]; omega))) | (apply ef_ldp; (iterate 4 exact rfl); (exact rfl); (first | exact rd_2 rfl rfl | exact rfl)) | (apply ef_fap; exact rfl; exact rfl) | (apply ef_box; (iterate 4 exact rfl)) | (apply ef_bsl; exact rfl; (repeat (apply XVs.cons; exact rfl)); exact XVs.nil; exact rfl) | apply ef_nil | apply seqQ.normal | apply ef_ret | apply ef_skip | (apply ef_condf; exact rfl; (exact (rfl : false = false))) | (apply ef_call; exact rfl; ((repeat (apply XVs.cons; exact rfl)); exact XVs.nil); (with_reducible first | exact h1 _ | exact h2 _ | exact h3 _)) | (apply ef_call; exact rfl; ((repeat (apply XVs.cons; exact rfl)); exact XVs.nil); (with_reducible apply first3_c); (iterate 3 exact rfl); (assumption)))
  (refine fin1 rfl (by exact rfl) rfl ?_)
  rfl
theorem mf_cuts : MT.mf 115 = some mfW_l115 := mfW_q115
theorem cuts_c (k : Nat) (o : Ho) (dp p q : Int) (h : MHeap) (ho : holeE o = 0) (hd : 1 ≤ dp ∧ dp ≤ 10000) (hs : slopeE p q = 0) : orA (k + 1) 115 [encHo o, I64 dp, encPt (p, q)] h = some (encPt (cutN o dp q, cutD o p q), h) := by
 refine callPt (args' := [encHo o, I64 dp, encPt (p, q)]) (frzL_lt rfl) rfl (runZ_of mf_cuts (by simp) ?_)
 simp only [argsL]
 obtain ⟨⟨o1, o2⟩, ⟨o3, o4⟩, _⟩ := hole_ok ho
 obtain ⟨s1, s2, s3, s4, _⟩ := slope_ok hs
 have m1 := mul_bd' (a := dp) (b := o.d) (A := 10000) (B := 1000) (by omega) hd.2 (by omega) o4
 have m2 := mul_bd' (a := dp * o.d) (b := q) (A := 10000 * 1000) (B := 1000) m1.1 m1.2 (by omega) s4
 have m3 := mul_bd' (a := o.d) (b := q) (A := 1000) (B := 1000) (by omega) o4 (by omega) s4
 have m4 := mul_bd' (a := p) (b := o.e) (A := 1000) (B := 1000) s1 s2 o1 o2
 unfold cutN cutD
 have w1 : IntKind.i64.wrap (dp * o.d) = dp * o.d := wrap_of (by omega) (by omega)
 have w2 : IntKind.i64.wrap (dp * o.d * q) = dp * o.d * q := wrap_of (by omega) (by omega)
 have w3 : IntKind.i64.wrap (o.d * q) = o.d * q := wrap_of (by omega) (by omega)
 have w4 : IntKind.i64.wrap (p * o.e) = p * o.e := wrap_of (by omega) (by omega)
 have w5 : IntKind.i64.wrap (o.d * q - p * o.e) = o.d * q - p * o.e := wrap_of (by omega) (by omega)
 repeat (first | apply ef_seq | (apply ef_mv; exact rfl; exact rfl) | (apply ef_bin; (iterate 3 exact rfl); (first | ((with_reducible refine bin_sub (wrap_of ?_ ?_)) <;> omega) | ((with_reducible refine bin_mul (wrap_of ?_ ?_)) <;> omega) | with_reducible exact bin_mul (by assumption))) | (apply ef_ldp; (iterate 4 exact rfl); (exact rfl); (exact rfl)) | (apply ef_fap; exact rfl; exact rfl) | (apply ef_box; (iterate 4 exact rfl)) | (apply ef_new; exact rfl) | (apply ef_build; exact rfl; (repeat (apply XVs.cons; exact rfl)); exact XVs.nil; exact rfl; exact rfl) | (apply ef_st; (iterate 6 exact rfl); (exact rfl); exact rfl) | apply ef_nil | apply seqQ.normal | apply ef_ret)
 (apply finR1; (· exact rfl); (· apply resC; (iterate 4 exact rfl); exact rd_2 rfl rfl); (· exact rfl); (· exact rfl))
theorem mf_exists : MT.mf 116 = some mfW_l116 := mfW_q116
theorem exists_c (k : Nat) (n d : Int) (h : MHeap) {t : Bool} (ht : decide (0 < d) = t) : orA (k + 1) 116 [encPt (n, d)] h = some (Bo t, h) := by
 refine callL (args' := [encPt (n, d)]) (frzL_lt rfl) rfl (runZ_of mf_exists (by simp) ?_)
 simp only [argsL]
 subst ht
 by_cases h0 : 0 < d
 ·repeat (first | apply ef_seq | (apply ef_mv; exact rfl; exact rfl) | (apply ef_bin; (iterate 3 exact rfl); (exact cmp_t rfl (by first | exact rfl | (simp only [cmpP]; omega)))) | (apply ef_ldp; (iterate 4 exact rfl); (exact rfl); (exact rfl)) | (apply ef_fap; exact rfl; exact rfl) | (apply ef_box; (iterate 4 exact rfl)) | apply ef_nil | apply seqQ.normal | apply ef_ret)
  (refine fin1 rfl (by exact rfl) rfl ?_)
  rw [decide_eq_true h0]
 ·repeat (first | apply ef_seq | (apply ef_mv; exact rfl; exact rfl) | (apply ef_bin; (iterate 3 exact rfl); (exact cmp_f rfl (by simp only [cmpP]; omega))) | (apply ef_ldp; (iterate 4 exact rfl); (exact rfl); (exact rfl)) | (apply ef_fap; exact rfl; exact rfl) | (apply ef_box; (iterate 4 exact rfl)) | apply ef_nil | apply seqQ.normal | apply ef_ret)
  (refine fin1 rfl (by exact rfl) rfl ?_)
  rw [decide_eq_false h0]
end Go.Proofs.YtnmgpbihknjdjaaGreatDoor

/- Contracts: the cut for a slope. -/
namespace Go.Proofs.YtnmgpbihknjdjaaGreatDoor
open Go.RowKit
set_option linter.unusedVariables false
theorem cut_bd {o : Ho} {dp p q : Int} (ho : holeE o = 0) (hd : 1 ≤ dp ∧ dp ≤ 10000) (hs : slopeE p q = 0) : (-10000000000 ≤ cutN o dp q ∧ cutN o dp q ≤ 10000000000) ∧ -10000000000 ≤ cutD o p q ∧ cutD o p q ≤ 10000000000 := by
 obtain ⟨⟨o1, o2⟩, ⟨o3, o4⟩, _⟩ := hole_ok ho
 obtain ⟨s1, s2, s3, s4, _⟩ := slope_ok hs
 have m1 := mul_bd' (a := dp) (b := o.d) (A := 10000) (B := 1000) (by omega) hd.2 (by omega) o4
 have m2 := mul_bd' (a := dp * o.d) (b := q) (A := 10000 * 1000) (B := 1000) m1.1 m1.2 (by omega) s4
 have m3 := mul_bd' (a := o.d) (b := q) (A := 1000) (B := 1000) (by omega) o4 (by omega) s4
 have m4 := mul_bd' (a := p) (b := o.e) (A := 1000) (B := 1000) s1 s2 o1 o2
 unfold cutN cutD
 omega
abbrev enc4 (a b c d : Int) : MV := .agg [I64 a, I64 b, I64 c, I64 d]
theorem call4 {k f : Nat} {args args' : List MV} {h : MHeap} {a b c d : Int} (h1 : args.mapM (frz 0 [] h 8) = some args') (hT : tA f args' [] = none) (h2 : runZ MT (orA k) (itA k) 4000000 f args' [] = some (enc4 a b c d, [])) : orA (k + 1) f args h = some (enc4 a b c d, h) := by
 have := callA h1 hT h2 (by cases ltL 0 args <;> rfl) rfl
 rw [List.append_nil] at this
 exact this
theorem mf_ends : MT.mf 119 = some mfW_l119 := mfW_q119
theorem ends_c (k : Nat) (o : Ho) (x : Ly) (h : MHeap) (ho : holeE o = 0) (hd : 1 ≤ x.dp ∧ x.dp ≤ 10000) (hs : slopeE x.a x.b = 0) (ht : slopeE x.c x.d = 0) :
  orA (k + 2) 119 [encHo o, encLy x] h = some (if o.e < 0 then enc4 (cutN o x.dp x.d) (cutD o x.c x.d) (cutN o x.dp x.b) (cutD o x.a x.b) else enc4 (cutN o x.dp x.b) (cutD o x.a x.b) (cutN o x.dp x.d) (cutD o x.c x.d), h) := by
 have h1 := fun h => cuts_c k o x.dp x.a x.b h ho hd hs
 have h2 := fun h => cuts_c k o x.dp x.c x.d h ho hd ht
 by_cases he : o.e < 0
 ·rw [if_pos he]
  refine call4 (args' := [encHo o, encLy x]) (frzL_lt rfl) rfl (runZ_of mf_ends (by simp) ?_)
  simp only [argsL]
  repeat (first | apply ef_seq | (apply ef_bin; (iterate 3 exact rfl); (exact cmp_t rfl (by first | exact rfl | (simp only [cmpP]; omega)))) | (apply ef_ldp; (iterate 4 exact rfl); (exact rfl); (first | exact rd_2 rfl rfl | exact rd_3 rfl rfl rfl | exact rd_4 rfl rfl rfl rfl | exact rfl)) | (apply ef_iaap; (iterate 3 exact rfl); (omega); (omega)) | (apply ef_fap; exact rfl; exact rfl) | (apply ef_box; (iterate 4 exact rfl)) | (apply ef_new; exact rfl) | (apply ef_build; exact rfl; (repeat (apply XVs.cons; exact rfl)); exact XVs.nil; exact rfl; exact rfl) | (apply ef_nilck; (iterate 3 exact rfl)) | (apply ef_st; (iterate 6 exact rfl); (exact rfl); exact rfl) | apply ef_nil | apply seqQ.normal | apply ef_ret | (apply ef_condt; exact rfl; (exact (rfl : true = true))) | (apply ef_call; exact rfl; ((repeat (apply XVs.cons; exact rfl)); exact XVs.nil); (with_reducible first | exact h1 _ | exact h2 _)))
  refine finR1 (v := enc4 _ _ _ _) rfl ?_ (by exact rfl) rfl
  apply resC <;> exact rfl
 ·rw [if_neg he]
  refine call4 (args' := [encHo o, encLy x]) (frzL_lt rfl) rfl (runZ_of mf_ends (by simp) ?_)
  simp only [argsL]
  repeat (first | apply ef_seq | (apply ef_bin; (iterate 3 exact rfl); (exact cmp_f rfl (by simp only [cmpP]; omega))) | (apply ef_ldp; (iterate 4 exact rfl); (exact rfl); (first | exact rd_2 rfl rfl | exact rd_3 rfl rfl rfl | exact rd_4 rfl rfl rfl rfl | exact rfl)) | (apply ef_fap; exact rfl; exact rfl) | (apply ef_box; (iterate 4 exact rfl)) | (apply ef_new; exact rfl) | (apply ef_build; exact rfl; (repeat (apply XVs.cons; exact rfl)); exact XVs.nil; exact rfl; exact rfl) | (apply ef_nilck; (iterate 3 exact rfl)) | (apply ef_st; (iterate 6 exact rfl); (exact rfl); exact rfl) | apply ef_nil | apply seqQ.normal | apply ef_ret | apply ef_skip | (apply ef_condf; exact rfl; (exact (rfl : false = false))) | (apply ef_call; exact rfl; ((repeat (apply XVs.cons; exact rfl)); exact XVs.nil); (with_reducible first | exact h1 _ | exact h2 _)))
  refine finR1 (v := enc4 _ _ _ _) rfl ?_ (by exact rfl) rfl
  apply resC <;> exact rfl
end Go.Proofs.YtnmgpbihknjdjaaGreatDoor

/- Contracts: the cuts of a layer. -/
namespace Go.Proofs.YtnmgpbihknjdjaaGreatDoor
open Go.RowKit
set_option linter.unusedVariables false
end Go.Proofs.YtnmgpbihknjdjaaGreatDoor

/- Contracts: the document's holes, layers and cuts. -/
namespace Go.Proofs.YtnmgpbihknjdjaaGreatDoor
open Go.RowKit
set_option linter.unusedVariables false
theorem mf_HoleErr : MT.mf 27 = some ⟨19, [(.tmp 2)], (.seq (.reg [gO 1 (.box 3 (.s 0)), gO 2 (.mv (cI 0))]) (.seq (.seq (.reg [gO 3 (.fa 0 (.s 1)), gO 4 (.ld none (.s 3)), gO 5 (.call 53 [.s 4, (cI (-1000)), (cI 1000)]), gO 6 (.un .not (.s 5)), gO 7 (.mv (.s 6)), ⟨some (7, false), some 8, .fa 1 (.s 1)⟩, ⟨some (7, false), some 9, .ld none (.s 8)⟩, ⟨some (7, false), some 10, .call 53 [.s 9, (cI 1), (cI 1000)]⟩, ⟨some (7, false), some 11, .un .not (.s 10)⟩, gO 12 (.pick (.s 7) cT (.s 11)), gO 13 (.mv (.s 12)), ⟨some (13, false), some 14, .fa 2 (.s 1)⟩, ⟨some (13, false), some 15, .ld none (.s 14)⟩, ⟨some (13, false), some 16, .call 53 [.s 15, (cI 1), (cI 10000)]⟩, ⟨some (13, false), some 17, .un .not (.s 16)⟩, gO 18 (.pick (.s 13) cT (.s 17))]) (.cond (.s 18) (.seq (.reg [gO 2 (.mv (cI 2))]) .ret) .skip)) (.seq (.reg [gO 2 (.mv (cI 0))]) .ret)))⟩ := by kernel_rfl
theorem HoleErr_c (k : Nat) (o : Ho) (h : MHeap) {e : Int} (he : holeE o = e) : orA (k + 2) 27 [encHo o] h = some (I64 e, h) := by
 refine callL (args' := [encHo o]) (frzL_lt rfl) rfl (runZ_of mf_HoleErr (by simp) ?_)
 simp only [argsL]
 subst he
 unfold holeE
 cases h1 : inB o.e (-1000) 1000 <;> cases h2 : inB o.d 1 1000 <;> cases h3 : inB o.b 1 10000
 all_goals repeat (first | apply ef_seq | (apply ef_mv; exact rfl; exact rfl) | (apply ef_gy; exact rfl; (exact (rfl : false = false))) | (apply ef_gn; exact rfl; (exact (rfl : true = true)); exact rfl) | (apply ef_pick; (iterate 3 exact rfl)) | (apply ef_ldp; (iterate 4 exact rfl); (exact rfl); (exact rfl)) | (apply ef_fap; exact rfl; exact rfl) | (apply ef_notT; exact rfl; exact rfl) | (apply ef_notF; exact rfl; exact rfl) | (apply ef_box; (iterate 4 exact rfl)) | apply ef_nil | apply seqQ.normal | apply ef_ret | apply seqQ.ret | apply ef_skip | (apply ef_condt; exact rfl; (exact (rfl : true = true))) | (apply ef_condf; exact rfl; (exact (rfl : false = false))) | (apply ef_call; exact rfl; ((repeat (apply XVs.cons; exact rfl)); exact XVs.nil); (with_reducible first | exact Within_c k _ _ _ _ h1 | exact Within_c k _ _ _ _ h2 | exact Within_c k _ _ _ _ h3)))
 all_goals ((refine fin1 rfl (by exact rfl) rfl ?_); rfl)
theorem mf_DepthErr : MT.mf 29 = some ⟨6, [(.tmp 2)], (.seq (.reg [gO 2 (.mv (cI 0))]) (.seq (.seq (.reg [gO 3 (.mv (.s 0)), gO 4 (.call 53 [.s 3, (cI 1), (cI 10000)]), gO 5 (.un .not (.s 4))]) (.cond (.s 5) (.seq (.reg [gO 2 (.mv (cI 2))]) .ret) .skip)) (.seq (.reg [gO 2 (.mv (cI 0))]) .ret)))⟩ := by kernel_rfl
theorem DepthErr_c (k : Nat) (n : Int) (h : MHeap) {e : Int} (he : depE n = e) : orA (k + 2) 29 [I64 n] h = some (I64 e, h) := by
 refine callL (args' := [I64 n]) (frz_lits [.int .i64 n]) rfl (runZ_of mf_DepthErr (by simp) ?_)
 simp only [argsL]
 subst he
 unfold depE
 cases h1 : inB n 1 10000
 all_goals repeat (first | apply ef_seq | (apply ef_mv; exact rfl; exact rfl) | (apply ef_notT; exact rfl; exact rfl) | (apply ef_notF; exact rfl; exact rfl) | apply ef_nil | apply seqQ.normal | apply ef_ret | apply seqQ.ret | apply ef_skip | (apply ef_condt; exact rfl; (exact (rfl : true = true))) | (apply ef_condf; exact rfl; (exact (rfl : false = false))) | (apply ef_call; exact rfl; ((repeat (apply XVs.cons; exact rfl)); exact XVs.nil); (with_reducible exact Within_c k _ _ _ _ h1)))
 all_goals ((refine fin1 rfl (by exact rfl) rfl ?_); rfl)
theorem mf_bIsLow : MT.mf 41 = some ⟨14, [(.tmp 2)], (.seq (.reg [gO 1 (.box 2 (.s 0)), gO 2 (.mv cF)]) (.seq (.reg [gO 3 (.fa 1 (.s 1)), gO 4 (.ld none (.s 3)), gO 5 (.bin .gtr (.s 4) (cI 0)), gO 6 (.mv (.s 5)), ⟨some (6, true), some 7, .fa 0 (.s 1)⟩, ⟨some (6, true), some 8, .ld none (.s 7)⟩, ⟨some (6, true), some 9, .fa 1 (.s 1)⟩, ⟨some (6, true), some 10, .ld none (.s 9)⟩, ⟨some (6, true), some 11, .call 131 [.s 8, .s 10]⟩, ⟨some (6, true), some 12, .bin .eql (.s 11) (cI 1)⟩, gO 13 (.pick (.s 6) (.s 12) cF), gO 2 (.mv (.s 13))]) .ret))⟩ := by kernel_rfl
theorem bIsLow_c (k : Nat) (p q : Int) (h : MHeap) (h4 : q ≤ 9223372036854775807) {t : Bool} (ht : isLow p q = t) : orA (k + 3) 41 [encPt (p, q)] h = some (Bo t, h) := by
 refine callL (args' := [encPt (p, q)]) (frzL_lt rfl) rfl (runZ_of mf_bIsLow (by simp) ?_)
 simp only [argsL]
 subst ht
 unfold isLow
 by_cases h0 : 0 < q
 ·have hd := fun h => bGcd_c k p q h (fun e => by omega) (by omega) h4
  generalize (Int.gcd p q : Int) = G at *
  by_cases hG : G = 1
  ·repeat (first | apply ef_seq | (apply ef_mv; exact rfl; exact rfl) | (apply ef_bin; (iterate 3 exact rfl); (exact cmp_t rfl (by first | exact rfl | (simp only [cmpP]; omega)))) | (apply ef_gy; exact rfl; (exact (rfl : true = true))) | (apply ef_pick; (iterate 3 exact rfl)) | (apply ef_ldp; (iterate 4 exact rfl); (exact rfl); (exact rfl)) | (apply ef_fap; exact rfl; exact rfl) | (apply ef_box; (iterate 4 exact rfl)) | apply ef_nil | apply seqQ.normal | apply ef_ret | (apply ef_call; exact rfl; ((repeat (apply XVs.cons; exact rfl)); exact XVs.nil); (with_reducible exact hd _)))
   (refine fin1 rfl (by exact rfl) rfl ?_)
   simp [h0, hG]
  ·repeat (first | apply ef_seq | (apply ef_mv; exact rfl; exact rfl) | (apply ef_bin; (iterate 3 exact rfl); (first | exact cmp_t rfl (by first | exact rfl | (simp only [cmpP]; omega)) | exact cmp_f rfl (by simp only [cmpP]; omega))) | (apply ef_gy; exact rfl; (exact (rfl : true = true))) | (apply ef_pick; (iterate 3 exact rfl)) | (apply ef_ldp; (iterate 4 exact rfl); (exact rfl); (exact rfl)) | (apply ef_fap; exact rfl; exact rfl) | (apply ef_box; (iterate 4 exact rfl)) | apply ef_nil | apply seqQ.normal | apply ef_ret | (apply ef_call; exact rfl; ((repeat (apply XVs.cons; exact rfl)); exact XVs.nil); (with_reducible exact hd _)))
   (refine fin1 rfl (by exact rfl) rfl ?_)
   simp [h0, hG]
 ·repeat (first | apply ef_seq | (apply ef_mv; exact rfl; exact rfl) | (apply ef_bin; (iterate 3 exact rfl); (exact cmp_f rfl (by simp only [cmpP]; omega))) | (apply ef_gn; exact rfl; (exact (rfl : false = false)); exact rfl) | (apply ef_pick; (iterate 3 exact rfl)) | (apply ef_ldp; (iterate 4 exact rfl); (exact rfl); (exact rfl)) | (apply ef_fap; exact rfl; exact rfl) | (apply ef_box; (iterate 4 exact rfl)) | apply ef_nil | apply seqQ.normal | apply ef_ret)
  (refine fin1 rfl (by exact rfl) rfl ?_)
  simp [h0]
theorem mf_SlopeErr : MT.mf 30 = some ⟨15, [(.tmp 2)], (.seq (.reg [gO 1 (.box 2 (.s 0)), gO 2 (.mv (cI 0))]) (.seq (.seq (.reg [gO 3 (.ld (some 2) (.s 1)), gO 4 (.call 41 [.s 3]), gO 5 (.un .not (.s 4))]) (.cond (.s 5) (.seq (.reg [gO 2 (.mv (cI 3))]) .ret) .skip)) (.seq (.seq (.reg [gO 6 (.fa 0 (.s 1)), gO 7 (.ld none (.s 6)), gO 8 (.call 53 [.s 7, (cI (-1000)), (cI 1000)]), gO 9 (.un .not (.s 8)), gO 10 (.mv (.s 9)), ⟨some (10, false), some 11, .fa 1 (.s 1)⟩, ⟨some (10, false), some 12, .ld none (.s 11)⟩, ⟨some (10, false), some 13, .bin .gtr (.s 12) (cI 1000)⟩, gO 14 (.pick (.s 10) cT (.s 13))]) (.cond (.s 14) (.seq (.reg [gO 2 (.mv (cI 2))]) .ret) .skip)) (.seq (.reg [gO 2 (.mv (cI 0))]) .ret))))⟩ := by kernel_rfl
theorem SlopeErr_c (k : Nat) (p q : Int) (h : MHeap) (hq : q ≤ 9223372036854775807) {e : Int} (he : slopeE p q = e) : orA (k + 4) 30 [encPt (p, q)] h = some (I64 e, h) := by
 refine callL (args' := [encPt (p, q)]) (frzL_lt rfl) rfl (runZ_of mf_SlopeErr (by simp) ?_)
 simp only [argsL]
 subst he
 unfold slopeE
 cases hl : isLow p q
 ·repeat (first | apply ef_seq | (apply ef_mv; exact rfl; exact rfl) | (apply ef_ldp; (iterate 4 exact rfl); (exact rfl); (exact rd_2 rfl rfl)) | (apply ef_notF; exact rfl; exact rfl) | (apply ef_box; (iterate 4 exact rfl)) | apply ef_nil | apply seqQ.normal | apply ef_ret | apply seqQ.ret | (apply ef_condt; exact rfl; (exact (rfl : true = true))) | (apply ef_call; exact rfl; ((repeat (apply XVs.cons; exact rfl)); exact XVs.nil); (with_reducible exact bIsLow_c k p q _ hq hl)))
  (refine fin1 rfl (by exact rfl) rfl ?_)
  rfl
 ·by_cases h2 : q ≤ 1000
  ·rw [decide_eq_true h2]
   cases h1 : inB p (-1000) 1000
   all_goals repeat (first | apply ef_seq | (apply ef_mv; exact rfl; exact rfl) | (apply ef_bin; (iterate 3 exact rfl); (exact cmp_f rfl (by simp only [cmpP]; omega))) | (apply ef_gy; exact rfl; (exact (rfl : false = false))) | (apply ef_gn; exact rfl; (exact (rfl : true = true)); exact rfl) | (apply ef_pick; (iterate 3 exact rfl)) | (apply ef_ldp; (iterate 4 exact rfl); (exact rfl); (first | exact rd_2 rfl rfl | exact rfl)) | (apply ef_fap; exact rfl; exact rfl) | (apply ef_notT; exact rfl; exact rfl) | (apply ef_notF; exact rfl; exact rfl) | (apply ef_box; (iterate 4 exact rfl)) | apply ef_nil | apply seqQ.normal | apply ef_ret | apply seqQ.ret | apply ef_skip | (apply ef_condt; exact rfl; (exact (rfl : true = true))) | (apply ef_condf; exact rfl; (exact (rfl : false = false))) | (apply ef_call; exact rfl; ((repeat (apply XVs.cons; exact rfl)); exact XVs.nil); (with_reducible first | exact bIsLow_c k p q _ hq hl | exact Within_c (k + 2) _ _ _ _ h1)))
   all_goals ((refine fin1 rfl (by exact rfl) rfl ?_); rfl)
  ·rw [decide_eq_false h2]
   cases h1 : inB p (-1000) 1000
   all_goals repeat (first | apply ef_seq | (apply ef_mv; exact rfl; exact rfl) | (apply ef_bin; (iterate 3 exact rfl); (exact cmp_t rfl (by first | exact rfl | (simp only [cmpP]; omega)))) | (apply ef_gy; exact rfl; (exact (rfl : false = false))) | (apply ef_gn; exact rfl; (exact (rfl : true = true)); exact rfl) | (apply ef_pick; (iterate 3 exact rfl)) | (apply ef_ldp; (iterate 4 exact rfl); (exact rfl); (first | exact rd_2 rfl rfl | exact rfl)) | (apply ef_fap; exact rfl; exact rfl) | (apply ef_notT; exact rfl; exact rfl) | (apply ef_notF; exact rfl; exact rfl) | (apply ef_box; (iterate 4 exact rfl)) | apply ef_nil | apply seqQ.normal | apply ef_ret | apply seqQ.ret | apply ef_skip | (apply ef_condt; exact rfl; (exact (rfl : true = true))) | (apply ef_condf; exact rfl; (exact (rfl : false = false))) | (apply ef_call; exact rfl; ((repeat (apply XVs.cons; exact rfl)); exact XVs.nil); (with_reducible first | exact bIsLow_c k p q _ hq hl | exact Within_c (k + 2) _ _ _ _ h1)))
   all_goals ((refine fin1 rfl (by exact rfl) rfl ?_); rfl)
theorem mf_rcut : MT.mf 122 = some ⟨26, [(.tmp 6), (.tmp 7)], (.seq (.reg [gO 3 (.box 3 (.s 0)), gO 5 (.box 2 (.s 2)), gO 6 (.mv (cI 0)), gO 7 (.mv (cI 0))]) (.seq (.reg [gO 8 (.mv (.s 1)), gO 9 (.fa 1 (.s 3)), gO 10 (.ld none (.s 9)), gO 11 (.bin .mul (.s 8) (.s 10)), gO 12 (.fa 1 (.s 5)), gO 13 (.ld none (.s 12)), gO 14 (.bin .mul (.s 11) (.s 13)), gO 15 (.fa 1 (.s 3)), gO 16 (.ld none (.s 15)), gO 17 (.fa 1 (.s 5)), gO 18 (.ld none (.s 17)), gO 19 (.bin .mul (.s 16) (.s 18)), gO 20 (.fa 0 (.s 5)), gO 21 (.ld none (.s 20)), gO 22 (.fa 0 (.s 3)), gO 23 (.ld none (.s 22)), gO 24 (.bin .mul (.s 21) (.s 23)), gO 25 (.bin .sub (.s 19) (.s 24)), gO 6 (.mv (.s 14)), gO 7 (.mv (.s 25))]) .ret))⟩ := by kernel_rfl
theorem rcut_c (k : Nat) (o : Ho) (dp p q : Int) (h : MHeap) (ho : holeE o = 0) (hd : 1 ≤ dp ∧ dp ≤ 10000) (hs : slopeE p q = 0) : orA (k + 1) 122 [encHo o, I64 dp, encPt (p, q)] h = some (.tup [I64 (cutN o dp q), I64 (cutD o p q)], h) := by
 refine callTT (args' := [encHo o, I64 dp, encPt (p, q)]) (frzL_lt rfl) rfl (runZ_of mf_rcut (by simp) ?_)
 simp only [argsL]
 obtain ⟨⟨o1, o2⟩, ⟨o3, o4⟩, _⟩ := hole_ok ho
 obtain ⟨s1, s2, s3, s4, _⟩ := slope_ok hs
 have m1 := mul_bd' (a := dp) (b := o.d) (A := 10000) (B := 1000) (by omega) hd.2 (by omega) o4
 have m2 := mul_bd' (a := dp * o.d) (b := q) (A := 10000 * 1000) (B := 1000) m1.1 m1.2 (by omega) s4
 have m3 := mul_bd' (a := o.d) (b := q) (A := 1000) (B := 1000) (by omega) o4 (by omega) s4
 have m4 := mul_bd' (a := p) (b := o.e) (A := 1000) (B := 1000) s1 s2 o1 o2
 unfold cutN cutD
 have w1 : IntKind.i64.wrap (dp * o.d) = dp * o.d := wrap_of (by omega) (by omega)
 have w2 : IntKind.i64.wrap (dp * o.d * q) = dp * o.d * q := wrap_of (by omega) (by omega)
 have w3 : IntKind.i64.wrap (o.d * q) = o.d * q := wrap_of (by omega) (by omega)
 have w4 : IntKind.i64.wrap (p * o.e) = p * o.e := wrap_of (by omega) (by omega)
 have w5 : IntKind.i64.wrap (o.d * q - p * o.e) = o.d * q - p * o.e := wrap_of (by omega) (by omega)
 repeat (first | apply ef_seq | (apply ef_mv; exact rfl; exact rfl) | (apply ef_bin; (iterate 3 exact rfl); (first | ((with_reducible refine bin_sub (wrap_of ?_ ?_)) <;> omega) | ((with_reducible refine bin_mul (wrap_of ?_ ?_)) <;> omega) | with_reducible exact bin_mul (by assumption))) | (apply ef_ldp; (iterate 4 exact rfl); (exact rfl); (exact rfl)) | (apply ef_fap; exact rfl; exact rfl) | (apply ef_box; (iterate 4 exact rfl)) | apply ef_nil | apply seqQ.normal | apply ef_ret)
 (refine fin2 rfl (by exact rfl) (by exact rfl) ?_)
 rfl
end Go.Proofs.YtnmgpbihknjdjaaGreatDoor

/- Contracts: the document's cuts. -/
namespace Go.Proofs.YtnmgpbihknjdjaaGreatDoor
open Go.RowKit
set_option linter.unusedVariables false
theorem mf_LayerErr : MT.mf 32 = some ⟨34, [(.tmp 2)], (.seq (.reg [gO 1 (.box 5 (.s 0)), gO 2 (.mv (cI 0))]) (.seq (.seq (.reg [gO 6 (.fa 0 (.s 1)), gO 7 (.ld none (.s 6)), gO 8 (.call 29 [.s 7]), gO 3 (.mv (.s 8))]) (.seq (.reg [gO 9 (.mv (.s 3)), gO 10 (.bin .neq (.s 9) (cI 0))]) (.cond (.s 10) (.seq (.reg [gO 11 (.mv (.s 3)), gO 2 (.mv (.s 11))]) .ret) .skip))) (.seq (.seq (.reg [gO 12 (.fa 1 (.s 1)), gO 13 (.fa 0 (.s 12)), gO 14 (.ld (some 2) (.s 13)), gO 15 (.call 30 [.s 14]), gO 4 (.mv (.s 15))]) (.seq (.reg [gO 16 (.mv (.s 4)), gO 17 (.bin .neq (.s 16) (cI 0))]) (.cond (.s 17) (.seq (.reg [gO 18 (.mv (.s 4)), gO 2 (.mv (.s 18))]) .ret) .skip))) (.seq (.seq (.reg [gO 19 (.fa 1 (.s 1)), gO 20 (.fa 2 (.s 19)), gO 21 (.ld (some 2) (.s 20)), gO 22 (.call 30 [.s 21]), gO 5 (.mv (.s 22))]) (.seq (.reg [gO 23 (.mv (.s 5)), gO 24 (.bin .neq (.s 23) (cI 0))]) (.cond (.s 24) (.seq (.reg [gO 25 (.mv (.s 5)), gO 2 (.mv (.s 25))]) .ret) .skip))) (.seq (.seq (.reg [gO 26 (.fa 1 (.s 1)), gO 27 (.fa 0 (.s 26)), gO 28 (.ld (some 2) (.s 27)), gO 29 (.fa 1 (.s 1)), gO 30 (.fa 2 (.s 29)), gO 31 (.ld (some 2) (.s 30)), gO 32 (.call 43 [.s 28, .s 31]), gO 33 (.bin .gtr (.s 32) (cI 0))]) (.cond (.s 33) (.seq (.reg [gO 2 (.mv (cI 9))]) .ret) .skip)) (.seq (.reg [gO 2 (.mv (cI 0))]) .ret))))))⟩ := by kernel_rfl
theorem LayerErr_c (k : Nat) (x : Ly) (h : MHeap) (hb : x.b ≤ 9223372036854775807) (hd : x.d ≤ 9223372036854775807) : orA (k + 5) 32 [encLy x] h = some (I64 (layE x), h) := by
 refine callL (args' := [encLy x]) (frzL_lt rfl) rfl (runZ_of mf_LayerErr (by simp) ?_)
 simp only [argsL]
 have h1 := fun h => DepthErr_c (k + 2) x.dp h rfl
 have h2 := fun h => SlopeErr_c k x.a x.b h hb rfl
 have h3 := fun h => SlopeErr_c k x.c x.d h hd rfl
 have HE := Lib.hid (show layE x = if firstE [depE x.dp, slopeE x.a x.b, slopeE x.c x.d] = 0 then unl (decide (x.a * x.d ≤ x.c * x.b)) 9 else firstE [depE x.dp, slopeE x.a x.b, slopeE x.c x.d] from rfl)
 by_cases e1 : depE x.dp = 0
 ·by_cases e2 : slopeE x.a x.b = 0
  ·by_cases e3 : slopeE x.c x.d = 0
   ·obtain ⟨s1, s2, s3, s4, _⟩ := slope_ok e2
    obtain ⟨t1, t2, t3, t4, _⟩ := slope_ok e3
    have m1 := mul_bd' (a := x.a) (b := x.d) (A := 1000) (B := 1000) s1 s2 (by omega) t4
    have m2 := mul_bd' (a := x.c) (b := x.b) (A := 1000) (B := 1000) t1 t2 (by omega) s4
    have hcm := fun h => bCmp_c (k + 3) (x.a, x.b) (x.c, x.d) h (by simp only; omega) (by simp only; omega) rfl
    have hle : layE x = unl (decide (x.a * x.d ≤ x.c * x.b)) 9 := by rw [HE.out, e1, e2, e3]; rfl
    rw [hle]
    by_cases hg : x.a * x.d ≤ x.c * x.b
    ·have hz : ¬ 0 < cmpI (x.a * x.d) (x.c * x.b) := by rw [cmpI_pos]; omega
     rw [decide_eq_true hg]
     simp only at hcm
     generalize cmpI (x.a * x.d) (x.c * x.b) = v at *
     repeat (first | apply ef_seq | (apply ef_mv; exact rfl; exact rfl) | (apply ef_bin; (iterate 3 exact rfl); (exact cmp_f rfl (by simp only [cmpP]; omega))) | (apply ef_ldp; (iterate 4 exact rfl); (exact rfl); (first | exact rd_2 rfl rfl | exact rfl)) | (apply ef_fap; exact rfl; exact rfl) | (apply ef_box; (iterate 4 exact rfl)) | apply ef_nil | apply seqQ.normal | apply ef_ret | apply ef_skip | (apply ef_condf; exact rfl; (exact (rfl : false = false))) | (apply ef_call; exact rfl; ((repeat (apply XVs.cons; exact rfl)); exact XVs.nil); (with_reducible first | exact h1 _ | exact h2 _ | exact h3 _ | exact hcm _)))
     (refine fin1 rfl (by exact rfl) rfl ?_)
     rfl
    ·have hz : 0 < cmpI (x.a * x.d) (x.c * x.b) := by rw [cmpI_pos]; omega
     rw [decide_eq_false hg]
     simp only at hcm
     generalize cmpI (x.a * x.d) (x.c * x.b) = v at *
     repeat (first | apply ef_seq | (apply ef_mv; exact rfl; exact rfl) | (apply ef_bin; (iterate 3 exact rfl); (first | exact cmp_t rfl (by first | exact rfl | (simp only [cmpP]; omega)) | exact cmp_f rfl (by simp only [cmpP]; omega))) | (apply ef_ldp; (iterate 4 exact rfl); (exact rfl); (first | exact rd_2 rfl rfl | exact rfl)) | (apply ef_fap; exact rfl; exact rfl) | (apply ef_box; (iterate 4 exact rfl)) | apply ef_nil | apply seqQ.normal | apply ef_ret | apply seqQ.ret | apply ef_skip | (apply ef_condt; exact rfl; (exact (rfl : true = true))) | (apply ef_condf; exact rfl; (exact (rfl : false = false))) | (apply ef_call; exact rfl; ((repeat (apply XVs.cons; exact rfl)); exact XVs.nil); (with_reducible first | exact h1 _ | exact h2 _ | exact h3 _ | exact hcm _)))
     (refine fin1 rfl (by exact rfl) rfl ?_)
     rfl
   ·have hle : layE x = slopeE x.c x.d := by rw [HE.out, e1, e2]; simp [firstE, e3]
    rw [hle]
    repeat (first | apply ef_seq | (apply ef_mv; exact rfl; exact rfl) | (apply ef_bin; (iterate 3 exact rfl); (first | exact cmp_t rfl (by first | exact rfl | (simp only [cmpP]; omega)) | exact cmp_f rfl (by simp only [cmpP]; omega))) | (apply ef_ldp; (iterate 4 exact rfl); (exact rfl); (first | exact rd_2 rfl rfl | exact rfl)) | (apply ef_fap; exact rfl; exact rfl) | (apply ef_box; (iterate 4 exact rfl)) | apply ef_nil | apply seqQ.normal | apply ef_ret | apply seqQ.ret | apply ef_skip | (apply ef_condt; exact rfl; (exact (rfl : true = true))) | (apply ef_condf; exact rfl; (exact (rfl : false = false))) | (apply ef_call; exact rfl; ((repeat (apply XVs.cons; exact rfl)); exact XVs.nil); (with_reducible first | exact h1 _ | exact h2 _ | exact h3 _)))
    (refine fin1 rfl (by exact rfl) rfl ?_)
    rfl
  ·have hle : layE x = slopeE x.a x.b := by rw [HE.out, e1]; simp [firstE, e2]
   rw [hle]
   repeat (first | apply ef_seq | (apply ef_mv; exact rfl; exact rfl) | (apply ef_bin; (iterate 3 exact rfl); (first | exact cmp_t rfl (by first | exact rfl | (simp only [cmpP]; omega)) | exact cmp_f rfl (by simp only [cmpP]; omega))) | (apply ef_ldp; (iterate 4 exact rfl); (exact rfl); (first | exact rd_2 rfl rfl | exact rfl)) | (apply ef_fap; exact rfl; exact rfl) | (apply ef_box; (iterate 4 exact rfl)) | apply ef_nil | apply seqQ.normal | apply ef_ret | apply seqQ.ret | apply ef_skip | (apply ef_condt; exact rfl; (exact (rfl : true = true))) | (apply ef_condf; exact rfl; (exact (rfl : false = false))) | (apply ef_call; exact rfl; ((repeat (apply XVs.cons; exact rfl)); exact XVs.nil); (with_reducible first | exact h1 _ | exact h2 _)))
   (refine fin1 rfl (by exact rfl) rfl ?_)
   rfl
 ·have hle : layE x = depE x.dp := by rw [HE.out]; simp [firstE, e1]
  rw [hle]
  repeat (first | apply ef_seq | (apply ef_mv; exact rfl; exact rfl) | (apply ef_bin; (iterate 3 exact rfl); (exact cmp_t rfl (by first | exact rfl | (simp only [cmpP]; omega)))) | (apply ef_ldp; (iterate 4 exact rfl); (exact rfl); (exact rfl)) | (apply ef_fap; exact rfl; exact rfl) | (apply ef_box; (iterate 4 exact rfl)) | apply ef_nil | apply seqQ.normal | apply ef_ret | apply seqQ.ret | (apply ef_condt; exact rfl; (exact (rfl : true = true))) | (apply ef_call; exact rfl; ((repeat (apply XVs.cons; exact rfl)); exact XVs.nil); (with_reducible exact h1 _)))
  (refine fin1 rfl (by exact rfl) rfl ?_)
  rfl
end Go.Proofs.YtnmgpbihknjdjaaGreatDoor

/- Contracts: the document's cuts of a layer. -/
namespace Go.Proofs.YtnmgpbihknjdjaaGreatDoor
open Go.RowKit
set_option linter.unusedVariables false
end Go.Proofs.YtnmgpbihknjdjaaGreatDoor

/- Answers of holes: plain laws. -/
namespace Go.Proofs.YtnmgpbihknjdjaaGreatDoor
open Go.RowKit
set_option linter.unusedVariables false
def ansP (n0 d0 n1 d1 lo most : Int) : Int :=
 if ¬ 0 < d0 ∨ most * d0 < n0 ∨ (0 < d1 ∧ n1 < lo * d1) then 0 else if 0 < d1 ∧ ¬ n0 < lo * d0 ∧ ¬ most * d1 < n1 then 2 else 1
def ansQ (n0 d0 n1 d1 lo most : Int) : Int :=
 if ¬ (0 < d0 ∨ 0 < d1) ∨ (¬ (0 < d0 ∧ n0 ≤ most * d0) ∧ ¬ (0 < d1 ∧ n1 ≤ most * d1)) ∨ ((0 < d0 ∧ 0 < d1) ∧ ¬ (0 < d0 ∧ lo * d0 ≤ n0) ∧ ¬ (0 < d1 ∧ lo * d1 ≤ n1)) then 0
 else if (0 < d0 ∧ 0 < d1) ∧ (0 < d0 ∧ lo * d0 ≤ n0) ∧ (0 < d1 ∧ lo * d1 ≤ n1) ∧ (0 < d0 ∧ n0 ≤ most * d0) ∧ (0 < d1 ∧ n1 ≤ most * d1) then 2 else 1
theorem ansQ_swap (n0 d0 n1 d1 lo most : Int) : ansQ n0 d0 n1 d1 lo most = ansQ n1 d1 n0 d0 lo most := by
 unfold ansQ
 generalize lo * d0 = a
 generalize lo * d1 = b
 generalize most * d0 = c
 generalize most * d1 = d
 have h1 : (¬ (0 < d0 ∨ 0 < d1) ∨ (¬ (0 < d0 ∧ n0 ≤ c) ∧ ¬ (0 < d1 ∧ n1 ≤ d)) ∨ ((0 < d0 ∧ 0 < d1) ∧ ¬ (0 < d0 ∧ a ≤ n0) ∧ ¬ (0 < d1 ∧ b ≤ n1))) ↔ (¬ (0 < d1 ∨ 0 < d0) ∨ (¬ (0 < d1 ∧ n1 ≤ d) ∧ ¬ (0 < d0 ∧ n0 ≤ c)) ∨ ((0 < d1 ∧ 0 < d0) ∧ ¬ (0 < d1 ∧ b ≤ n1) ∧ ¬ (0 < d0 ∧ a ≤ n0))) := by
  constructor <;> intro h <;> omega
 have h2 : ((0 < d0 ∧ 0 < d1) ∧ (0 < d0 ∧ a ≤ n0) ∧ (0 < d1 ∧ b ≤ n1) ∧ (0 < d0 ∧ n0 ≤ c) ∧ (0 < d1 ∧ n1 ≤ d)) ↔ ((0 < d1 ∧ 0 < d0) ∧ (0 < d1 ∧ b ≤ n1) ∧ (0 < d0 ∧ a ≤ n0) ∧ (0 < d1 ∧ n1 ≤ d) ∧ (0 < d0 ∧ n0 ≤ c)) := by
  constructor <;> intro h <;> omega
 simp only [h1, h2]
theorem ans_same {n0 d0 n1 d1 lo most : Int} (h1 : 0 < d1 → 0 < d0) (h2 : 0 < d1 → n0 * d1 ≤ n1 * d0) : ansP n0 d0 n1 d1 lo most = ansQ n0 d0 n1 d1 lo most := by
 have k1 : 0 < d1 → n1 ≤ most * d1 → n0 ≤ most * d0 := fun hd h => by
  have a := Int.mul_le_mul_of_nonneg_right h (show 0 ≤ d0 by have := h1 hd; omega)
  refine Int.le_of_mul_le_mul_right (a := d1) ?_ hd
  rw [Int.mul_right_comm]
  exact Int.le_trans (h2 hd) a
 have k2 : 0 < d1 → lo * d0 ≤ n0 → lo * d1 ≤ n1 := fun hd h => by
  have a := Int.mul_le_mul_of_nonneg_right h (show 0 ≤ d1 by omega)
  refine Int.le_of_mul_le_mul_right (a := d0) ?_ (h1 hd)
  rw [Int.mul_right_comm]
  exact Int.le_trans a (h2 hd)
 unfold ansP ansQ
 generalize lo * d0 = a at *
 generalize lo * d1 = b at *
 generalize most * d0 = c at *
 generalize most * d1 = d at *
 have e1 : (¬ 0 < d0 ∨ c < n0 ∨ (0 < d1 ∧ n1 < b)) ↔ (¬ (0 < d0 ∨ 0 < d1) ∨ (¬ (0 < d0 ∧ n0 ≤ c) ∧ ¬ (0 < d1 ∧ n1 ≤ d)) ∨ ((0 < d0 ∧ 0 < d1) ∧ ¬ (0 < d0 ∧ a ≤ n0) ∧ ¬ (0 < d1 ∧ b ≤ n1))) := by
  constructor <;> intro h <;> omega
 simp only [e1]
 split
 ·rfl
 ·rename_i hn
  have e2 : (0 < d1 ∧ ¬ n0 < a ∧ ¬ d < n1) ↔ ((0 < d0 ∧ 0 < d1) ∧ (0 < d0 ∧ a ≤ n0) ∧ (0 < d1 ∧ b ≤ n1) ∧ (0 < d0 ∧ n0 ≤ c) ∧ (0 < d1 ∧ n1 ≤ d)) := by
   constructor <;> intro h <;> omega
  simp only [e2]
theorem cut_ord {o : Ho} {dp p q r s : Int} (ho : holeE o = 0) (hd : 1 ≤ dp) (hq : 0 < q) (hs : 0 < s) (h : r * q * o.e ≤ p * s * o.e ∨ True) (hx : p * o.e * s ≤ r * o.e * q) : (0 < cutD o r s → 0 < cutD o p q) ∧ cutN o dp q * cutD o r s ≤ cutN o dp s * cutD o p q := by
 obtain ⟨_, ⟨o3, o4⟩, _⟩ := hole_ok ho
 have e1 : cutD o r s * q ≤ cutD o p q * s := by
  unfold cutD
  rw [Int.sub_mul, Int.sub_mul, Int.mul_right_comm o.d q s]
  omega
 refine ⟨fun h => ?_, ?_⟩
 ·have : 0 < cutD o p q * s := Int.lt_of_lt_of_le (Int.mul_pos h hq) e1
  refine Classical.byContradiction fun hn => ?_
  have := Int.mul_nonneg (a := -(cutD o p q)) (b := s) (by omega) (by omega)
  rw [Int.neg_mul] at this
  omega
 ·have hA : 0 ≤ dp * o.d := Int.mul_nonneg (by omega) (by omega)
  have := Int.mul_le_mul_of_nonneg_left e1 hA
  unfold cutN
  rw [Int.mul_assoc (dp * o.d), Int.mul_assoc (dp * o.d), Int.mul_comm q, Int.mul_comm s]
  exact this
theorem ends_ord {o : Ho} {x : Ly} (ho : holeE o = 0) (hx : layE x = 0) :
  (o.e < 0 → (0 < cutD o x.a x.b → 0 < cutD o x.c x.d) ∧ cutN o x.dp x.d * cutD o x.a x.b ≤ cutN o x.dp x.b * cutD o x.c x.d) ∧
  (¬ o.e < 0 → (0 < cutD o x.c x.d → 0 < cutD o x.a x.b) ∧ cutN o x.dp x.b * cutD o x.c x.d ≤ cutN o x.dp x.d * cutD o x.a x.b) := by
 obtain ⟨b1, b2, b3, b4⟩ := lay_ok hx
 obtain ⟨s1, s2, s3, s4, _⟩ := slope_ok b2
 obtain ⟨t1, t2, t3, t4, _⟩ := slope_ok b3
 refine ⟨fun he => cut_ord ho b1.1 t3 s3 (.inr trivial) ?_, fun he => cut_ord ho b1.1 s3 t3 (.inr trivial) ?_⟩
 ·have := Int.mul_le_mul_of_nonneg_right b4 (show 0 ≤ -o.e by omega)
  rw [Int.mul_neg, Int.mul_neg] at this
  rw [Int.mul_right_comm x.c o.e x.b, Int.mul_right_comm x.a o.e x.d]
  omega
 ·have := Int.mul_le_mul_of_nonneg_right b4 (show 0 ≤ o.e by omega)
  rw [Int.mul_right_comm x.a o.e x.d, Int.mul_right_comm x.c o.e x.b]
  exact this
def ansPH (o : Ho) (x : Ly) (lo hi : Int) : Int :=
 if o.e < 0 then ansP (cutN o x.dp x.d) (cutD o x.c x.d) (cutN o x.dp x.b) (cutD o x.a x.b) lo (min hi o.b) else ansP (cutN o x.dp x.b) (cutD o x.a x.b) (cutN o x.dp x.d) (cutD o x.c x.d) lo (min hi o.b)
def ansQH (o : Ho) (x : Ly) (lo hi : Int) : Int := ansQ (cutN o x.dp x.b) (cutD o x.a x.b) (cutN o x.dp x.d) (cutD o x.c x.d) lo (min hi o.b)
theorem ansH_same {o : Ho} {x : Ly} (ho : holeE o = 0) (hx : layE x = 0) (lo hi : Int) : ansPH o x lo hi = ansQH o x lo hi := by
 obtain ⟨h1, h2⟩ := ends_ord ho hx
 unfold ansPH ansQH
 split
 ·rename_i he
  obtain ⟨a, b⟩ := h1 he
  rw [ansQ_swap]
  exact ans_same a fun _ => b
 ·rename_i he
  obtain ⟨a, b⟩ := h2 he
  exact ans_same a fun _ => b
end Go.Proofs.YtnmgpbihknjdjaaGreatDoor

/- Calendars: the first permitted date. -/
namespace Go.Proofs.YtnmgpbihknjdjaaGreatDoor
set_option linter.unusedVariables false
structure InvD (p : Int → Bool) (days frm d o : Int) : Prop where
 lo : frm ≤ d - o
 z : 0 ≤ o
 lt : o < days
 op : ∀ j, d - o ≤ j → j < d → p j = false
 st : d - o = frm ∨ p (d - o - 1) = true
structure HitD (p : Int → Bool) (days frm e : Int) : Prop where
 lo : frm ≤ e - days + 1
 op : ∀ j, e - days + 1 ≤ j → j ≤ e → p j = false
theorem InvD.next {p : Int → Bool} {days frm d o : Int} (h : InvD p days frm d o) (hd : 1 ≤ days) (hn : ¬ (if p d then 0 else o + 1) = days) : InvD p days frm (d + 1) (if p d then 0 else o + 1) := by
 obtain ⟨h1, h2, h3, h4, h5⟩ := h
 cases hp : p d
 ·rw [hp] at hn
  simp only [Bool.false_eq_true, if_false] at hn ⊢
  refine ⟨by omega, by omega, by omega, fun j a b => ?_, ?_⟩
  ·by_cases hj : j = d
   ·rw [hj, hp]
   ·exact h4 j (by omega) (by omega)
  ·rw [show d + 1 - (o + 1) = d - o by omega]; exact h5
 ·simp only [if_true]
  refine ⟨by omega, by omega, by omega, fun j a b => by omega, .inr ?_⟩
  rw [show d + 1 - 0 - 1 = d by omega, hp]
structure Cd where
 o : ByteArray
 f : Int
 t : Int
def firD {α : Type} (g : α → Int) : Nat → List α → Int × Int
 | _, [] => (0, 0)
 | i, c :: l => if g c = 0 then firD g (i + 1) l else (i, g c)
end Go.Proofs.YtnmgpbihknjdjaaGreatDoor

/- The first item that is not valid (plain). -/
namespace Go.Proofs.YtnmgpbihknjdjaaGreatDoor
set_option linter.unusedVariables false
def firG {α : Type} (G : Nat → α → Int) : Nat → List α → Int × Int
 | _, [] => (0, 0)
 | i, c :: l => if G i c = 0 then firG G (i + 1) l else (i, G i c)
theorem firD_G {α : Type} (g : α → Int) : ∀ (l : List α) (i : Nat), firD g i l = firG (fun _ => g) i l
 | [], _ => rfl
 | c :: l, i => by rw [firD, firG, firD_G g l]
theorem firG_ok {α : Type} {G : Nat → α → Int} : ∀ {l : List α} {i : Nat}, (firG G i l).2 = 0 → ∀ (j : Nat) (h : j < l.length), G (i + j) l[j] = 0
 | [], _, _, j, h => absurd h (Nat.not_lt_zero _)
 | c :: l, i, hz, j, h => by
  rw [firG] at hz
  split at hz
  ·rename_i h0
   cases j with
   | zero => exact h0
   | succ j =>
    have := firG_ok hz j (by simpa using h)
    rw [show i + (j + 1) = i + 1 + j by omega]
    exact this
  ·rename_i h0; exact absurd hz h0
theorem firD_ok {α : Type} {g : α → Int} {l : List α} (h : (firD g 0 l).2 = 0) : ∀ x ∈ l, g x = 0 := fun x hx => by
 rw [firD_G] at h
 obtain ⟨j, hj, rfl⟩ := List.mem_iff_getElem.1 hx
 exact firG_ok h j hj
def fIg {α : Type} (P : α → Bool) : List α → Nat → Int
 | [], _ => -1
 | z :: zs, i => if P z then i else fIg P zs (i + 1)
theorem fIg_nn {α : Type} (P : α → Bool) : ∀ (zs : List α) (s : Nat), decide (0 ≤ fIg P zs s) = zs.any P
 | [], s => rfl
 | z :: zs, s => by
  rw [fIg, List.any_cons]
  cases hz : P z
  ·rw [if_neg (by decide), fIg_nn P zs (s + 1), Bool.false_or]
  ·rw [if_pos rfl]; simp
end Go.Proofs.YtnmgpbihknjdjaaGreatDoor

/- Small helpers about memory. -/
namespace Go.Proofs.YtnmgpbihknjdjaaGreatDoor
open Go.RowKit
set_option linter.unusedVariables false
structure Bx (p : Prop) : Prop where
 out : p
end Go.Proofs.YtnmgpbihknjdjaaGreatDoor

/- Contracts: answers of holes. -/
namespace Go.Proofs.YtnmgpbihknjdjaaGreatDoor
open Go.RowKit
set_option linter.unusedVariables false
theorem mf_less : MT.mf 193 = some ⟨12, [(.tmp 4)], (.seq (.reg [gO 2 (.box 2 (.s 0)), gO 4 (.mv cF)]) (.seq (.reg [gO 5 (.fa 0 (.s 2)), gO 6 (.ld none (.s 5)), gO 7 (.mv (.s 1)), gO 8 (.fa 1 (.s 2)), gO 9 (.ld none (.s 8)), gO 10 (.bin .mul (.s 7) (.s 9)), gO 11 (.bin .lss (.s 6) (.s 10)), gO 4 (.mv (.s 11))]) .ret))⟩ := by kernel_rfl
theorem less_c (k : Nat) (n d m : Int) (h : MHeap) (hb : -9000000000000000000 ≤ m * d ∧ m * d ≤ 9000000000000000000) {t : Bool} (ht : decide (n < m * d) = t) : orA (k + 1) 193 [encPt (n, d), I64 m] h = some (Bo t, h) := by
 refine callL (args' := [.agg [I64 n, I64 d], I64 m]) (frzL_lt rfl) rfl (runZ_of mf_less (by simp) ?_)
 simp only [argsL]
 subst ht
 generalize hp : m * d = p at *
 have w1 : IntKind.i64.wrap (m * d) = p := by rw [hp]; exact wrap_of (by omega) (by omega)
 clear hp
 by_cases h0 : n < p
 ·repeat (first | apply ef_seq | (apply ef_mv; exact rfl; exact rfl) | (apply ef_bin; (iterate 3 exact rfl); (first | exact cmp_t rfl (by first | exact rfl | (simp only [cmpP]; omega)) | exact cmp_f rfl (by simp only [cmpP]; omega) | ((with_reducible refine bin_mul (wrap_of ?_ ?_)) <;> omega) | with_reducible exact bin_mul (by assumption) | exact rfl)) | (apply ef_ldr; exact rfl; exact rfl; (first | exact rfl)) | (apply ef_ldp; (iterate 4 exact rfl); (first | exact rfl | assumption); (first | exact rfl)) | (apply ef_fap; exact rfl; exact rfl) | (apply ef_far; exact rfl; exact rfl) | (apply ef_box; (iterate 4 exact rfl)) | apply ef_nil | apply seqQ.normal | apply ef_ret | apply seqQ.ret)
  (refine fin1 rfl (by exact rfl) rfl ?_)
  rw [decide_eq_true h0]
 ·repeat (first | apply ef_seq | (apply ef_mv; exact rfl; exact rfl) | (apply ef_bin; (iterate 3 exact rfl); (first | exact cmp_t rfl (by first | exact rfl | (simp only [cmpP]; omega)) | exact cmp_f rfl (by simp only [cmpP]; omega) | ((with_reducible refine bin_mul (wrap_of ?_ ?_)) <;> omega) | with_reducible exact bin_mul (by assumption) | exact rfl)) | (apply ef_ldr; exact rfl; exact rfl; (first | exact rfl)) | (apply ef_ldp; (iterate 4 exact rfl); (first | exact rfl | assumption); (first | exact rfl)) | (apply ef_fap; exact rfl; exact rfl) | (apply ef_far; exact rfl; exact rfl) | (apply ef_box; (iterate 4 exact rfl)) | apply ef_nil | apply seqQ.normal | apply ef_ret | apply seqQ.ret)
  (refine fin1 rfl (by exact rfl) rfl ?_)
  rw [decide_eq_false h0]
theorem mf_more : MT.mf 192 = some ⟨12, [(.tmp 4)], (.seq (.reg [gO 2 (.box 2 (.s 0)), gO 4 (.mv cF)]) (.seq (.reg [gO 5 (.fa 0 (.s 2)), gO 6 (.ld none (.s 5)), gO 7 (.mv (.s 1)), gO 8 (.fa 1 (.s 2)), gO 9 (.ld none (.s 8)), gO 10 (.bin .mul (.s 7) (.s 9)), gO 11 (.bin .gtr (.s 6) (.s 10)), gO 4 (.mv (.s 11))]) .ret))⟩ := by kernel_rfl
theorem more_c (k : Nat) (n d m : Int) (h : MHeap) (hb : -9000000000000000000 ≤ m * d ∧ m * d ≤ 9000000000000000000) {t : Bool} (ht : decide (m * d < n) = t) : orA (k + 1) 192 [encPt (n, d), I64 m] h = some (Bo t, h) := by
 refine callL (args' := [.agg [I64 n, I64 d], I64 m]) (frzL_lt rfl) rfl (runZ_of mf_more (by simp) ?_)
 simp only [argsL]
 subst ht
 generalize hp : m * d = p at *
 have w1 : IntKind.i64.wrap (m * d) = p := by rw [hp]; exact wrap_of (by omega) (by omega)
 clear hp
 by_cases h0 : p < n
 ·repeat (first | apply ef_seq | (apply ef_mv; exact rfl; exact rfl) | (apply ef_bin; (iterate 3 exact rfl); (first | exact cmp_t rfl (by first | exact rfl | (simp only [cmpP]; omega)) | exact cmp_f rfl (by simp only [cmpP]; omega) | ((with_reducible refine bin_mul (wrap_of ?_ ?_)) <;> omega) | with_reducible exact bin_mul (by assumption) | exact rfl)) | (apply ef_ldr; exact rfl; exact rfl; (first | exact rfl)) | (apply ef_ldp; (iterate 4 exact rfl); (first | exact rfl | assumption); (first | exact rfl)) | (apply ef_fap; exact rfl; exact rfl) | (apply ef_far; exact rfl; exact rfl) | (apply ef_box; (iterate 4 exact rfl)) | apply ef_nil | apply seqQ.normal | apply ef_ret | apply seqQ.ret)
  (refine fin1 rfl (by exact rfl) rfl ?_)
  rw [decide_eq_true h0]
 ·repeat (first | apply ef_seq | (apply ef_mv; exact rfl; exact rfl) | (apply ef_bin; (iterate 3 exact rfl); (first | exact cmp_t rfl (by first | exact rfl | (simp only [cmpP]; omega)) | exact cmp_f rfl (by simp only [cmpP]; omega) | ((with_reducible refine bin_mul (wrap_of ?_ ?_)) <;> omega) | with_reducible exact bin_mul (by assumption) | exact rfl)) | (apply ef_ldr; exact rfl; exact rfl; (first | exact rfl)) | (apply ef_ldp; (iterate 4 exact rfl); (first | exact rfl | assumption); (first | exact rfl)) | (apply ef_fap; exact rfl; exact rfl) | (apply ef_far; exact rfl; exact rfl) | (apply ef_box; (iterate 4 exact rfl)) | apply ef_nil | apply seqQ.normal | apply ef_ret | apply seqQ.ret)
  (refine fin1 rfl (by exact rfl) rfl ?_)
  rw [decide_eq_false h0]
theorem mn_min (a b : Int) : mn a b = min a b := by
 unfold mn
 by_cases h : b < a
 ·rw [if_pos h, Int.min_eq_right (by omega)]
 ·rw [if_neg h, Int.min_eq_left (by omega)]
abbrev encRg (a b : Int) : MV := .agg [I64 a, I64 b]
theorem mf_answer : MT.mf 154 = some ⟨55, [(.tmp 6)], (.seq (.reg [gO 3 (.box 3 (.s 0)), gO 4 (.box 5 (.s 1)), gO 5 (.box 2 (.s 2)), gO 6 (.mv (cI 0))]) (.seq (.reg [gO 7 (.new (.agg [(.lit (.int .i64 0)), (.lit (.int .i64 0)), (.lit (.int .i64 0)), (.lit (.int .i64 0))])), gO 9 (.ld (some 3) (.s 3)), gO 10 (.ld (some 5) (.s 4)), gO 11 (.call 119 [.s 9, .s 10]), gO 12 (.fa 1 (.s 5)), gO 13 (.ld none (.s 12)), gO 14 (.fa 2 (.s 3)), gO 15 (.ld none (.s 14)), gO 16 (.mn (.s 13) (.s 15)), gO 7 (.nilck (.s 7)), ⟨none, none, .st 4 (.s 7) (.s 11)⟩, gO 8 (.mv (.s 16)), ⟨none, none, .ne (.s 12) (.s 7)⟩, ⟨none, none, .ne (.s 14) (.s 7)⟩]) (.seq (.block 0 (.seq (.seq (.reg [gO 18 (.iaa 2 2 (.s 7) (cI 0)), gO 19 (.ld (some 2) (.s 18)), gO 20 (.call 116 [.s 19]), gO 21 (.un .not (.s 20)), gO 17 (.mv (.s 21))]) (.cond (.s 17) .skip (.seq (.reg [gO 22 (.iaa 2 2 (.s 7) (cI 0)), gO 23 (.ld (some 2) (.s 22)), gO 24 (.mv (.s 8)), gO 25 (.call 192 [.s 23, .s 24]), gO 17 (.mv (.s 25))]) (.cond (.s 17) .skip (.reg [gO 26 (.iaa 2 2 (.s 7) (cI 1)), gO 27 (.ld (some 2) (.s 26)), gO 28 (.call 116 [.s 27]), gO 29 (.mv (.s 28)), ⟨some (29, true), some 30, .iaa 2 2 (.s 7) (cI 1)⟩, ⟨some (29, true), some 31, .ld (some 2) (.s 30)⟩, ⟨some (29, true), some 32, .fa 0 (.s 5)⟩, ⟨some (29, true), some 33, .ld none (.s 32)⟩, ⟨some (29, true), some 34, .call 193 [.s 31, .s 33]⟩, gO 35 (.pick (.s 29) (.s 34) cF), gO 17 (.mv (.s 35))]))))) (.cond (.s 17) (.seq (.reg [gO 6 (.mv (cI 0))]) .ret) (.seq (.reg [gO 37 (.iaa 2 2 (.s 7) (cI 1)), gO 38 (.ld (some 2) (.s 37)), gO 39 (.call 116 [.s 38]), gO 40 (.mv (.s 39)), ⟨some (40, true), some 41, .iaa 2 2 (.s 7) (cI 0)⟩, ⟨some (40, true), some 42, .ld (some 2) (.s 41)⟩, ⟨some (40, true), some 43, .fa 0 (.s 5)⟩, ⟨some (40, true), some 44, .ld none (.s 43)⟩, ⟨some (40, true), some 45, .call 193 [.s 42, .s 44]⟩, ⟨some (40, true), some 46, .un .not (.s 45)⟩, gO 47 (.pick (.s 40) (.s 46) cF), gO 48 (.mv (.s 47)), ⟨some (48, true), some 49, .iaa 2 2 (.s 7) (cI 1)⟩, ⟨some (48, true), some 50, .ld (some 2) (.s 49)⟩, ⟨some (48, true), some 51, .mv (.s 8)⟩, ⟨some (48, true), some 52, .call 192 [.s 50, .s 51]⟩, ⟨some (48, true), some 53, .un .not (.s 52)⟩, gO 54 (.pick (.s 48) (.s 53) cF), gO 36 (.mv (.s 54))]) (.cond (.s 36) (.seq (.reg [gO 6 (.mv (cI 2))]) .ret) .skip))))) (.seq (.reg [gO 6 (.mv (cI 1))]) .ret))))⟩ := by kernel_rfl
set_option maxHeartbeats 2000000 in
theorem answer_k (k : Nat) (o : Ho) (x : Ly) (lo hi : Int) (n d m e : Int) (hen : ∀ h, orA (k + 2) 119 [encHo o, encLy x] h = some (enc4 n d m e, h)) (hlo : 0 ≤ lo ∧ lo ≤ 10000) (hhi : 0 ≤ hi ∧ hi ≤ 10000) (ho : 1 ≤ o.b ∧ o.b ≤ 10000)
  (hd' : -10000000000 ≤ d ∧ d ≤ 10000000000) (he' : -10000000000 ≤ e ∧ e ≤ 10000000000) :
  runZ MT (orA (k + 2)) (itA (k + 2)) 4000000 154 [encHo o, encLy x, encRg lo hi] [] = some (I64 (ansP n d m e lo (min hi o.b)), []) := by
 refine runZ_of mf_answer (by simp) ?_
 simp only [argsL]
 have hms : 0 ≤ mn hi o.b ∧ mn hi o.b ≤ 10000 := by unfold mn; split <;> omega
 have hA := Lib.hid (show ansP n d m e lo (min hi o.b) = if ¬ 0 < d ∨ (mn hi o.b) * d < n ∨ (0 < e ∧ m < lo * e) then 0 else if 0 < e ∧ ¬ n < lo * d ∧ ¬ (mn hi o.b) * e < m then 2 else 1 by rw [mn_min]; rfl)
 have m1 := mul_bd' (a := mn hi o.b) (b := d) (A := 10000) (B := 10000000000) (by omega) hms.2 hd'.1 hd'.2
 have m2 := mul_bd' (a := mn hi o.b) (b := e) (A := 10000) (B := 10000000000) (by omega) hms.2 he'.1 he'.2
 have m3 := mul_bd' (a := lo) (b := d) (A := 10000) (B := 10000000000) (by omega) hlo.2 hd'.1 hd'.2
 have m4 := mul_bd' (a := lo) (b := e) (A := 10000) (B := 10000000000) (by omega) hlo.2 he'.1 he'.2
 have x1 := fun h => exists_c (k + 1) n d h rfl
 have x2 := fun h => exists_c (k + 1) m e h rfl
 have c1 := fun h => more_c (k + 1) n d (mn hi o.b) h (by omega) rfl
 have c2 := fun h => more_c (k + 1) m e (mn hi o.b) h (by omega) rfl
 have c3 := fun h => less_c (k + 1) n d lo h (by omega) rfl
 have c4 := fun h => less_c (k + 1) m e lo h (by omega) rfl
 rw [hA.out]
 clear hA m1 m2 m3 m4
 by_cases p0 : 0 < d
 ·rw [decide_eq_true p0] at x1
  by_cases p1 : (mn hi o.b) * d < n
  ·rw [decide_eq_true p1] at c1
   repeat (first | first | apply ef_seq | (apply ef_mv; exact rfl; exact rfl) | (apply ef_gy; exact rfl; (first | exact (rfl : true = true) | exact (rfl : false = false) | exact (rfl : true = !false) | exact (rfl : false = !true) | assumption | exact decide_eq_true (by omega) | exact decide_eq_false (by omega))) | (apply ef_gn; exact rfl; (first | exact (rfl : true = true) | exact (rfl : false = false) | exact (rfl : true = !false) | exact (rfl : false = !true) | assumption | exact decide_eq_true (by omega) | exact decide_eq_false (by omega)); exact rfl) | (apply ef_gu; exact rfl; exact rfl) | (apply ef_pick; (iterate 3 exact rfl)) | (apply ef_pickb; (iterate 4 exact rfl)) | (apply ef_ldr; exact rfl; exact rfl; (first | exact rd_2 rfl rfl | exact rd_3 rfl rfl rfl | exact rd_5 rfl rfl rfl rfl rfl | exact rfl)) | (apply ef_ldp; (iterate 4 exact rfl); (first | exact rfl | assumption); (first | exact rd_2 rfl rfl | exact rd_3 rfl rfl rfl | exact rd_5 rfl rfl rfl rfl rfl | exact rfl)) | (apply ef_iaap; (iterate 3 exact rfl); (first | omega | assumption); (first | omega | assumption)) | (apply ef_iaar; (iterate 3 exact rfl); (first | omega | assumption); (first | omega | assumption)) | (apply ef_fap; exact rfl; exact rfl) | (apply ef_far; exact rfl; exact rfl) | (apply ef_notT; exact rfl; exact rfl) | (apply ef_notF; exact rfl; exact rfl) | (apply ef_not; (iterate 3 exact rfl)) | (apply ef_mn; (iterate 3 exact rfl)) | (apply ef_box; (iterate 4 exact rfl)) | (apply ef_new; exact rfl) | (apply ef_nilck; (iterate 3 exact rfl)) | (apply ef_ne; exact rfl; exact rfl; (first | exact rfl | exact ne_of (by omega))) | (apply ef_st; (iterate 6 exact rfl); (first | exact rfl | assumption); exact rfl) | apply ef_nil | apply seqQ.normal | apply ef_ret | apply seqQ.ret | apply blockQ.normal | apply blockQ.ret | apply blockQ.here | (apply blockQ_there; exact rfl) | apply ef_block | apply ef_skip | (apply ef_condt; exact rfl; (first | exact (rfl : true = true) | assumption | exact decide_eq_true (by omega))) | (apply ef_condf; exact rfl; (first | exact (rfl : false = false) | assumption | exact decide_eq_false (by omega))) | (apply ef_call; exact rfl; ((repeat (apply XVs.cons; exact rfl)); exact XVs.nil); (with_reducible first | exact hen _ | exact x1 _ | exact x2 _ | exact c1 _ | exact c2 _ | exact c3 _ | exact c4 _)))
   (refine fin1 rfl (by exact rfl) rfl ?_)
   rw [if_pos (.inr (.inl p1))]
  ·rw [decide_eq_false p1] at c1
   by_cases p2 : 0 < e
   ·rw [decide_eq_true p2] at x2
    by_cases p3 : m < lo * e
    ·rw [decide_eq_true p3] at c4
     repeat (first | first | apply ef_seq | (apply ef_mv; exact rfl; exact rfl) | (apply ef_gy; exact rfl; (first | exact (rfl : true = true) | exact (rfl : false = false) | exact (rfl : true = !false) | exact (rfl : false = !true) | assumption | exact decide_eq_true (by omega) | exact decide_eq_false (by omega))) | (apply ef_gn; exact rfl; (first | exact (rfl : true = true) | exact (rfl : false = false) | exact (rfl : true = !false) | exact (rfl : false = !true) | assumption | exact decide_eq_true (by omega) | exact decide_eq_false (by omega)); exact rfl) | (apply ef_gu; exact rfl; exact rfl) | (apply ef_pick; (iterate 3 exact rfl)) | (apply ef_pickb; (iterate 4 exact rfl)) | (apply ef_ldr; exact rfl; exact rfl; (first | exact rd_2 rfl rfl | exact rd_3 rfl rfl rfl | exact rd_5 rfl rfl rfl rfl rfl | exact rfl)) | (apply ef_ldp; (iterate 4 exact rfl); (first | exact rfl | assumption); (first | exact rd_2 rfl rfl | exact rd_3 rfl rfl rfl | exact rd_5 rfl rfl rfl rfl rfl | exact rfl)) | (apply ef_iaap; (iterate 3 exact rfl); (first | omega | assumption); (first | omega | assumption)) | (apply ef_iaar; (iterate 3 exact rfl); (first | omega | assumption); (first | omega | assumption)) | (apply ef_fap; exact rfl; exact rfl) | (apply ef_far; exact rfl; exact rfl) | (apply ef_notT; exact rfl; exact rfl) | (apply ef_notF; exact rfl; exact rfl) | (apply ef_not; (iterate 3 exact rfl)) | (apply ef_mn; (iterate 3 exact rfl)) | (apply ef_box; (iterate 4 exact rfl)) | (apply ef_new; exact rfl) | (apply ef_nilck; (iterate 3 exact rfl)) | (apply ef_ne; exact rfl; exact rfl; (first | exact rfl | exact ne_of (by omega))) | (apply ef_st; (iterate 6 exact rfl); (first | exact rfl | assumption); exact rfl) | apply ef_nil | apply seqQ.normal | apply ef_ret | apply seqQ.ret | apply blockQ.normal | apply blockQ.ret | apply blockQ.here | (apply blockQ_there; exact rfl) | apply ef_block | apply ef_skip | (apply ef_condt; exact rfl; (first | exact (rfl : true = true) | assumption | exact decide_eq_true (by omega))) | (apply ef_condf; exact rfl; (first | exact (rfl : false = false) | assumption | exact decide_eq_false (by omega))) | (apply ef_call; exact rfl; ((repeat (apply XVs.cons; exact rfl)); exact XVs.nil); (with_reducible first | exact hen _ | exact x1 _ | exact x2 _ | exact c1 _ | exact c2 _ | exact c3 _ | exact c4 _)))
     (refine fin1 rfl (by exact rfl) rfl ?_)
     rw [if_pos (.inr (.inr ⟨p2, p3⟩))]
    ·rw [decide_eq_false p3] at c4
     have hno : ¬ (¬ 0 < d ∨ (mn hi o.b) * d < n ∨ (0 < e ∧ m < lo * e)) := by
      rintro (h | h | h)
      ·exact h p0
      ·exact p1 h
      ·exact p3 h.2
     by_cases p4 : n < lo * d
     ·rw [decide_eq_true p4] at c3
      repeat (first | first | apply ef_seq | (apply ef_mv; exact rfl; exact rfl) | (apply ef_gy; exact rfl; (first | exact (rfl : true = true) | exact (rfl : false = false) | exact (rfl : true = !false) | exact (rfl : false = !true) | assumption | exact decide_eq_true (by omega) | exact decide_eq_false (by omega))) | (apply ef_gn; exact rfl; (first | exact (rfl : true = true) | exact (rfl : false = false) | exact (rfl : true = !false) | exact (rfl : false = !true) | assumption | exact decide_eq_true (by omega) | exact decide_eq_false (by omega)); exact rfl) | (apply ef_gu; exact rfl; exact rfl) | (apply ef_pick; (iterate 3 exact rfl)) | (apply ef_pickb; (iterate 4 exact rfl)) | (apply ef_ldr; exact rfl; exact rfl; (first | exact rd_2 rfl rfl | exact rd_3 rfl rfl rfl | exact rd_5 rfl rfl rfl rfl rfl | exact rfl)) | (apply ef_ldp; (iterate 4 exact rfl); (first | exact rfl | assumption); (first | exact rd_2 rfl rfl | exact rd_3 rfl rfl rfl | exact rd_5 rfl rfl rfl rfl rfl | exact rfl)) | (apply ef_iaap; (iterate 3 exact rfl); (first | omega | assumption); (first | omega | assumption)) | (apply ef_iaar; (iterate 3 exact rfl); (first | omega | assumption); (first | omega | assumption)) | (apply ef_fap; exact rfl; exact rfl) | (apply ef_far; exact rfl; exact rfl) | (apply ef_notT; exact rfl; exact rfl) | (apply ef_notF; exact rfl; exact rfl) | (apply ef_not; (iterate 3 exact rfl)) | (apply ef_mn; (iterate 3 exact rfl)) | (apply ef_box; (iterate 4 exact rfl)) | (apply ef_new; exact rfl) | (apply ef_nilck; (iterate 3 exact rfl)) | (apply ef_ne; exact rfl; exact rfl; (first | exact rfl | exact ne_of (by omega))) | (apply ef_st; (iterate 6 exact rfl); (first | exact rfl | assumption); exact rfl) | apply ef_nil | apply seqQ.normal | apply ef_ret | apply seqQ.ret | apply blockQ.normal | apply blockQ.ret | apply blockQ.here | (apply blockQ_there; exact rfl) | apply ef_block | apply ef_skip | (apply ef_condt; exact rfl; (first | exact (rfl : true = true) | assumption | exact decide_eq_true (by omega))) | (apply ef_condf; exact rfl; (first | exact (rfl : false = false) | assumption | exact decide_eq_false (by omega))) | (apply ef_call; exact rfl; ((repeat (apply XVs.cons; exact rfl)); exact XVs.nil); (with_reducible first | exact hen _ | exact x1 _ | exact x2 _ | exact c1 _ | exact c2 _ | exact c3 _ | exact c4 _)))
      (refine fin1 rfl (by exact rfl) rfl ?_)
      rw [if_neg hno, if_neg (fun h => h.2.1 p4)]
     ·rw [decide_eq_false p4] at c3
      by_cases p5 : (mn hi o.b) * e < m
      ·rw [decide_eq_true p5] at c2
       repeat (first | first | apply ef_seq | (apply ef_mv; exact rfl; exact rfl) | (apply ef_gy; exact rfl; (first | exact (rfl : true = true) | exact (rfl : false = false) | exact (rfl : true = !false) | exact (rfl : false = !true) | assumption | exact decide_eq_true (by omega) | exact decide_eq_false (by omega))) | (apply ef_gn; exact rfl; (first | exact (rfl : true = true) | exact (rfl : false = false) | exact (rfl : true = !false) | exact (rfl : false = !true) | assumption | exact decide_eq_true (by omega) | exact decide_eq_false (by omega)); exact rfl) | (apply ef_gu; exact rfl; exact rfl) | (apply ef_pick; (iterate 3 exact rfl)) | (apply ef_pickb; (iterate 4 exact rfl)) | (apply ef_ldr; exact rfl; exact rfl; (first | exact rd_2 rfl rfl | exact rd_3 rfl rfl rfl | exact rd_5 rfl rfl rfl rfl rfl | exact rfl)) | (apply ef_ldp; (iterate 4 exact rfl); (first | exact rfl | assumption); (first | exact rd_2 rfl rfl | exact rd_3 rfl rfl rfl | exact rd_5 rfl rfl rfl rfl rfl | exact rfl)) | (apply ef_iaap; (iterate 3 exact rfl); (first | omega | assumption); (first | omega | assumption)) | (apply ef_iaar; (iterate 3 exact rfl); (first | omega | assumption); (first | omega | assumption)) | (apply ef_fap; exact rfl; exact rfl) | (apply ef_far; exact rfl; exact rfl) | (apply ef_notT; exact rfl; exact rfl) | (apply ef_notF; exact rfl; exact rfl) | (apply ef_not; (iterate 3 exact rfl)) | (apply ef_mn; (iterate 3 exact rfl)) | (apply ef_box; (iterate 4 exact rfl)) | (apply ef_new; exact rfl) | (apply ef_nilck; (iterate 3 exact rfl)) | (apply ef_ne; exact rfl; exact rfl; (first | exact rfl | exact ne_of (by omega))) | (apply ef_st; (iterate 6 exact rfl); (first | exact rfl | assumption); exact rfl) | apply ef_nil | apply seqQ.normal | apply ef_ret | apply seqQ.ret | apply blockQ.normal | apply blockQ.ret | apply blockQ.here | (apply blockQ_there; exact rfl) | apply ef_block | apply ef_skip | (apply ef_condt; exact rfl; (first | exact (rfl : true = true) | assumption | exact decide_eq_true (by omega))) | (apply ef_condf; exact rfl; (first | exact (rfl : false = false) | assumption | exact decide_eq_false (by omega))) | (apply ef_call; exact rfl; ((repeat (apply XVs.cons; exact rfl)); exact XVs.nil); (with_reducible first | exact hen _ | exact x1 _ | exact x2 _ | exact c1 _ | exact c2 _ | exact c3 _ | exact c4 _)))
       (refine fin1 rfl (by exact rfl) rfl ?_)
       rw [if_neg hno, if_neg (fun h => h.2.2 p5)]
      ·rw [decide_eq_false p5] at c2
       repeat (first | first | apply ef_seq | (apply ef_mv; exact rfl; exact rfl) | (apply ef_gy; exact rfl; (first | exact (rfl : true = true) | exact (rfl : false = false) | exact (rfl : true = !false) | exact (rfl : false = !true) | assumption | exact decide_eq_true (by omega) | exact decide_eq_false (by omega))) | (apply ef_gn; exact rfl; (first | exact (rfl : true = true) | exact (rfl : false = false) | exact (rfl : true = !false) | exact (rfl : false = !true) | assumption | exact decide_eq_true (by omega) | exact decide_eq_false (by omega)); exact rfl) | (apply ef_gu; exact rfl; exact rfl) | (apply ef_pick; (iterate 3 exact rfl)) | (apply ef_pickb; (iterate 4 exact rfl)) | (apply ef_ldr; exact rfl; exact rfl; (first | exact rd_2 rfl rfl | exact rd_3 rfl rfl rfl | exact rd_5 rfl rfl rfl rfl rfl | exact rfl)) | (apply ef_ldp; (iterate 4 exact rfl); (first | exact rfl | assumption); (first | exact rd_2 rfl rfl | exact rd_3 rfl rfl rfl | exact rd_5 rfl rfl rfl rfl rfl | exact rfl)) | (apply ef_iaap; (iterate 3 exact rfl); (first | omega | assumption); (first | omega | assumption)) | (apply ef_iaar; (iterate 3 exact rfl); (first | omega | assumption); (first | omega | assumption)) | (apply ef_fap; exact rfl; exact rfl) | (apply ef_far; exact rfl; exact rfl) | (apply ef_notT; exact rfl; exact rfl) | (apply ef_notF; exact rfl; exact rfl) | (apply ef_not; (iterate 3 exact rfl)) | (apply ef_mn; (iterate 3 exact rfl)) | (apply ef_box; (iterate 4 exact rfl)) | (apply ef_new; exact rfl) | (apply ef_nilck; (iterate 3 exact rfl)) | (apply ef_ne; exact rfl; exact rfl; (first | exact rfl | exact ne_of (by omega))) | (apply ef_st; (iterate 6 exact rfl); (first | exact rfl | assumption); exact rfl) | apply ef_nil | apply seqQ.normal | apply ef_ret | apply seqQ.ret | apply blockQ.normal | apply blockQ.ret | apply blockQ.here | (apply blockQ_there; exact rfl) | apply ef_block | apply ef_skip | (apply ef_condt; exact rfl; (first | exact (rfl : true = true) | assumption | exact decide_eq_true (by omega))) | (apply ef_condf; exact rfl; (first | exact (rfl : false = false) | assumption | exact decide_eq_false (by omega))) | (apply ef_call; exact rfl; ((repeat (apply XVs.cons; exact rfl)); exact XVs.nil); (with_reducible first | exact hen _ | exact x1 _ | exact x2 _ | exact c1 _ | exact c2 _ | exact c3 _ | exact c4 _)))
       (refine fin1 rfl (by exact rfl) rfl ?_)
       rw [if_neg hno, if_pos ⟨p2, p4, p5⟩]
   ·rw [decide_eq_false p2] at x2
    repeat (first | first | apply ef_seq | (apply ef_mv; exact rfl; exact rfl) | (apply ef_gy; exact rfl; (first | exact (rfl : true = true) | exact (rfl : false = false) | exact (rfl : true = !false) | exact (rfl : false = !true) | assumption | exact decide_eq_true (by omega) | exact decide_eq_false (by omega))) | (apply ef_gn; exact rfl; (first | exact (rfl : true = true) | exact (rfl : false = false) | exact (rfl : true = !false) | exact (rfl : false = !true) | assumption | exact decide_eq_true (by omega) | exact decide_eq_false (by omega)); exact rfl) | (apply ef_gu; exact rfl; exact rfl) | (apply ef_pick; (iterate 3 exact rfl)) | (apply ef_pickb; (iterate 4 exact rfl)) | (apply ef_ldr; exact rfl; exact rfl; (first | exact rd_2 rfl rfl | exact rd_3 rfl rfl rfl | exact rd_5 rfl rfl rfl rfl rfl | exact rfl)) | (apply ef_ldp; (iterate 4 exact rfl); (first | exact rfl | assumption); (first | exact rd_2 rfl rfl | exact rd_3 rfl rfl rfl | exact rd_5 rfl rfl rfl rfl rfl | exact rfl)) | (apply ef_iaap; (iterate 3 exact rfl); (first | omega | assumption); (first | omega | assumption)) | (apply ef_iaar; (iterate 3 exact rfl); (first | omega | assumption); (first | omega | assumption)) | (apply ef_fap; exact rfl; exact rfl) | (apply ef_far; exact rfl; exact rfl) | (apply ef_notT; exact rfl; exact rfl) | (apply ef_notF; exact rfl; exact rfl) | (apply ef_not; (iterate 3 exact rfl)) | (apply ef_mn; (iterate 3 exact rfl)) | (apply ef_box; (iterate 4 exact rfl)) | (apply ef_new; exact rfl) | (apply ef_nilck; (iterate 3 exact rfl)) | (apply ef_ne; exact rfl; exact rfl; (first | exact rfl | exact ne_of (by omega))) | (apply ef_st; (iterate 6 exact rfl); (first | exact rfl | assumption); exact rfl) | apply ef_nil | apply seqQ.normal | apply ef_ret | apply seqQ.ret | apply blockQ.normal | apply blockQ.ret | apply blockQ.here | (apply blockQ_there; exact rfl) | apply ef_block | apply ef_skip | (apply ef_condt; exact rfl; (first | exact (rfl : true = true) | assumption | exact decide_eq_true (by omega))) | (apply ef_condf; exact rfl; (first | exact (rfl : false = false) | assumption | exact decide_eq_false (by omega))) | (apply ef_call; exact rfl; ((repeat (apply XVs.cons; exact rfl)); exact XVs.nil); (with_reducible first | exact hen _ | exact x1 _ | exact x2 _ | exact c1 _ | exact c2 _ | exact c3 _ | exact c4 _)))
    (refine fin1 rfl (by exact rfl) rfl ?_)
    rw [if_neg (fun h => by rcases h with h | h | h; exact h p0; exact p1 h; exact p2 h.1), if_neg (fun h => p2 h.1)]
 ·rw [decide_eq_false p0] at x1
  repeat (first | first | apply ef_seq | (apply ef_mv; exact rfl; exact rfl) | (apply ef_gy; exact rfl; (first | exact (rfl : true = true) | exact (rfl : false = false) | exact (rfl : true = !false) | exact (rfl : false = !true) | assumption | exact decide_eq_true (by omega) | exact decide_eq_false (by omega))) | (apply ef_gn; exact rfl; (first | exact (rfl : true = true) | exact (rfl : false = false) | exact (rfl : true = !false) | exact (rfl : false = !true) | assumption | exact decide_eq_true (by omega) | exact decide_eq_false (by omega)); exact rfl) | (apply ef_gu; exact rfl; exact rfl) | (apply ef_pick; (iterate 3 exact rfl)) | (apply ef_pickb; (iterate 4 exact rfl)) | (apply ef_ldr; exact rfl; exact rfl; (first | exact rd_2 rfl rfl | exact rd_3 rfl rfl rfl | exact rd_5 rfl rfl rfl rfl rfl | exact rfl)) | (apply ef_ldp; (iterate 4 exact rfl); (first | exact rfl | assumption); (first | exact rd_2 rfl rfl | exact rd_3 rfl rfl rfl | exact rd_5 rfl rfl rfl rfl rfl | exact rfl)) | (apply ef_iaap; (iterate 3 exact rfl); (first | omega | assumption); (first | omega | assumption)) | (apply ef_iaar; (iterate 3 exact rfl); (first | omega | assumption); (first | omega | assumption)) | (apply ef_fap; exact rfl; exact rfl) | (apply ef_far; exact rfl; exact rfl) | (apply ef_notT; exact rfl; exact rfl) | (apply ef_notF; exact rfl; exact rfl) | (apply ef_not; (iterate 3 exact rfl)) | (apply ef_mn; (iterate 3 exact rfl)) | (apply ef_box; (iterate 4 exact rfl)) | (apply ef_new; exact rfl) | (apply ef_nilck; (iterate 3 exact rfl)) | (apply ef_ne; exact rfl; exact rfl; (first | exact rfl | exact ne_of (by omega))) | (apply ef_st; (iterate 6 exact rfl); (first | exact rfl | assumption); exact rfl) | apply ef_nil | apply seqQ.normal | apply ef_ret | apply seqQ.ret | apply blockQ.normal | apply blockQ.ret | apply blockQ.here | (apply blockQ_there; exact rfl) | apply ef_block | apply ef_skip | (apply ef_condt; exact rfl; (first | exact (rfl : true = true) | assumption | exact decide_eq_true (by omega))) | (apply ef_condf; exact rfl; (first | exact (rfl : false = false) | assumption | exact decide_eq_false (by omega))) | (apply ef_call; exact rfl; ((repeat (apply XVs.cons; exact rfl)); exact XVs.nil); (with_reducible first | exact hen _ | exact x1 _ | exact x2 _ | exact c1 _ | exact c2 _ | exact c3 _ | exact c4 _)))
  (refine fin1 rfl (by exact rfl) rfl ?_)
  rw [if_pos (.inl p0)]
theorem answer_c (k : Nat) (o : Ho) (x : Ly) (lo hi : Int) (h : MHeap) (ho : holeE o = 0) (hx : layE x = 0) (hlo : 0 ≤ lo ∧ lo ≤ 10000) (hhi : 0 ≤ hi ∧ hi ≤ 10000) {v : Int} (hv : ansPH o x lo hi = v) : orA (k + 3) 154 [encHo o, encLy x, encRg lo hi] h = some (I64 v, h) := by
 subst hv
 obtain ⟨b1, b2, b3, _⟩ := lay_ok hx
 obtain ⟨_, _, hb⟩ := hole_ok ho
 have he := fun h => ends_c k o x h ho b1 b2 b3
 obtain ⟨_, d3⟩ := cut_bd ho b1 b2
 obtain ⟨_, d4⟩ := cut_bd ho b1 b3
 refine callL (args' := [encHo o, encLy x, encRg lo hi]) (frzL_lt rfl) rfl ?_
 unfold ansPH
 by_cases hneg : o.e < 0
 ·rw [if_pos hneg]
  exact answer_k k o x lo hi _ _ _ _ (fun h => by rw [he h, if_pos hneg]) hlo hhi hb d4 d3
 ·rw [if_neg hneg]
  exact answer_k k o x lo hi _ _ _ _ (fun h => by rw [he h, if_neg hneg]) hlo hhi hb d3 d4
def wanE (lo hi : Int) : Int := firstE [unl (inB lo 0 10000 && inB hi 0 10000) 2, unl (decide (lo ≤ hi)) 9]
theorem wan_ok {lo hi : Int} (h : wanE lo hi = 0) : (0 ≤ lo ∧ lo ≤ 10000) ∧ 0 ≤ hi ∧ hi ≤ 10000 := by
 unfold wanE at h
 obtain ⟨h1, _⟩ := firstE_nil h
 rw [unl_zero (by decide)] at h1
 simp only [Bool.and_eq_true, inB_iff] at h1
 exact h1
theorem mf_wan1 : MT.mf 191 = some ⟨5, [(.tmp 2)], (.seq (.reg [gO 2 (.mv cF)]) (.seq (.reg [gO 3 (.mv (.s 0)), gO 4 (.call 103 [.s 3, (cI 0), (cI 10000)]), gO 2 (.mv (.s 4))]) .ret))⟩ := by kernel_rfl
theorem wan1_c (k : Nat) (n : Int) (h : MHeap) {t : Bool} (ht : inB n 0 10000 = t) : orA (k + 2) 191 [I64 n] h = some (Bo t, h) := by
 refine callL (args' := [I64 n]) (frz_lits [.int .i64 n]) rfl (runZ_of mf_wan1 (by simp) ?_)
 simp only [argsL]
 repeat (first | first | apply ef_seq | (apply ef_mv; exact rfl; exact rfl) | apply ef_nil | apply seqQ.normal | apply ef_ret | apply seqQ.ret | (apply ef_call; exact rfl; ((repeat (apply XVs.cons; exact rfl)); exact XVs.nil); (with_reducible first | exact within_c k _ _ _ _ ht)))
 (refine fin1 rfl (by exact rfl) rfl ?_)
 rfl
theorem mf_wanted : MT.mf 153 = some ⟨23, [(.tmp 2)], (.seq (.reg [gO 1 (.box 2 (.s 0)), gO 2 (.mv (cI 0))]) (.seq (.reg [gO 3 (.mv (.c (.fn 191 0 [])))]) (.seq (.reg [gO 4 (.mv (.s 3)), gO 5 (.fa 0 (.s 1)), gO 6 (.ld none (.s 5)), gO 7 (.callv (.s 4) [.s 6]), gO 8 (.mv (.s 7)), ⟨some (8, true), some 9, .mv (.s 3)⟩, ⟨some (8, true), some 10, .fa 1 (.s 1)⟩, ⟨some (8, true), some 11, .ld none (.s 10)⟩, ⟨some (8, true), some 12, .callv (.s 9) [.s 11]⟩, gO 13 (.pick (.s 8) (.s 12) cF), gO 14 (.call 105 [.s 13, (cI 2)]), gO 15 (.fa 0 (.s 1)), gO 16 (.ld none (.s 15)), gO 17 (.fa 1 (.s 1)), gO 18 (.ld none (.s 17)), gO 19 (.bin .leq (.s 16) (.s 18)), gO 20 (.call 105 [.s 19, (cI 9)]), gO 21 (.bsl (.lit (.int .i64 0)) 1 2 [(0, (.s 14)), (1, (.s 20))]), gO 22 (.call 104 [.s 21]), gO 2 (.mv (.s 22))]) .ret)))⟩ := by kernel_rfl
theorem wanted_c (k : Nat) (lo hi : Int) (h : MHeap) : orA (k + 3) 153 [encRg lo hi] h = some (I64 (wanE lo hi), h) := by
 refine callL (args' := [encRg lo hi]) (frzL_lt rfl) rfl (runZ_of mf_wanted (by simp) ?_)
 simp only [argsL]
 have HE := Lib.hid (show wanE lo hi = firstE [unl (inB lo 0 10000 && inB hi 0 10000) 2, unl (decide (lo ≤ hi)) 9] from rfl)
 generalize wanE lo hi = W at *
 have key : ∀ a b c : Bool, inB lo 0 10000 = a → inB hi 0 10000 = b → decide (lo ≤ hi) = c → W = firstE [unl (a && b) 2, unl c 9] := fun a b c h1 h2 h3 => by rw [HE.out, h1, h2, h3]
 clear HE
 have u1 := fun t h => unless_c (k + 1) t 2 h rfl
 have u2 := fun t h => unless_c (k + 1) t 9 h rfl
 by_cases hle : lo ≤ hi
 ·cases h1 : inB lo 0 10000
  ·have K := Lib.hid (key _ (inB hi 0 10000) _ h1 rfl (decide_eq_true hle))
   repeat (first | apply ef_seq | (apply ef_mv; exact rfl; exact rfl) | (apply ef_bin; (iterate 3 exact rfl); (first | exact cmp_t rfl (by first | exact rfl | (simp only [cmpP]; omega)) | exact cmp_f rfl (by simp only [cmpP]; omega) | exact rfl)) | (apply ef_gy; exact rfl; (first | exact (rfl : true = true) | exact (rfl : false = false) | exact (rfl : true = !false) | exact (rfl : false = !true) | assumption | exact decide_eq_true (by omega) | exact decide_eq_false (by omega))) | (apply ef_gn; exact rfl; (first | exact (rfl : true = true) | exact (rfl : false = false) | exact (rfl : true = !false) | exact (rfl : false = !true) | assumption | exact decide_eq_true (by omega) | exact decide_eq_false (by omega)); exact rfl) | (apply ef_gu; exact rfl; exact rfl) | (apply ef_pick; (iterate 3 exact rfl)) | (apply ef_pickb; (iterate 4 exact rfl)) | (apply ef_ldr; exact rfl; exact rfl; (first | exact rfl)) | (apply ef_ldp; (iterate 4 exact rfl); (first | exact rfl | assumption); (first | exact rfl)) | (apply ef_fap; exact rfl; exact rfl) | (apply ef_far; exact rfl; exact rfl) | (apply ef_box; (iterate 4 exact rfl)) | (apply ef_bsl; exact rfl; (repeat (apply XVs.cons; exact rfl)); exact XVs.nil; exact rfl) | apply ef_nil | apply seqQ.normal | apply ef_ret | apply seqQ.ret)
   (apply ef_callv; (· exact rfl); (· exact rfl); (· ((repeat (apply XVs.cons; exact rfl)); exact XVs.nil)); (· exact rfl); (· exact wan1_c k lo _ h1))
   repeat (first | first | apply ef_seq | (apply ef_mv; exact rfl; exact rfl) | (apply ef_bin; (iterate 3 exact rfl); (first | exact cmp_t rfl (by first | exact rfl | (simp only [cmpP]; omega)) | exact cmp_f rfl (by simp only [cmpP]; omega) | exact rfl)) | (apply ef_gy; exact rfl; (first | exact (rfl : true = true) | exact (rfl : false = false) | exact (rfl : true = !false) | exact (rfl : false = !true) | assumption | exact decide_eq_true (by omega) | exact decide_eq_false (by omega))) | (apply ef_gn; exact rfl; (first | exact (rfl : true = true) | exact (rfl : false = false) | exact (rfl : true = !false) | exact (rfl : false = !true) | assumption | exact decide_eq_true (by omega) | exact decide_eq_false (by omega)); exact rfl) | (apply ef_gu; exact rfl; exact rfl) | (apply ef_pick; (iterate 3 exact rfl)) | (apply ef_pickb; (iterate 4 exact rfl)) | (apply ef_ldr; exact rfl; exact rfl; (first | exact rfl)) | (apply ef_ldp; (iterate 4 exact rfl); (first | exact rfl | assumption); (first | exact rfl)) | (apply ef_fap; exact rfl; exact rfl) | (apply ef_far; exact rfl; exact rfl) | (apply ef_box; (iterate 4 exact rfl)) | (apply ef_bsl; exact rfl; (repeat (apply XVs.cons; exact rfl)); exact XVs.nil; exact rfl) | apply ef_nil | apply seqQ.normal | apply ef_ret | apply seqQ.ret | (apply ef_call; exact rfl; ((repeat (apply XVs.cons; exact rfl)); exact XVs.nil); (with_reducible first | exact u1 _ _ | exact u2 _ _)) | (apply ef_call; exact rfl; ((repeat (apply XVs.cons; exact rfl)); exact XVs.nil); (with_reducible apply first2_c); (iterate 3 exact rfl); (first | assumption | exact rfl)))
   (refine fin1 rfl (by exact rfl) rfl ?_)
   rw [K.out]; rfl
  ·cases h2 : inB hi 0 10000
   ·have K := Lib.hid (key _ _ _ h1 h2 (decide_eq_true hle))
    repeat (first | apply ef_seq | (apply ef_mv; exact rfl; exact rfl) | (apply ef_bin; (iterate 3 exact rfl); (first | exact cmp_t rfl (by first | exact rfl | (simp only [cmpP]; omega)) | exact cmp_f rfl (by simp only [cmpP]; omega) | exact rfl)) | (apply ef_gy; exact rfl; (first | exact (rfl : true = true) | exact (rfl : false = false) | exact (rfl : true = !false) | exact (rfl : false = !true) | assumption | exact decide_eq_true (by omega) | exact decide_eq_false (by omega))) | (apply ef_gn; exact rfl; (first | exact (rfl : true = true) | exact (rfl : false = false) | exact (rfl : true = !false) | exact (rfl : false = !true) | assumption | exact decide_eq_true (by omega) | exact decide_eq_false (by omega)); exact rfl) | (apply ef_gu; exact rfl; exact rfl) | (apply ef_pick; (iterate 3 exact rfl)) | (apply ef_pickb; (iterate 4 exact rfl)) | (apply ef_ldr; exact rfl; exact rfl; (first | exact rfl)) | (apply ef_ldp; (iterate 4 exact rfl); (first | exact rfl | assumption); (first | exact rfl)) | (apply ef_fap; exact rfl; exact rfl) | (apply ef_far; exact rfl; exact rfl) | (apply ef_box; (iterate 4 exact rfl)) | (apply ef_bsl; exact rfl; (repeat (apply XVs.cons; exact rfl)); exact XVs.nil; exact rfl) | apply ef_nil | apply seqQ.normal | apply ef_ret | apply seqQ.ret)
    (apply ef_callv; (· exact rfl); (· exact rfl); (· ((repeat (apply XVs.cons; exact rfl)); exact XVs.nil)); (· exact rfl); (· exact wan1_c k lo _ h1))
    repeat (first | apply ef_seq | (apply ef_mv; exact rfl; exact rfl) | (apply ef_bin; (iterate 3 exact rfl); (first | exact cmp_t rfl (by first | exact rfl | (simp only [cmpP]; omega)) | exact cmp_f rfl (by simp only [cmpP]; omega) | exact rfl)) | (apply ef_gy; exact rfl; (first | exact (rfl : true = true) | exact (rfl : false = false) | exact (rfl : true = !false) | exact (rfl : false = !true) | assumption | exact decide_eq_true (by omega) | exact decide_eq_false (by omega))) | (apply ef_gn; exact rfl; (first | exact (rfl : true = true) | exact (rfl : false = false) | exact (rfl : true = !false) | exact (rfl : false = !true) | assumption | exact decide_eq_true (by omega) | exact decide_eq_false (by omega)); exact rfl) | (apply ef_gu; exact rfl; exact rfl) | (apply ef_pick; (iterate 3 exact rfl)) | (apply ef_pickb; (iterate 4 exact rfl)) | (apply ef_ldr; exact rfl; exact rfl; (first | exact rfl)) | (apply ef_ldp; (iterate 4 exact rfl); (first | exact rfl | assumption); (first | exact rfl)) | (apply ef_fap; exact rfl; exact rfl) | (apply ef_far; exact rfl; exact rfl) | (apply ef_box; (iterate 4 exact rfl)) | (apply ef_bsl; exact rfl; (repeat (apply XVs.cons; exact rfl)); exact XVs.nil; exact rfl) | apply ef_nil | apply seqQ.normal | apply ef_ret | apply seqQ.ret)
    (apply ef_callv; (· exact rfl); (· exact rfl); (· ((repeat (apply XVs.cons; exact rfl)); exact XVs.nil)); (· exact rfl); (· exact wan1_c k hi _ h2))
    repeat (first | first | apply ef_seq | (apply ef_mv; exact rfl; exact rfl) | (apply ef_bin; (iterate 3 exact rfl); (first | exact cmp_t rfl (by first | exact rfl | (simp only [cmpP]; omega)) | exact cmp_f rfl (by simp only [cmpP]; omega) | exact rfl)) | (apply ef_gy; exact rfl; (first | exact (rfl : true = true) | exact (rfl : false = false) | exact (rfl : true = !false) | exact (rfl : false = !true) | assumption | exact decide_eq_true (by omega) | exact decide_eq_false (by omega))) | (apply ef_gn; exact rfl; (first | exact (rfl : true = true) | exact (rfl : false = false) | exact (rfl : true = !false) | exact (rfl : false = !true) | assumption | exact decide_eq_true (by omega) | exact decide_eq_false (by omega)); exact rfl) | (apply ef_gu; exact rfl; exact rfl) | (apply ef_pick; (iterate 3 exact rfl)) | (apply ef_pickb; (iterate 4 exact rfl)) | (apply ef_ldr; exact rfl; exact rfl; (first | exact rfl)) | (apply ef_ldp; (iterate 4 exact rfl); (first | exact rfl | assumption); (first | exact rfl)) | (apply ef_fap; exact rfl; exact rfl) | (apply ef_far; exact rfl; exact rfl) | (apply ef_box; (iterate 4 exact rfl)) | (apply ef_bsl; exact rfl; (repeat (apply XVs.cons; exact rfl)); exact XVs.nil; exact rfl) | apply ef_nil | apply seqQ.normal | apply ef_ret | apply seqQ.ret | (apply ef_call; exact rfl; ((repeat (apply XVs.cons; exact rfl)); exact XVs.nil); (with_reducible first | exact u1 _ _ | exact u2 _ _)) | (apply ef_call; exact rfl; ((repeat (apply XVs.cons; exact rfl)); exact XVs.nil); (with_reducible apply first2_c); (iterate 3 exact rfl); (first | assumption | exact rfl)))
    (refine fin1 rfl (by exact rfl) rfl ?_)
    rw [K.out]; rfl
   ·have K := Lib.hid (key _ _ _ h1 h2 (decide_eq_true hle))
    repeat (first | apply ef_seq | (apply ef_mv; exact rfl; exact rfl) | (apply ef_bin; (iterate 3 exact rfl); (first | exact cmp_t rfl (by first | exact rfl | (simp only [cmpP]; omega)) | exact cmp_f rfl (by simp only [cmpP]; omega) | exact rfl)) | (apply ef_gy; exact rfl; (first | exact (rfl : true = true) | exact (rfl : false = false) | exact (rfl : true = !false) | exact (rfl : false = !true) | assumption | exact decide_eq_true (by omega) | exact decide_eq_false (by omega))) | (apply ef_gn; exact rfl; (first | exact (rfl : true = true) | exact (rfl : false = false) | exact (rfl : true = !false) | exact (rfl : false = !true) | assumption | exact decide_eq_true (by omega) | exact decide_eq_false (by omega)); exact rfl) | (apply ef_gu; exact rfl; exact rfl) | (apply ef_pick; (iterate 3 exact rfl)) | (apply ef_pickb; (iterate 4 exact rfl)) | (apply ef_ldr; exact rfl; exact rfl; (first | exact rfl)) | (apply ef_ldp; (iterate 4 exact rfl); (first | exact rfl | assumption); (first | exact rfl)) | (apply ef_fap; exact rfl; exact rfl) | (apply ef_far; exact rfl; exact rfl) | (apply ef_box; (iterate 4 exact rfl)) | (apply ef_bsl; exact rfl; (repeat (apply XVs.cons; exact rfl)); exact XVs.nil; exact rfl) | apply ef_nil | apply seqQ.normal | apply ef_ret | apply seqQ.ret)
    (apply ef_callv; (· exact rfl); (· exact rfl); (· ((repeat (apply XVs.cons; exact rfl)); exact XVs.nil)); (· exact rfl); (· exact wan1_c k lo _ h1))
    repeat (first | apply ef_seq | (apply ef_mv; exact rfl; exact rfl) | (apply ef_bin; (iterate 3 exact rfl); (first | exact cmp_t rfl (by first | exact rfl | (simp only [cmpP]; omega)) | exact cmp_f rfl (by simp only [cmpP]; omega) | exact rfl)) | (apply ef_gy; exact rfl; (first | exact (rfl : true = true) | exact (rfl : false = false) | exact (rfl : true = !false) | exact (rfl : false = !true) | assumption | exact decide_eq_true (by omega) | exact decide_eq_false (by omega))) | (apply ef_gn; exact rfl; (first | exact (rfl : true = true) | exact (rfl : false = false) | exact (rfl : true = !false) | exact (rfl : false = !true) | assumption | exact decide_eq_true (by omega) | exact decide_eq_false (by omega)); exact rfl) | (apply ef_gu; exact rfl; exact rfl) | (apply ef_pick; (iterate 3 exact rfl)) | (apply ef_pickb; (iterate 4 exact rfl)) | (apply ef_ldr; exact rfl; exact rfl; (first | exact rfl)) | (apply ef_ldp; (iterate 4 exact rfl); (first | exact rfl | assumption); (first | exact rfl)) | (apply ef_fap; exact rfl; exact rfl) | (apply ef_far; exact rfl; exact rfl) | (apply ef_box; (iterate 4 exact rfl)) | (apply ef_bsl; exact rfl; (repeat (apply XVs.cons; exact rfl)); exact XVs.nil; exact rfl) | apply ef_nil | apply seqQ.normal | apply ef_ret | apply seqQ.ret)
    (apply ef_callv; (· exact rfl); (· exact rfl); (· ((repeat (apply XVs.cons; exact rfl)); exact XVs.nil)); (· exact rfl); (· exact wan1_c k hi _ h2))
    repeat (first | first | apply ef_seq | (apply ef_mv; exact rfl; exact rfl) | (apply ef_bin; (iterate 3 exact rfl); (first | exact cmp_t rfl (by first | exact rfl | (simp only [cmpP]; omega)) | exact cmp_f rfl (by simp only [cmpP]; omega) | exact rfl)) | (apply ef_gy; exact rfl; (first | exact (rfl : true = true) | exact (rfl : false = false) | exact (rfl : true = !false) | exact (rfl : false = !true) | assumption | exact decide_eq_true (by omega) | exact decide_eq_false (by omega))) | (apply ef_gn; exact rfl; (first | exact (rfl : true = true) | exact (rfl : false = false) | exact (rfl : true = !false) | exact (rfl : false = !true) | assumption | exact decide_eq_true (by omega) | exact decide_eq_false (by omega)); exact rfl) | (apply ef_gu; exact rfl; exact rfl) | (apply ef_pick; (iterate 3 exact rfl)) | (apply ef_pickb; (iterate 4 exact rfl)) | (apply ef_ldr; exact rfl; exact rfl; (first | exact rfl)) | (apply ef_ldp; (iterate 4 exact rfl); (first | exact rfl | assumption); (first | exact rfl)) | (apply ef_fap; exact rfl; exact rfl) | (apply ef_far; exact rfl; exact rfl) | (apply ef_box; (iterate 4 exact rfl)) | (apply ef_bsl; exact rfl; (repeat (apply XVs.cons; exact rfl)); exact XVs.nil; exact rfl) | apply ef_nil | apply seqQ.normal | apply ef_ret | apply seqQ.ret | (apply ef_call; exact rfl; ((repeat (apply XVs.cons; exact rfl)); exact XVs.nil); (with_reducible first | exact u1 _ _ | exact u2 _ _)) | (apply ef_call; exact rfl; ((repeat (apply XVs.cons; exact rfl)); exact XVs.nil); (with_reducible apply first2_c); (iterate 3 exact rfl); (first | assumption | exact rfl)))
    (refine fin1 rfl (by exact rfl) rfl ?_)
    rw [K.out]; rfl
 ·cases h1 : inB lo 0 10000
  ·have K := Lib.hid (key _ (inB hi 0 10000) _ h1 rfl (decide_eq_false hle))
   repeat (first | apply ef_seq | (apply ef_mv; exact rfl; exact rfl) | (apply ef_bin; (iterate 3 exact rfl); (first | exact cmp_t rfl (by first | exact rfl | (simp only [cmpP]; omega)) | exact cmp_f rfl (by simp only [cmpP]; omega) | exact rfl)) | (apply ef_gy; exact rfl; (first | exact (rfl : true = true) | exact (rfl : false = false) | exact (rfl : true = !false) | exact (rfl : false = !true) | assumption | exact decide_eq_true (by omega) | exact decide_eq_false (by omega))) | (apply ef_gn; exact rfl; (first | exact (rfl : true = true) | exact (rfl : false = false) | exact (rfl : true = !false) | exact (rfl : false = !true) | assumption | exact decide_eq_true (by omega) | exact decide_eq_false (by omega)); exact rfl) | (apply ef_gu; exact rfl; exact rfl) | (apply ef_pick; (iterate 3 exact rfl)) | (apply ef_pickb; (iterate 4 exact rfl)) | (apply ef_ldr; exact rfl; exact rfl; (first | exact rfl)) | (apply ef_ldp; (iterate 4 exact rfl); (first | exact rfl | assumption); (first | exact rfl)) | (apply ef_fap; exact rfl; exact rfl) | (apply ef_far; exact rfl; exact rfl) | (apply ef_box; (iterate 4 exact rfl)) | (apply ef_bsl; exact rfl; (repeat (apply XVs.cons; exact rfl)); exact XVs.nil; exact rfl) | apply ef_nil | apply seqQ.normal | apply ef_ret | apply seqQ.ret)
   (apply ef_callv; (· exact rfl); (· exact rfl); (· ((repeat (apply XVs.cons; exact rfl)); exact XVs.nil)); (· exact rfl); (· exact wan1_c k lo _ h1))
   repeat (first | first | apply ef_seq | (apply ef_mv; exact rfl; exact rfl) | (apply ef_bin; (iterate 3 exact rfl); (first | exact cmp_t rfl (by first | exact rfl | (simp only [cmpP]; omega)) | exact cmp_f rfl (by simp only [cmpP]; omega) | exact rfl)) | (apply ef_gy; exact rfl; (first | exact (rfl : true = true) | exact (rfl : false = false) | exact (rfl : true = !false) | exact (rfl : false = !true) | assumption | exact decide_eq_true (by omega) | exact decide_eq_false (by omega))) | (apply ef_gn; exact rfl; (first | exact (rfl : true = true) | exact (rfl : false = false) | exact (rfl : true = !false) | exact (rfl : false = !true) | assumption | exact decide_eq_true (by omega) | exact decide_eq_false (by omega)); exact rfl) | (apply ef_gu; exact rfl; exact rfl) | (apply ef_pick; (iterate 3 exact rfl)) | (apply ef_pickb; (iterate 4 exact rfl)) | (apply ef_ldr; exact rfl; exact rfl; (first | exact rfl)) | (apply ef_ldp; (iterate 4 exact rfl); (first | exact rfl | assumption); (first | exact rfl)) | (apply ef_fap; exact rfl; exact rfl) | (apply ef_far; exact rfl; exact rfl) | (apply ef_box; (iterate 4 exact rfl)) | (apply ef_bsl; exact rfl; (repeat (apply XVs.cons; exact rfl)); exact XVs.nil; exact rfl) | apply ef_nil | apply seqQ.normal | apply ef_ret | apply seqQ.ret | (apply ef_call; exact rfl; ((repeat (apply XVs.cons; exact rfl)); exact XVs.nil); (with_reducible first | exact u1 _ _ | exact u2 _ _)) | (apply ef_call; exact rfl; ((repeat (apply XVs.cons; exact rfl)); exact XVs.nil); (with_reducible apply first2_c); (iterate 3 exact rfl); (first | assumption | exact rfl)))
   (refine fin1 rfl (by exact rfl) rfl ?_)
   rw [K.out]; rfl
  ·cases h2 : inB hi 0 10000
   ·have K := Lib.hid (key _ _ _ h1 h2 (decide_eq_false hle))
    repeat (first | apply ef_seq | (apply ef_mv; exact rfl; exact rfl) | (apply ef_bin; (iterate 3 exact rfl); (first | exact cmp_t rfl (by first | exact rfl | (simp only [cmpP]; omega)) | exact cmp_f rfl (by simp only [cmpP]; omega) | exact rfl)) | (apply ef_gy; exact rfl; (first | exact (rfl : true = true) | exact (rfl : false = false) | exact (rfl : true = !false) | exact (rfl : false = !true) | assumption | exact decide_eq_true (by omega) | exact decide_eq_false (by omega))) | (apply ef_gn; exact rfl; (first | exact (rfl : true = true) | exact (rfl : false = false) | exact (rfl : true = !false) | exact (rfl : false = !true) | assumption | exact decide_eq_true (by omega) | exact decide_eq_false (by omega)); exact rfl) | (apply ef_gu; exact rfl; exact rfl) | (apply ef_pick; (iterate 3 exact rfl)) | (apply ef_pickb; (iterate 4 exact rfl)) | (apply ef_ldr; exact rfl; exact rfl; (first | exact rfl)) | (apply ef_ldp; (iterate 4 exact rfl); (first | exact rfl | assumption); (first | exact rfl)) | (apply ef_fap; exact rfl; exact rfl) | (apply ef_far; exact rfl; exact rfl) | (apply ef_box; (iterate 4 exact rfl)) | (apply ef_bsl; exact rfl; (repeat (apply XVs.cons; exact rfl)); exact XVs.nil; exact rfl) | apply ef_nil | apply seqQ.normal | apply ef_ret | apply seqQ.ret)
    (apply ef_callv; (· exact rfl); (· exact rfl); (· ((repeat (apply XVs.cons; exact rfl)); exact XVs.nil)); (· exact rfl); (· exact wan1_c k lo _ h1))
    repeat (first | apply ef_seq | (apply ef_mv; exact rfl; exact rfl) | (apply ef_bin; (iterate 3 exact rfl); (first | exact cmp_t rfl (by first | exact rfl | (simp only [cmpP]; omega)) | exact cmp_f rfl (by simp only [cmpP]; omega) | exact rfl)) | (apply ef_gy; exact rfl; (first | exact (rfl : true = true) | exact (rfl : false = false) | exact (rfl : true = !false) | exact (rfl : false = !true) | assumption | exact decide_eq_true (by omega) | exact decide_eq_false (by omega))) | (apply ef_gn; exact rfl; (first | exact (rfl : true = true) | exact (rfl : false = false) | exact (rfl : true = !false) | exact (rfl : false = !true) | assumption | exact decide_eq_true (by omega) | exact decide_eq_false (by omega)); exact rfl) | (apply ef_gu; exact rfl; exact rfl) | (apply ef_pick; (iterate 3 exact rfl)) | (apply ef_pickb; (iterate 4 exact rfl)) | (apply ef_ldr; exact rfl; exact rfl; (first | exact rfl)) | (apply ef_ldp; (iterate 4 exact rfl); (first | exact rfl | assumption); (first | exact rfl)) | (apply ef_fap; exact rfl; exact rfl) | (apply ef_far; exact rfl; exact rfl) | (apply ef_box; (iterate 4 exact rfl)) | (apply ef_bsl; exact rfl; (repeat (apply XVs.cons; exact rfl)); exact XVs.nil; exact rfl) | apply ef_nil | apply seqQ.normal | apply ef_ret | apply seqQ.ret)
    (apply ef_callv; (· exact rfl); (· exact rfl); (· ((repeat (apply XVs.cons; exact rfl)); exact XVs.nil)); (· exact rfl); (· exact wan1_c k hi _ h2))
    repeat (first | first | apply ef_seq | (apply ef_mv; exact rfl; exact rfl) | (apply ef_bin; (iterate 3 exact rfl); (first | exact cmp_t rfl (by first | exact rfl | (simp only [cmpP]; omega)) | exact cmp_f rfl (by simp only [cmpP]; omega) | exact rfl)) | (apply ef_gy; exact rfl; (first | exact (rfl : true = true) | exact (rfl : false = false) | exact (rfl : true = !false) | exact (rfl : false = !true) | assumption | exact decide_eq_true (by omega) | exact decide_eq_false (by omega))) | (apply ef_gn; exact rfl; (first | exact (rfl : true = true) | exact (rfl : false = false) | exact (rfl : true = !false) | exact (rfl : false = !true) | assumption | exact decide_eq_true (by omega) | exact decide_eq_false (by omega)); exact rfl) | (apply ef_gu; exact rfl; exact rfl) | (apply ef_pick; (iterate 3 exact rfl)) | (apply ef_pickb; (iterate 4 exact rfl)) | (apply ef_ldr; exact rfl; exact rfl; (first | exact rfl)) | (apply ef_ldp; (iterate 4 exact rfl); (first | exact rfl | assumption); (first | exact rfl)) | (apply ef_fap; exact rfl; exact rfl) | (apply ef_far; exact rfl; exact rfl) | (apply ef_box; (iterate 4 exact rfl)) | (apply ef_bsl; exact rfl; (repeat (apply XVs.cons; exact rfl)); exact XVs.nil; exact rfl) | apply ef_nil | apply seqQ.normal | apply ef_ret | apply seqQ.ret | (apply ef_call; exact rfl; ((repeat (apply XVs.cons; exact rfl)); exact XVs.nil); (with_reducible first | exact u1 _ _ | exact u2 _ _)) | (apply ef_call; exact rfl; ((repeat (apply XVs.cons; exact rfl)); exact XVs.nil); (with_reducible apply first2_c); (iterate 3 exact rfl); (first | assumption | exact rfl)))
    (refine fin1 rfl (by exact rfl) rfl ?_)
    rw [K.out]; rfl
   ·have K := Lib.hid (key _ _ _ h1 h2 (decide_eq_false hle))
    repeat (first | apply ef_seq | (apply ef_mv; exact rfl; exact rfl) | (apply ef_bin; (iterate 3 exact rfl); (first | exact cmp_t rfl (by first | exact rfl | (simp only [cmpP]; omega)) | exact cmp_f rfl (by simp only [cmpP]; omega) | exact rfl)) | (apply ef_gy; exact rfl; (first | exact (rfl : true = true) | exact (rfl : false = false) | exact (rfl : true = !false) | exact (rfl : false = !true) | assumption | exact decide_eq_true (by omega) | exact decide_eq_false (by omega))) | (apply ef_gn; exact rfl; (first | exact (rfl : true = true) | exact (rfl : false = false) | exact (rfl : true = !false) | exact (rfl : false = !true) | assumption | exact decide_eq_true (by omega) | exact decide_eq_false (by omega)); exact rfl) | (apply ef_gu; exact rfl; exact rfl) | (apply ef_pick; (iterate 3 exact rfl)) | (apply ef_pickb; (iterate 4 exact rfl)) | (apply ef_ldr; exact rfl; exact rfl; (first | exact rfl)) | (apply ef_ldp; (iterate 4 exact rfl); (first | exact rfl | assumption); (first | exact rfl)) | (apply ef_fap; exact rfl; exact rfl) | (apply ef_far; exact rfl; exact rfl) | (apply ef_box; (iterate 4 exact rfl)) | (apply ef_bsl; exact rfl; (repeat (apply XVs.cons; exact rfl)); exact XVs.nil; exact rfl) | apply ef_nil | apply seqQ.normal | apply ef_ret | apply seqQ.ret)
    (apply ef_callv; (· exact rfl); (· exact rfl); (· ((repeat (apply XVs.cons; exact rfl)); exact XVs.nil)); (· exact rfl); (· exact wan1_c k lo _ h1))
    repeat (first | apply ef_seq | (apply ef_mv; exact rfl; exact rfl) | (apply ef_bin; (iterate 3 exact rfl); (first | exact cmp_t rfl (by first | exact rfl | (simp only [cmpP]; omega)) | exact cmp_f rfl (by simp only [cmpP]; omega) | exact rfl)) | (apply ef_gy; exact rfl; (first | exact (rfl : true = true) | exact (rfl : false = false) | exact (rfl : true = !false) | exact (rfl : false = !true) | assumption | exact decide_eq_true (by omega) | exact decide_eq_false (by omega))) | (apply ef_gn; exact rfl; (first | exact (rfl : true = true) | exact (rfl : false = false) | exact (rfl : true = !false) | exact (rfl : false = !true) | assumption | exact decide_eq_true (by omega) | exact decide_eq_false (by omega)); exact rfl) | (apply ef_gu; exact rfl; exact rfl) | (apply ef_pick; (iterate 3 exact rfl)) | (apply ef_pickb; (iterate 4 exact rfl)) | (apply ef_ldr; exact rfl; exact rfl; (first | exact rfl)) | (apply ef_ldp; (iterate 4 exact rfl); (first | exact rfl | assumption); (first | exact rfl)) | (apply ef_fap; exact rfl; exact rfl) | (apply ef_far; exact rfl; exact rfl) | (apply ef_box; (iterate 4 exact rfl)) | (apply ef_bsl; exact rfl; (repeat (apply XVs.cons; exact rfl)); exact XVs.nil; exact rfl) | apply ef_nil | apply seqQ.normal | apply ef_ret | apply seqQ.ret)
    (apply ef_callv; (· exact rfl); (· exact rfl); (· ((repeat (apply XVs.cons; exact rfl)); exact XVs.nil)); (· exact rfl); (· exact wan1_c k hi _ h2))
    repeat (first | first | apply ef_seq | (apply ef_mv; exact rfl; exact rfl) | (apply ef_bin; (iterate 3 exact rfl); (first | exact cmp_t rfl (by first | exact rfl | (simp only [cmpP]; omega)) | exact cmp_f rfl (by simp only [cmpP]; omega) | exact rfl)) | (apply ef_gy; exact rfl; (first | exact (rfl : true = true) | exact (rfl : false = false) | exact (rfl : true = !false) | exact (rfl : false = !true) | assumption | exact decide_eq_true (by omega) | exact decide_eq_false (by omega))) | (apply ef_gn; exact rfl; (first | exact (rfl : true = true) | exact (rfl : false = false) | exact (rfl : true = !false) | exact (rfl : false = !true) | assumption | exact decide_eq_true (by omega) | exact decide_eq_false (by omega)); exact rfl) | (apply ef_gu; exact rfl; exact rfl) | (apply ef_pick; (iterate 3 exact rfl)) | (apply ef_pickb; (iterate 4 exact rfl)) | (apply ef_ldr; exact rfl; exact rfl; (first | exact rfl)) | (apply ef_ldp; (iterate 4 exact rfl); (first | exact rfl | assumption); (first | exact rfl)) | (apply ef_fap; exact rfl; exact rfl) | (apply ef_far; exact rfl; exact rfl) | (apply ef_box; (iterate 4 exact rfl)) | (apply ef_bsl; exact rfl; (repeat (apply XVs.cons; exact rfl)); exact XVs.nil; exact rfl) | apply ef_nil | apply seqQ.normal | apply ef_ret | apply seqQ.ret | (apply ef_call; exact rfl; ((repeat (apply XVs.cons; exact rfl)); exact XVs.nil); (with_reducible first | exact u1 _ _ | exact u2 _ _)) | (apply ef_call; exact rfl; ((repeat (apply XVs.cons; exact rfl)); exact XVs.nil); (with_reducible apply first2_c); (iterate 3 exact rfl); (first | assumption | exact rfl)))
    (refine fin1 rfl (by exact rfl) rfl ?_)
    rw [K.out]; rfl
def hoE (o : Ho) (x : Ly) (lo hi : Int) : Int := firstE [holeE o, layE x, wanE lo hi]
def hoA (o : Ho) (x : Ly) (lo hi : Int) : Int × Int := if hoE o x lo hi = 0 then (ansPH o x lo hi, 0) else (0, hoE o x lo hi)
theorem ho_ok {o : Ho} {x : Ly} {lo hi : Int} (h : hoE o x lo hi = 0) : holeE o = 0 ∧ layE x = 0 ∧ wanE lo hi = 0 := by
 obtain ⟨h1, h⟩ := firstE_nil h
 obtain ⟨h2, h⟩ := firstE_nil h
 obtain ⟨h3, _⟩ := firstE_nil h
 exact ⟨h1, h2, h3⟩
theorem mf_HoleAnswer : MT.mf 67 = some ⟨24, [(.tmp 6), (.tmp 7)], (.seq (.reg [gO 3 (.box 3 (.s 0)), gO 4 (.box 5 (.s 1)), gO 5 (.box 2 (.s 2)), gO 6 (.mv (cI 0)), gO 7 (.mv (cI 0))]) (.seq (.seq (.reg [gO 9 (.ld (some 3) (.s 3)), gO 10 (.call 28 [.s 9]), gO 11 (.ld (some 5) (.s 4)), gO 12 (.call 118 [.s 11]), gO 13 (.ld (some 2) (.s 5)), gO 14 (.call 153 [.s 13]), gO 15 (.bsl (.lit (.int .i64 0)) 1 3 [(0, (.s 10)), (1, (.s 12)), (2, (.s 14))]), gO 16 (.call 104 [.s 15]), gO 8 (.mv (.s 16))]) (.seq (.reg [gO 17 (.mv (.s 8)), gO 18 (.bin .neq (.s 17) (cI 0))]) (.cond (.s 18) (.seq (.reg [gO 19 (.mv (.s 8)), gO 6 (.mv (cI 0)), gO 7 (.mv (.s 19))]) .ret) .skip))) (.seq (.reg [gO 20 (.ld (some 3) (.s 3)), gO 21 (.ld (some 5) (.s 4)), gO 22 (.ld (some 2) (.s 5)), gO 23 (.call 154 [.s 20, .s 21, .s 22]), gO 6 (.mv (.s 23)), gO 7 (.mv (cI 0))]) .ret)))⟩ := by kernel_rfl
theorem HoleAnswer_c (k : Nat) (o : Ho) (x : Ly) (lo hi : Int) (h : MHeap) (hb : x.b ≤ 9223372036854775807) (hd : x.d ≤ 9223372036854775807) {r : Int × Int} (hr : hoA o x lo hi = r) : orA (k + 7) 67 [encHo o, encLy x, encRg lo hi] h = some (.tup [I64 r.1, I64 r.2], h) := by
 subst hr
 refine callTT (args' := [encHo o, encLy x, encRg lo hi]) (frzL_lt rfl) rfl (runZ_of mf_HoleAnswer (by simp) ?_)
 simp only [argsL]
 have h1 := fun h => CheckHole_c (k + 2) o h rfl
 have h2 := fun h => layerErr_c k x h hb hd rfl
 have h3 := fun h => wanted_c (k + 3) lo hi h
 have HA := Lib.hid (show hoA o x lo hi = if hoE o x lo hi = 0 then (ansPH o x lo hi, 0) else (0, hoE o x lo hi) from rfl)
 by_cases h0 : hoE o x lo hi = 0
 ·obtain ⟨a1, a2, a3⟩ := ho_ok h0
  obtain ⟨b1, b2⟩ := wan_ok a3
  have h4 := fun h => answer_c (k + 3) o x lo hi h a1 a2 b1 b2 rfl
  unfold hoE at h0
  repeat (first | first | apply ef_seq | (apply ef_mv; exact rfl; exact rfl) | (apply ef_bin; (iterate 3 exact rfl); (first | exact cmp_t rfl (by first | exact rfl | (simp only [cmpP]; omega)) | exact cmp_f rfl (by simp only [cmpP]; omega) | exact rfl)) | (apply ef_ldr; exact rfl; exact rfl; (first | exact rd_2 rfl rfl | exact rd_3 rfl rfl rfl | exact rd_5 rfl rfl rfl rfl rfl | exact rfl)) | (apply ef_ldp; (iterate 4 exact rfl); (first | exact rfl | assumption); (first | exact rd_2 rfl rfl | exact rd_3 rfl rfl rfl | exact rd_5 rfl rfl rfl rfl rfl | exact rfl)) | (apply ef_box; (iterate 4 exact rfl)) | (apply ef_bsl; exact rfl; (repeat (apply XVs.cons; exact rfl)); exact XVs.nil; exact rfl) | apply ef_nil | apply seqQ.normal | apply ef_ret | apply seqQ.ret | apply ef_skip | (apply ef_condt; exact rfl; (first | exact (rfl : true = true) | assumption | exact decide_eq_true (by omega))) | (apply ef_condf; exact rfl; (first | exact (rfl : false = false) | assumption | exact decide_eq_false (by omega))) | (apply ef_call; exact rfl; ((repeat (apply XVs.cons; exact rfl)); exact XVs.nil); (with_reducible first | exact h1 _ | exact h2 _ | exact h3 _ | exact h4 _)) | (apply ef_call; exact rfl; ((repeat (apply XVs.cons; exact rfl)); exact XVs.nil); (with_reducible apply first3_c); (iterate 3 exact rfl); (first | assumption | exact rfl)))
  (refine fin2 rfl (by exact rfl) (by exact rfl) ?_)
  rw [HA.out, if_pos (show hoE o x lo hi = 0 from h0)]
 ·unfold hoE at h0
  repeat (first | first | apply ef_seq | (apply ef_mv; exact rfl; exact rfl) | (apply ef_bin; (iterate 3 exact rfl); (first | exact cmp_t rfl (by first | exact rfl | (simp only [cmpP]; omega)) | exact cmp_f rfl (by simp only [cmpP]; omega) | exact rfl)) | (apply ef_ldr; exact rfl; exact rfl; (first | exact rd_2 rfl rfl | exact rd_3 rfl rfl rfl | exact rd_5 rfl rfl rfl rfl rfl | exact rfl)) | (apply ef_ldp; (iterate 4 exact rfl); (first | exact rfl | assumption); (first | exact rd_2 rfl rfl | exact rd_3 rfl rfl rfl | exact rd_5 rfl rfl rfl rfl rfl | exact rfl)) | (apply ef_box; (iterate 4 exact rfl)) | (apply ef_bsl; exact rfl; (repeat (apply XVs.cons; exact rfl)); exact XVs.nil; exact rfl) | apply ef_nil | apply seqQ.normal | apply ef_ret | apply seqQ.ret | apply ef_skip | (apply ef_condt; exact rfl; (first | exact (rfl : true = true) | assumption | exact decide_eq_true (by omega))) | (apply ef_condf; exact rfl; (first | exact (rfl : false = false) | assumption | exact decide_eq_false (by omega))) | (apply ef_call; exact rfl; ((repeat (apply XVs.cons; exact rfl)); exact XVs.nil); (with_reducible first | exact h1 _ | exact h2 _ | exact h3 _)) | (apply ef_call; exact rfl; ((repeat (apply XVs.cons; exact rfl)); exact XVs.nil); (with_reducible apply first3_c); (iterate 3 exact rfl); (first | assumption | exact rfl)))
  (refine fin2 rfl (by exact rfl) (by exact rfl) ?_)
  rw [HA.out, if_neg (show ¬ hoE o x lo hi = 0 from h0)]; rfl
end Go.Proofs.YtnmgpbihknjdjaaGreatDoor

/- Contracts: the document's answers of holes. -/
namespace Go.Proofs.YtnmgpbihknjdjaaGreatDoor
open Go.RowKit
set_option linter.unusedVariables false
theorem mf_rWanted : MT.mf 66 = some ⟨18, [(.tmp 2)], (.seq (.reg [gO 1 (.box 2 (.s 0)), gO 2 (.mv (cI 0))]) (.seq (.seq (.reg [gO 3 (.fa 0 (.s 1)), gO 4 (.ld none (.s 3)), gO 5 (.call 53 [.s 4, (cI 0), (cI 10000)]), gO 6 (.un .not (.s 5)), gO 7 (.mv (.s 6)), ⟨some (7, false), some 8, .fa 1 (.s 1)⟩, ⟨some (7, false), some 9, .ld none (.s 8)⟩, ⟨some (7, false), some 10, .call 53 [.s 9, (cI 0), (cI 10000)]⟩, ⟨some (7, false), some 11, .un .not (.s 10)⟩, gO 12 (.pick (.s 7) cT (.s 11))]) (.cond (.s 12) (.seq (.reg [gO 2 (.mv (cI 2))]) .ret) .skip)) (.seq (.seq (.reg [gO 13 (.fa 0 (.s 1)), gO 14 (.ld none (.s 13)), gO 15 (.fa 1 (.s 1)), gO 16 (.ld none (.s 15)), gO 17 (.bin .gtr (.s 14) (.s 16))]) (.cond (.s 17) (.seq (.reg [gO 2 (.mv (cI 9))]) .ret) .skip)) (.seq (.reg [gO 2 (.mv (cI 0))]) .ret))))⟩ := by kernel_rfl
theorem rWanted_c (k : Nat) (lo hi : Int) (h : MHeap) : orA (k + 2) 66 [encRg lo hi] h = some (I64 (wanE lo hi), h) := by
 refine callL (args' := [encRg lo hi]) (frzL_lt rfl) rfl (runZ_of mf_rWanted (by simp) ?_)
 simp only [argsL]
 have HE := Lib.hid (show wanE lo hi = firstE [unl (inB lo 0 10000 && inB hi 0 10000) 2, unl (decide (lo ≤ hi)) 9] from rfl)
 cases h1 : inB lo 0 10000
 ·repeat (first | first | apply ef_seq | (apply ef_mv; exact rfl; exact rfl) | (apply ef_bin; (iterate 3 exact rfl); (first | exact cmp_t rfl (by first | exact rfl | (simp only [cmpP]; omega)) | exact cmp_f rfl (by simp only [cmpP]; omega) | exact rfl)) | (apply ef_gy; exact rfl; (first | exact (rfl : true = true) | exact (rfl : false = false) | exact (rfl : true = !false) | exact (rfl : false = !true) | assumption | exact decide_eq_true (by omega) | exact decide_eq_false (by omega))) | (apply ef_gn; exact rfl; (first | exact (rfl : true = true) | exact (rfl : false = false) | exact (rfl : true = !false) | exact (rfl : false = !true) | assumption | exact decide_eq_true (by omega) | exact decide_eq_false (by omega)); exact rfl) | (apply ef_gu; exact rfl; exact rfl) | (apply ef_pick; (iterate 3 exact rfl)) | (apply ef_pickb; (iterate 4 exact rfl)) | (apply ef_ldr; exact rfl; exact rfl; (first | exact rfl)) | (apply ef_ldp; (iterate 4 exact rfl); (first | exact rfl | assumption); (first | exact rfl)) | (apply ef_fap; exact rfl; exact rfl) | (apply ef_far; exact rfl; exact rfl) | (apply ef_notT; exact rfl; exact rfl) | (apply ef_notF; exact rfl; exact rfl) | (apply ef_not; (iterate 3 exact rfl)) | (apply ef_box; (iterate 4 exact rfl)) | apply ef_nil | apply seqQ.normal | apply ef_ret | apply seqQ.ret | apply ef_skip | (apply ef_condt; exact rfl; (first | exact (rfl : true = true) | assumption | exact decide_eq_true (by omega))) | (apply ef_condf; exact rfl; (first | exact (rfl : false = false) | assumption | exact decide_eq_false (by omega))) | (apply ef_call; exact rfl; ((repeat (apply XVs.cons; exact rfl)); exact XVs.nil); (with_reducible first | exact Within_c k _ _ _ _ h1)))
  (refine fin1 rfl (by exact rfl) rfl ?_)
  rw [HE.out, h1]; rfl
 ·cases h2 : inB hi 0 10000
  ·repeat (first | first | apply ef_seq | (apply ef_mv; exact rfl; exact rfl) | (apply ef_bin; (iterate 3 exact rfl); (first | exact cmp_t rfl (by first | exact rfl | (simp only [cmpP]; omega)) | exact cmp_f rfl (by simp only [cmpP]; omega) | exact rfl)) | (apply ef_gy; exact rfl; (first | exact (rfl : true = true) | exact (rfl : false = false) | exact (rfl : true = !false) | exact (rfl : false = !true) | assumption | exact decide_eq_true (by omega) | exact decide_eq_false (by omega))) | (apply ef_gn; exact rfl; (first | exact (rfl : true = true) | exact (rfl : false = false) | exact (rfl : true = !false) | exact (rfl : false = !true) | assumption | exact decide_eq_true (by omega) | exact decide_eq_false (by omega)); exact rfl) | (apply ef_gu; exact rfl; exact rfl) | (apply ef_pick; (iterate 3 exact rfl)) | (apply ef_pickb; (iterate 4 exact rfl)) | (apply ef_ldr; exact rfl; exact rfl; (first | exact rfl)) | (apply ef_ldp; (iterate 4 exact rfl); (first | exact rfl | assumption); (first | exact rfl)) | (apply ef_fap; exact rfl; exact rfl) | (apply ef_far; exact rfl; exact rfl) | (apply ef_notT; exact rfl; exact rfl) | (apply ef_notF; exact rfl; exact rfl) | (apply ef_not; (iterate 3 exact rfl)) | (apply ef_box; (iterate 4 exact rfl)) | apply ef_nil | apply seqQ.normal | apply ef_ret | apply seqQ.ret | apply ef_skip | (apply ef_condt; exact rfl; (first | exact (rfl : true = true) | assumption | exact decide_eq_true (by omega))) | (apply ef_condf; exact rfl; (first | exact (rfl : false = false) | assumption | exact decide_eq_false (by omega))) | (apply ef_call; exact rfl; ((repeat (apply XVs.cons; exact rfl)); exact XVs.nil); (with_reducible first | exact Within_c k _ _ _ _ h1 | exact Within_c k _ _ _ _ h2)))
   (refine fin1 rfl (by exact rfl) rfl ?_)
   rw [HE.out, h1, h2]; rfl
  ·by_cases hle : lo ≤ hi
   ·repeat (first | first | apply ef_seq | (apply ef_mv; exact rfl; exact rfl) | (apply ef_bin; (iterate 3 exact rfl); (first | exact cmp_t rfl (by first | exact rfl | (simp only [cmpP]; omega)) | exact cmp_f rfl (by simp only [cmpP]; omega) | exact rfl)) | (apply ef_gy; exact rfl; (first | exact (rfl : true = true) | exact (rfl : false = false) | exact (rfl : true = !false) | exact (rfl : false = !true) | assumption | exact decide_eq_true (by omega) | exact decide_eq_false (by omega))) | (apply ef_gn; exact rfl; (first | exact (rfl : true = true) | exact (rfl : false = false) | exact (rfl : true = !false) | exact (rfl : false = !true) | assumption | exact decide_eq_true (by omega) | exact decide_eq_false (by omega)); exact rfl) | (apply ef_gu; exact rfl; exact rfl) | (apply ef_pick; (iterate 3 exact rfl)) | (apply ef_pickb; (iterate 4 exact rfl)) | (apply ef_ldr; exact rfl; exact rfl; (first | exact rfl)) | (apply ef_ldp; (iterate 4 exact rfl); (first | exact rfl | assumption); (first | exact rfl)) | (apply ef_fap; exact rfl; exact rfl) | (apply ef_far; exact rfl; exact rfl) | (apply ef_notT; exact rfl; exact rfl) | (apply ef_notF; exact rfl; exact rfl) | (apply ef_not; (iterate 3 exact rfl)) | (apply ef_box; (iterate 4 exact rfl)) | apply ef_nil | apply seqQ.normal | apply ef_ret | apply seqQ.ret | apply ef_skip | (apply ef_condt; exact rfl; (first | exact (rfl : true = true) | assumption | exact decide_eq_true (by omega))) | (apply ef_condf; exact rfl; (first | exact (rfl : false = false) | assumption | exact decide_eq_false (by omega))) | (apply ef_call; exact rfl; ((repeat (apply XVs.cons; exact rfl)); exact XVs.nil); (with_reducible first | exact Within_c k _ _ _ _ h1 | exact Within_c k _ _ _ _ h2)))
    (refine fin1 rfl (by exact rfl) rfl ?_)
    rw [HE.out, h1, h2, decide_eq_true hle]; rfl
   ·repeat (first | first | apply ef_seq | (apply ef_mv; exact rfl; exact rfl) | (apply ef_bin; (iterate 3 exact rfl); (first | exact cmp_t rfl (by first | exact rfl | (simp only [cmpP]; omega)) | exact cmp_f rfl (by simp only [cmpP]; omega) | exact rfl)) | (apply ef_gy; exact rfl; (first | exact (rfl : true = true) | exact (rfl : false = false) | exact (rfl : true = !false) | exact (rfl : false = !true) | assumption | exact decide_eq_true (by omega) | exact decide_eq_false (by omega))) | (apply ef_gn; exact rfl; (first | exact (rfl : true = true) | exact (rfl : false = false) | exact (rfl : true = !false) | exact (rfl : false = !true) | assumption | exact decide_eq_true (by omega) | exact decide_eq_false (by omega)); exact rfl) | (apply ef_gu; exact rfl; exact rfl) | (apply ef_pick; (iterate 3 exact rfl)) | (apply ef_pickb; (iterate 4 exact rfl)) | (apply ef_ldr; exact rfl; exact rfl; (first | exact rfl)) | (apply ef_ldp; (iterate 4 exact rfl); (first | exact rfl | assumption); (first | exact rfl)) | (apply ef_fap; exact rfl; exact rfl) | (apply ef_far; exact rfl; exact rfl) | (apply ef_notT; exact rfl; exact rfl) | (apply ef_notF; exact rfl; exact rfl) | (apply ef_not; (iterate 3 exact rfl)) | (apply ef_box; (iterate 4 exact rfl)) | apply ef_nil | apply seqQ.normal | apply ef_ret | apply seqQ.ret | apply ef_skip | (apply ef_condt; exact rfl; (first | exact (rfl : true = true) | assumption | exact decide_eq_true (by omega))) | (apply ef_condf; exact rfl; (first | exact (rfl : false = false) | assumption | exact decide_eq_false (by omega))) | (apply ef_call; exact rfl; ((repeat (apply XVs.cons; exact rfl)); exact XVs.nil); (with_reducible first | exact Within_c k _ _ _ _ h1 | exact Within_c k _ _ _ _ h2)))
    (refine fin1 rfl (by exact rfl) rfl ?_)
    rw [HE.out, h1, h2, decide_eq_false hle]; rfl
theorem mf_rAnswer : MT.mf 74 = some ⟨141, [(.tmp 6)], (.seq (.reg [gO 3 (.box 3 (.s 0)), gO 4 (.box 5 (.s 1)), gO 5 (.box 2 (.s 2)), gO 6 (.mv (cI 0))]) (.seq (.reg [gO 17 (.ld (some 3) (.s 3)), gO 18 (.fa 0 (.s 4)), gO 19 (.ld none (.s 18)), gO 20 (.fa 1 (.s 4)), gO 21 (.fa 0 (.s 20)), gO 22 (.ld (some 2) (.s 21)), gO 23 (.call 122 [.s 17, .s 19, .s 22]), gO 16 (.mv (.s 23)), gO 24 (.ext (.s 16) 0), gO 25 (.ext (.s 16) 1), gO 7 (.mv (.s 24)), gO 8 (.mv (.s 25))]) (.seq (.reg [gO 27 (.ld (some 3) (.s 3)), gO 28 (.fa 0 (.s 4)), gO 29 (.ld none (.s 28)), gO 30 (.fa 1 (.s 4)), gO 31 (.fa 2 (.s 30)), gO 32 (.ld (some 2) (.s 31)), gO 33 (.call 122 [.s 27, .s 29, .s 32]), gO 26 (.mv (.s 33)), gO 34 (.ext (.s 26) 0), gO 35 (.ext (.s 26) 1), gO 9 (.mv (.s 34)), gO 10 (.mv (.s 35))]) (.seq (.reg [gO 36 (.fa 1 (.s 5)), gO 37 (.ld none (.s 36)), gO 38 (.fa 2 (.s 3)), gO 39 (.ld none (.s 38)), gO 40 (.mn (.s 37) (.s 39)), gO 11 (.mv (.s 40))]) (.seq (.reg [gO 41 (.mv (.s 8)), gO 42 (.bin .gtr (.s 41) (cI 0)), gO 43 (.mv (.s 42)), ⟨some (43, false), some 44, .mv (.s 10)⟩, ⟨some (43, false), some 45, .bin .gtr (.s 44) (cI 0)⟩, gO 46 (.pick (.s 43) cT (.s 45)), gO 47 (.mv (.s 8)), gO 48 (.bin .gtr (.s 47) (cI 0)), gO 49 (.mv (.s 48)), ⟨some (49, true), some 50, .mv (.s 10)⟩, ⟨some (49, true), some 51, .bin .gtr (.s 50) (cI 0)⟩, gO 52 (.pick (.s 49) (.s 51) cF), gO 12 (.mv (.s 46)), gO 13 (.mv (.s 52))]) (.seq (.reg [gO 53 (.mv (.s 8)), gO 54 (.bin .gtr (.s 53) (cI 0)), gO 55 (.mv (.s 54)), ⟨some (55, true), some 56, .mv (.s 7)⟩, ⟨some (55, true), some 57, .fa 0 (.s 5)⟩, ⟨some (55, true), some 58, .ld none (.s 57)⟩, ⟨some (55, true), some 59, .mv (.s 8)⟩, ⟨some (55, true), some 60, .bin .mul (.s 58) (.s 59)⟩, ⟨some (55, true), some 61, .bin .geq (.s 56) (.s 60)⟩, gO 62 (.pick (.s 55) (.s 61) cF), gO 63 (.mv (.s 10)), gO 64 (.bin .gtr (.s 63) (cI 0)), gO 65 (.mv (.s 64)), ⟨some (65, true), some 66, .mv (.s 9)⟩, ⟨some (65, true), some 67, .fa 0 (.s 5)⟩, ⟨some (65, true), some 68, .ld none (.s 67)⟩, ⟨some (65, true), some 69, .mv (.s 10)⟩, ⟨some (65, true), some 70, .bin .mul (.s 68) (.s 69)⟩, ⟨some (65, true), some 71, .bin .geq (.s 66) (.s 70)⟩, gO 72 (.pick (.s 65) (.s 71) cF), gO 73 (.bsl (.lit (.bool false)) 1 2 [(0, (.s 62)), (1, (.s 72))]), gO 14 (.mv (.s 73))]) (.seq (.reg [gO 74 (.mv (.s 8)), gO 75 (.bin .gtr (.s 74) (cI 0)), gO 76 (.mv (.s 75)), ⟨some (76, true), some 77, .mv (.s 7)⟩, ⟨some (76, true), some 78, .mv (.s 11)⟩, ⟨some (76, true), some 79, .mv (.s 8)⟩, ⟨some (76, true), some 80, .bin .mul (.s 78) (.s 79)⟩, ⟨some (76, true), some 81, .bin .leq (.s 77) (.s 80)⟩, gO 82 (.pick (.s 76) (.s 81) cF), gO 83 (.mv (.s 10)), gO 84 (.bin .gtr (.s 83) (cI 0)), gO 85 (.mv (.s 84)), ⟨some (85, true), some 86, .mv (.s 9)⟩, ⟨some (85, true), some 87, .mv (.s 11)⟩, ⟨some (85, true), some 88, .mv (.s 10)⟩, ⟨some (85, true), some 89, .bin .mul (.s 87) (.s 88)⟩, ⟨some (85, true), some 90, .bin .leq (.s 86) (.s 89)⟩, gO 91 (.pick (.s 85) (.s 90) cF), gO 92 (.bsl (.lit (.bool false)) 1 2 [(0, (.s 82)), (1, (.s 91))]), gO 15 (.mv (.s 92))]) (.seq (.block 0 (.seq (.seq (.reg [gO 94 (.mv (.s 12)), gO 95 (.un .not (.s 94)), gO 93 (.mv (.s 95))]) (.cond (.s 93) .skip (.seq (.reg [gO 96 (.mv (.s 15)), gO 97 (.ia 1 (.s 96) (cI 0)), gO 98 (.ld none (.s 97)), gO 99 (.un .not (.s 98)), gO 100 (.mv (.s 99)), ⟨some (100, true), some 101, .mv (.s 15)⟩, ⟨some (100, true), some 102, .ia 1 (.s 101) (cI 1)⟩, ⟨some (100, true), some 103, .ld none (.s 102)⟩, ⟨some (100, true), some 104, .un .not (.s 103)⟩, gO 105 (.pick (.s 100) (.s 104) cF), gO 93 (.mv (.s 105))]) (.cond (.s 93) .skip (.reg [gO 106 (.mv (.s 13)), gO 107 (.mv (.s 106)), ⟨some (107, true), some 108, .mv (.s 14)⟩, ⟨some (107, true), some 109, .ia 1 (.s 108) (cI 0)⟩, ⟨some (107, true), some 110, .ld none (.s 109)⟩, ⟨some (107, true), some 111, .un .not (.s 110)⟩, gO 112 (.pick (.s 107) (.s 111) cF), gO 113 (.mv (.s 112)), ⟨some (113, true), some 114, .mv (.s 14)⟩, ⟨some (113, true), some 115, .ia 1 (.s 114) (cI 1)⟩, ⟨some (113, true), some 116, .ld none (.s 115)⟩, ⟨some (113, true), some 117, .un .not (.s 116)⟩, gO 118 (.pick (.s 113) (.s 117) cF), gO 93 (.mv (.s 118))]))))) (.cond (.s 93) (.seq (.reg [gO 6 (.mv (cI 0))]) .ret) (.seq (.reg [gO 120 (.mv (.s 13)), gO 121 (.mv (.s 120)), ⟨some (121, true), some 122, .mv (.s 14)⟩, ⟨some (121, true), some 123, .ia 1 (.s 122) (cI 0)⟩, ⟨some (121, true), some 124, .ld none (.s 123)⟩, gO 125 (.pick (.s 121) (.s 124) cF), gO 126 (.mv (.s 125)), ⟨some (126, true), some 127, .mv (.s 14)⟩, ⟨some (126, true), some 128, .ia 1 (.s 127) (cI 1)⟩, ⟨some (126, true), some 129, .ld none (.s 128)⟩, gO 130 (.pick (.s 126) (.s 129) cF), gO 131 (.mv (.s 130)), ⟨some (131, true), some 132, .mv (.s 15)⟩, ⟨some (131, true), some 133, .ia 1 (.s 132) (cI 0)⟩, ⟨some (131, true), some 134, .ld none (.s 133)⟩, gO 135 (.pick (.s 131) (.s 134) cF), gO 136 (.mv (.s 135)), ⟨some (136, true), some 137, .mv (.s 15)⟩, ⟨some (136, true), some 138, .ia 1 (.s 137) (cI 1)⟩, ⟨some (136, true), some 139, .ld none (.s 138)⟩, gO 140 (.pick (.s 136) (.s 139) cF), gO 119 (.mv (.s 140))]) (.cond (.s 119) (.seq (.reg [gO 6 (.mv (cI 2))]) .ret) .skip))))) (.seq (.reg [gO 6 (.mv (cI 1))]) .ret)))))))))⟩ := by kernel_rfl
set_option maxHeartbeats 8000000 in
theorem rAnswer_k (k : Nat) (o : Ho) (x : Ly) (lo hi : Int) (n0 d0 n1 d1 : Int) (h1 : ∀ h, orA (k + 2) 122 [encHo o, I64 x.dp, encPt (x.a, x.b)] h = some (.tup [I64 n0, I64 d0], h)) (h2 : ∀ h, orA (k + 2) 122 [encHo o, I64 x.dp, encPt (x.c, x.d)] h = some (.tup [I64 n1, I64 d1], h))
  (hlo : 0 ≤ lo ∧ lo ≤ 10000) (hhi : 0 ≤ hi ∧ hi ≤ 10000) (ho : 1 ≤ o.b ∧ o.b ≤ 10000) (hd' : -10000000000 ≤ d0 ∧ d0 ≤ 10000000000) (he' : -10000000000 ≤ d1 ∧ d1 ≤ 10000000000) :
  runZ MT (orA (k + 2)) (itA (k + 2)) 4000000 74 [encHo o, encLy x, encRg lo hi] [] = some (I64 (ansQ n0 d0 n1 d1 lo (min hi o.b)), []) := by
 refine runZ_of mf_rAnswer (by simp) ?_
 simp only [argsL]
 have hms : 0 ≤ mn hi o.b ∧ mn hi o.b ≤ 10000 := by unfold mn; split <;> omega
 have hA := Lib.hid (show ansQ n0 d0 n1 d1 lo (min hi o.b) = ansQ n0 d0 n1 d1 lo (mn hi o.b) by rw [mn_min])
 have m1 := mul_bd' (a := mn hi o.b) (b := d0) (A := 10000) (B := 10000000000) (by omega) hms.2 hd'.1 hd'.2
 have m2 := mul_bd' (a := mn hi o.b) (b := d1) (A := 10000) (B := 10000000000) (by omega) hms.2 he'.1 he'.2
 have m3 := mul_bd' (a := lo) (b := d0) (A := 10000) (B := 10000000000) (by omega) hlo.2 hd'.1 hd'.2
 have m4 := mul_bd' (a := lo) (b := d1) (A := 10000) (B := 10000000000) (by omega) hlo.2 he'.1 he'.2
 rw [hA.out]
 clear hA
 have HQ : ∀ q, ansQ n0 d0 n1 d1 lo (mn hi o.b) = q ↔ (if ¬ (0 < d0 ∨ 0 < d1) ∨ (¬ (0 < d0 ∧ n0 ≤ mn hi o.b * d0) ∧ ¬ (0 < d1 ∧ n1 ≤ mn hi o.b * d1)) ∨ ((0 < d0 ∧ 0 < d1) ∧ ¬ (0 < d0 ∧ lo * d0 ≤ n0) ∧ ¬ (0 < d1 ∧ lo * d1 ≤ n1)) then 0
  else if (0 < d0 ∧ 0 < d1) ∧ (0 < d0 ∧ lo * d0 ≤ n0) ∧ (0 < d1 ∧ lo * d1 ≤ n1) ∧ (0 < d0 ∧ n0 ≤ mn hi o.b * d0) ∧ (0 < d1 ∧ n1 ≤ mn hi o.b * d1) then 2 else 1) = q := fun q => Iff.rfl
 generalize ansQ n0 d0 n1 d1 lo (mn hi o.b) = W at *
 have HW := Lib.hid (show W = _ from (HQ W).1 rfl |>.symm)
 clear HQ
 generalize hp1 : lo * d0 = P1 at *
 generalize hp2 : lo * d1 = P2 at *
 generalize hp3 : mn hi o.b * d0 = P3 at *
 generalize hp4 : mn hi o.b * d1 = P4 at *
 have w1 : IntKind.i64.wrap (lo * d0) = P1 := by rw [hp1]; exact wrap_of (by omega) (by omega)
 have w2 : IntKind.i64.wrap (lo * d1) = P2 := by rw [hp2]; exact wrap_of (by omega) (by omega)
 have w3 : IntKind.i64.wrap (mn hi o.b * d0) = P3 := by rw [hp3]; exact wrap_of (by omega) (by omega)
 have w4 : IntKind.i64.wrap (mn hi o.b * d1) = P4 := by rw [hp4]; exact wrap_of (by omega) (by omega)
 clear hp1 hp2 hp3 hp4 m1 m2 m3 m4
 by_cases p0 : 0 < d0 <;> by_cases p1 : 0 < d1
 ·by_cases a0 : P1 ≤ n0 <;> by_cases a1 : P2 ≤ n1 <;> by_cases b0 : n0 ≤ P3 <;> by_cases b1 : n1 ≤ P4
  all_goals
   repeat (first | first | apply ef_seq | (apply ef_mv; exact rfl; exact rfl) | (apply ef_bin; (iterate 3 exact rfl); (first | exact cmp_t rfl (by first | exact rfl | (simp only [cmpP]; omega)) | exact cmp_f rfl (by simp only [cmpP]; omega) | ((with_reducible refine bin_mul (wrap_of ?_ ?_)) <;> omega) | with_reducible exact bin_mul (by assumption) | exact rfl)) | (apply ef_gy; exact rfl; (first | exact (rfl : true = true) | exact (rfl : false = false) | exact (rfl : true = !false) | exact (rfl : false = !true) | assumption | exact decide_eq_true (by omega) | exact decide_eq_false (by omega))) | (apply ef_gn; exact rfl; (first | exact (rfl : true = true) | exact (rfl : false = false) | exact (rfl : true = !false) | exact (rfl : false = !true) | assumption | exact decide_eq_true (by omega) | exact decide_eq_false (by omega)); exact rfl) | (apply ef_gu; exact rfl; exact rfl) | (apply ef_pick; (iterate 3 exact rfl)) | (apply ef_pickb; (iterate 4 exact rfl)) | (apply ef_ldr; exact rfl; exact rfl; (first | exact rd_2 rfl rfl | exact rd_3 rfl rfl rfl | exact rfl)) | (apply ef_ldp; (iterate 4 exact rfl); (first | exact rfl | assumption); (first | exact rd_2 rfl rfl | exact rd_3 rfl rfl rfl | exact rfl)) | (apply ef_ias; (iterate 3 exact rfl); (first | omega | assumption); assumption; exact rfl) | (apply ef_iaa; (iterate 3 exact rfl); (first | omega | assumption); (first | omega | assumption); exact rfl) | (apply ef_fap; exact rfl; exact rfl) | (apply ef_far; exact rfl; exact rfl) | (apply ef_notT; exact rfl; exact rfl) | (apply ef_notF; exact rfl; exact rfl) | (apply ef_not; (iterate 3 exact rfl)) | (apply ef_ext; (iterate 3 exact rfl)) | (apply ef_mn; (iterate 3 exact rfl)) | (apply ef_box; (iterate 4 exact rfl)) | (apply ef_bsl; exact rfl; (repeat (apply XVs.cons; exact rfl)); exact XVs.nil; exact rfl) | apply ef_nil | apply seqQ.normal | apply ef_ret | apply seqQ.ret | apply blockQ.normal | apply blockQ.ret | apply blockQ.here | (apply blockQ_there; exact rfl) | apply ef_block | apply ef_skip | (apply ef_condt; exact rfl; (first | exact (rfl : true = true) | assumption | exact decide_eq_true (by omega))) | (apply ef_condf; exact rfl; (first | exact (rfl : false = false) | assumption | exact decide_eq_false (by omega))) | (apply ef_call; exact rfl; ((repeat (apply XVs.cons; exact rfl)); exact XVs.nil); (with_reducible first | exact h1 _ | exact h2 _)))
   (refine fin1 rfl (by exact rfl) rfl ?_)
   rw [HW.out]; simp [p0, p1, a0, a1, b0, b1]
 ·by_cases a0 : P1 ≤ n0 <;> by_cases b0 : n0 ≤ P3
  all_goals
   repeat (first | first | apply ef_seq | (apply ef_mv; exact rfl; exact rfl) | (apply ef_bin; (iterate 3 exact rfl); (first | exact cmp_t rfl (by first | exact rfl | (simp only [cmpP]; omega)) | exact cmp_f rfl (by simp only [cmpP]; omega) | ((with_reducible refine bin_mul (wrap_of ?_ ?_)) <;> omega) | with_reducible exact bin_mul (by assumption) | exact rfl)) | (apply ef_gy; exact rfl; (first | exact (rfl : true = true) | exact (rfl : false = false) | exact (rfl : true = !false) | exact (rfl : false = !true) | assumption | exact decide_eq_true (by omega) | exact decide_eq_false (by omega))) | (apply ef_gn; exact rfl; (first | exact (rfl : true = true) | exact (rfl : false = false) | exact (rfl : true = !false) | exact (rfl : false = !true) | assumption | exact decide_eq_true (by omega) | exact decide_eq_false (by omega)); exact rfl) | (apply ef_gu; exact rfl; exact rfl) | (apply ef_pick; (iterate 3 exact rfl)) | (apply ef_pickb; (iterate 4 exact rfl)) | (apply ef_ldr; exact rfl; exact rfl; (first | exact rd_2 rfl rfl | exact rd_3 rfl rfl rfl | exact rfl)) | (apply ef_ldp; (iterate 4 exact rfl); (first | exact rfl | assumption); (first | exact rd_2 rfl rfl | exact rd_3 rfl rfl rfl | exact rfl)) | (apply ef_ias; (iterate 3 exact rfl); (first | omega | assumption); assumption; exact rfl) | (apply ef_iaa; (iterate 3 exact rfl); (first | omega | assumption); (first | omega | assumption); exact rfl) | (apply ef_fap; exact rfl; exact rfl) | (apply ef_far; exact rfl; exact rfl) | (apply ef_notT; exact rfl; exact rfl) | (apply ef_notF; exact rfl; exact rfl) | (apply ef_not; (iterate 3 exact rfl)) | (apply ef_ext; (iterate 3 exact rfl)) | (apply ef_mn; (iterate 3 exact rfl)) | (apply ef_box; (iterate 4 exact rfl)) | (apply ef_bsl; exact rfl; (repeat (apply XVs.cons; exact rfl)); exact XVs.nil; exact rfl) | apply ef_nil | apply seqQ.normal | apply ef_ret | apply seqQ.ret | apply blockQ.normal | apply blockQ.ret | apply blockQ.here | (apply blockQ_there; exact rfl) | apply ef_block | apply ef_skip | (apply ef_condt; exact rfl; (first | exact (rfl : true = true) | assumption | exact decide_eq_true (by omega))) | (apply ef_condf; exact rfl; (first | exact (rfl : false = false) | assumption | exact decide_eq_false (by omega))) | (apply ef_call; exact rfl; ((repeat (apply XVs.cons; exact rfl)); exact XVs.nil); (with_reducible first | exact h1 _ | exact h2 _)))
   (refine fin1 rfl (by exact rfl) rfl ?_)
   rw [HW.out]; simp [p0, p1, a0, b0]
 ·by_cases a1 : P2 ≤ n1 <;> by_cases b1 : n1 ≤ P4
  all_goals
   repeat (first | first | apply ef_seq | (apply ef_mv; exact rfl; exact rfl) | (apply ef_bin; (iterate 3 exact rfl); (first | exact cmp_t rfl (by first | exact rfl | (simp only [cmpP]; omega)) | exact cmp_f rfl (by simp only [cmpP]; omega) | ((with_reducible refine bin_mul (wrap_of ?_ ?_)) <;> omega) | with_reducible exact bin_mul (by assumption) | exact rfl)) | (apply ef_gy; exact rfl; (first | exact (rfl : true = true) | exact (rfl : false = false) | exact (rfl : true = !false) | exact (rfl : false = !true) | assumption | exact decide_eq_true (by omega) | exact decide_eq_false (by omega))) | (apply ef_gn; exact rfl; (first | exact (rfl : true = true) | exact (rfl : false = false) | exact (rfl : true = !false) | exact (rfl : false = !true) | assumption | exact decide_eq_true (by omega) | exact decide_eq_false (by omega)); exact rfl) | (apply ef_gu; exact rfl; exact rfl) | (apply ef_pick; (iterate 3 exact rfl)) | (apply ef_pickb; (iterate 4 exact rfl)) | (apply ef_ldr; exact rfl; exact rfl; (first | exact rd_2 rfl rfl | exact rd_3 rfl rfl rfl | exact rfl)) | (apply ef_ldp; (iterate 4 exact rfl); (first | exact rfl | assumption); (first | exact rd_2 rfl rfl | exact rd_3 rfl rfl rfl | exact rfl)) | (apply ef_ias; (iterate 3 exact rfl); (first | omega | assumption); assumption; exact rfl) | (apply ef_iaa; (iterate 3 exact rfl); (first | omega | assumption); (first | omega | assumption); exact rfl) | (apply ef_fap; exact rfl; exact rfl) | (apply ef_far; exact rfl; exact rfl) | (apply ef_notT; exact rfl; exact rfl) | (apply ef_notF; exact rfl; exact rfl) | (apply ef_not; (iterate 3 exact rfl)) | (apply ef_ext; (iterate 3 exact rfl)) | (apply ef_mn; (iterate 3 exact rfl)) | (apply ef_box; (iterate 4 exact rfl)) | (apply ef_bsl; exact rfl; (repeat (apply XVs.cons; exact rfl)); exact XVs.nil; exact rfl) | apply ef_nil | apply seqQ.normal | apply ef_ret | apply seqQ.ret | apply blockQ.normal | apply blockQ.ret | apply blockQ.here | (apply blockQ_there; exact rfl) | apply ef_block | apply ef_skip | (apply ef_condt; exact rfl; (first | exact (rfl : true = true) | assumption | exact decide_eq_true (by omega))) | (apply ef_condf; exact rfl; (first | exact (rfl : false = false) | assumption | exact decide_eq_false (by omega))) | (apply ef_call; exact rfl; ((repeat (apply XVs.cons; exact rfl)); exact XVs.nil); (with_reducible first | exact h1 _ | exact h2 _)))
   (refine fin1 rfl (by exact rfl) rfl ?_)
   rw [HW.out]; simp [p0, p1, a1, b1]
 ·repeat (first | first | apply ef_seq | (apply ef_mv; exact rfl; exact rfl) | (apply ef_bin; (iterate 3 exact rfl); (first | exact cmp_t rfl (by first | exact rfl | (simp only [cmpP]; omega)) | exact cmp_f rfl (by simp only [cmpP]; omega) | ((with_reducible refine bin_mul (wrap_of ?_ ?_)) <;> omega) | with_reducible exact bin_mul (by assumption) | exact rfl)) | (apply ef_gy; exact rfl; (first | exact (rfl : true = true) | exact (rfl : false = false) | exact (rfl : true = !false) | exact (rfl : false = !true) | assumption | exact decide_eq_true (by omega) | exact decide_eq_false (by omega))) | (apply ef_gn; exact rfl; (first | exact (rfl : true = true) | exact (rfl : false = false) | exact (rfl : true = !false) | exact (rfl : false = !true) | assumption | exact decide_eq_true (by omega) | exact decide_eq_false (by omega)); exact rfl) | (apply ef_gu; exact rfl; exact rfl) | (apply ef_pick; (iterate 3 exact rfl)) | (apply ef_pickb; (iterate 4 exact rfl)) | (apply ef_ldr; exact rfl; exact rfl; (first | exact rd_2 rfl rfl | exact rd_3 rfl rfl rfl | exact rfl)) | (apply ef_ldp; (iterate 4 exact rfl); (first | exact rfl | assumption); (first | exact rd_2 rfl rfl | exact rd_3 rfl rfl rfl | exact rfl)) | (apply ef_ias; (iterate 3 exact rfl); (first | omega | assumption); assumption; exact rfl) | (apply ef_iaa; (iterate 3 exact rfl); (first | omega | assumption); (first | omega | assumption); exact rfl) | (apply ef_fap; exact rfl; exact rfl) | (apply ef_far; exact rfl; exact rfl) | (apply ef_notT; exact rfl; exact rfl) | (apply ef_notF; exact rfl; exact rfl) | (apply ef_not; (iterate 3 exact rfl)) | (apply ef_ext; (iterate 3 exact rfl)) | (apply ef_mn; (iterate 3 exact rfl)) | (apply ef_box; (iterate 4 exact rfl)) | (apply ef_bsl; exact rfl; (repeat (apply XVs.cons; exact rfl)); exact XVs.nil; exact rfl) | apply ef_nil | apply seqQ.normal | apply ef_ret | apply seqQ.ret | apply blockQ.normal | apply blockQ.ret | apply blockQ.here | (apply blockQ_there; exact rfl) | apply ef_block | apply ef_skip | (apply ef_condt; exact rfl; (first | exact (rfl : true = true) | assumption | exact decide_eq_true (by omega))) | (apply ef_condf; exact rfl; (first | exact (rfl : false = false) | assumption | exact decide_eq_false (by omega))) | (apply ef_call; exact rfl; ((repeat (apply XVs.cons; exact rfl)); exact XVs.nil); (with_reducible first | exact h1 _ | exact h2 _)))
  (refine fin1 rfl (by exact rfl) rfl ?_)
  rw [HW.out]; simp [p0, p1]
theorem rAnswer_c (k : Nat) (o : Ho) (x : Ly) (lo hi : Int) (h : MHeap) (ho : holeE o = 0) (hx : layE x = 0) (hw : wanE lo hi = 0) {v : Int} (hv : ansPH o x lo hi = v) : orA (k + 3) 74 [encHo o, encLy x, encRg lo hi] h = some (I64 v, h) := by
 subst hv
 rw [ansH_same ho hx]
 obtain ⟨b1, b2, b3, _⟩ := lay_ok hx
 obtain ⟨_, _, hb⟩ := hole_ok ho
 obtain ⟨w1, w2⟩ := wan_ok hw
 obtain ⟨_, d3⟩ := cut_bd ho b1 b2
 obtain ⟨_, d4⟩ := cut_bd ho b1 b3
 exact callL (args' := [encHo o, encLy x, encRg lo hi]) (frzL_lt rfl) rfl (rAnswer_k k o x lo hi _ _ _ _ (fun h => rcut_c (k + 1) o x.dp x.a x.b h ho b1 b2) (fun h => rcut_c (k + 1) o x.dp x.c x.d h ho b1 b3) w1 w2 hb d3 d4)
end Go.Proofs.YtnmgpbihknjdjaaGreatDoor

/- Contracts: the first hole. -/
namespace Go.Proofs.YtnmgpbihknjdjaaGreatDoor
open Go.RowKit
set_option linter.unusedVariables false
theorem ltL_Ho (n : Nat) (zs : List Ho) : ltL n (zs.map encHo) = true := ltL_lits (fun _ => rfl) zs
theorem mf_eachHo : MT.mf 162 = some ⟨25, [(.tmp 4), (.tmp 5)], (.seq (.reg [gO 4 (.mv (cI 0)), gO 5 (.mv (cI 0))]) (.seq (.seq (.reg [gO 9 (.mv (.s 0)), gO 10 (.len (.s 9)), gO 11 (.mv (cI 0))]) (.block 0 (.loop [11, 10, 9, 1] (.seq (.reg [gO 12 (.bin .lss (.s 11) (.s 10))]) (.seq (.cond (.s 12) .skip (.exit 0)) (.seq (.block 1 (.seq (.reg [gO 13 (.mv (.s 11)), gO 14 (.ia 3 (.s 9) (.s 11)), gO 15 (.ld (some 3) (.s 14)), gO 7 (.new (.agg [(.lit (.int .i64 0)), (.lit (.int .i64 0)), (.lit (.int .i64 0))])), gO 6 (.mv (.s 13)), ⟨none, none, .st 3 (.s 7) (.s 15)⟩]) (.seq (.reg [gO 16 (.mv (.s 1)), gO 17 (.mv (.s 6)), gO 18 (.ld (some 3) (.s 7)), gO 19 (.callv (.s 16) [.s 17, .s 18]), gO 8 (.mv (.s 19))]) (.seq (.reg [gO 20 (.mv (.s 8)), gO 21 (.bin .neq (.s 20) (cI 0))]) (.cond (.s 21) (.seq (.reg [gO 22 (.mv (.s 6)), gO 23 (.mv (.s 8)), gO 4 (.mv (.s 22)), gO 5 (.mv (.s 23))]) .ret) .skip))))) (.reg [gO 24 (.bin .add (.s 11) (cI 1)), gO 11 (.mv (.s 24))]))))))) (.seq (.reg [gO 4 (.mv (cI 0)), gO 5 (.mv (cI 0))]) .ret)))⟩ := by kernel_rfl
theorem eachHo_z (k g : Nat) (caps : List MV) (G : Nat → Ho → Int) (zs : List Ho) (hx : zs.length ≤ 1000) (hcl : ltL 0 caps = true) (hg : ∀ (i : Nat) (hi : i < zs.length) h, orA k g (I64 (i : Int) :: encHo zs[i] :: caps) h = some (I64 (G i zs[i]), h)) :
  runZ MT (orA k) (itA k) 4000000 162 [.sl (zs.map encHo), .fn g 0 caps] [] = some (.tup [I64 (firG G 0 zs).1, I64 (firG G 0 zs).2], []) := by
 have hl : (MV.sl (zs.map encHo)).slen = some zs.length := by simp [MV.slen]
 refine runZ_of mf_eachHo (by simp) ?_
 simp only [argsL]
 repeat (first | apply ef_seq | (apply ef_mv; exact rfl; exact rfl) | (apply ef_bin; (iterate 3 exact rfl); (first | exact cmp_t rfl (by first | exact rfl | (simp only [cmpP]; omega)) | exact cmp_f rfl (by simp only [cmpP]; omega) | ((with_reducible refine bin_add (wrap_of ?_ ?_)) <;> omega) | with_reducible exact bin_add (by assumption) | exact rfl)) | (apply ef_len; exact rfl; exact rfl; (first | assumption | exact rfl)) | (apply ef_ldr; exact rfl; exact rfl; (first | exact rd_3 rfl rfl rfl | exact rfl)) | (apply ef_ldp; exact rfl; exact rfl; (first | exact rfl | assumption); exact rfl; (first | exact rfl | assumption); (first | exact rd_3 rfl rfl rfl | exact rfl)) | (apply ef_ias; (iterate 3 exact rfl); (first | omega | assumption); assumption; exact rfl) | (apply ef_iaa; (iterate 3 exact rfl); (first | omega | assumption); (first | omega | assumption); (first | exact rfl | assumption | exact ok_of rfl rfl rfl)) | (apply ef_newst; (iterate 3 exact rfl); (first | exact rfl | assumption); exact rfl) | (apply ef_new; exact rfl) | (apply ef_st; (iterate 6 exact rfl); (first | exact rfl | assumption); exact rfl) | apply ef_nil | apply seqQ.normal | apply loopQ.ret | apply loopQ.exit | apply ef_ret | apply seqQ.ret | apply ef_exit | apply seqQ.exit | apply blockQ.normal | apply blockQ.ret | apply blockQ.here | (apply blockQ_there; exact rfl) | apply ef_block | apply ef_skip | (apply ef_condt; exact rfl; (first | exact (rfl : true = true) | assumption | exact decide_eq_true (by omega))) | (apply ef_condf; exact rfl; (first | exact (rfl : false = false) | assumption | exact decide_eq_false (by omega))))
 refine ef_loopf (α := Nat) (fun i => i ≤ zs.length ∧ firG G 0 zs = firG G i (zs.drop i)) (fun i => [(11, I64 (i : Int))]) [(10, I64 (zs.length : Int)), (9, .sl (zs.map encHo)), (1, .fn g 0 caps)] (fun _ => []) (fun i => zs.length - i) 0 [11] (fun _ => rfl) (by ((repeat (refine Hold.cons (by exact rfl) ?_)); exact Hold.nil)) (by ((repeat (refine Hold.cons (by exact rfl) ?_)); exact Hold.nil)) rfl rfl ⟨by omega, rfl⟩ (by simp; omega) ?_
 rintro i ⟨hi, hz⟩
 by_cases hlt : i < zs.length
 ·have e1 := at_map encHo zs i hlt
  have HD := Lib.hid (drop_at zs i hlt)
  have HZ := Lib.hid hz
  have hg1 := hg i hlt
  clear hz
  generalize zs[i] = z at e1 HD hg1
  obtain ⟨t, ht⟩ : ∃ t, G i z = t := ⟨_, rfl⟩
  have HT := Lib.hid ht
  rw [ht] at hg1
  clear ht
  have hlz : (encHo z).lt 0 = true := by rfl
  by_cases h0 : t = 0
  ·subst h0
   repeat (first | apply ef_seq | (apply ef_mv; exact rfl; exact rfl) | (apply ef_bin; (iterate 3 exact rfl); (first | exact cmp_t rfl (by first | exact rfl | (simp only [cmpP]; omega)) | exact cmp_f rfl (by simp only [cmpP]; omega) | ((with_reducible refine bin_add (wrap_of ?_ ?_)) <;> omega) | with_reducible exact bin_add (by assumption) | exact rfl)) | (apply ef_len; exact rfl; exact rfl; (first | assumption | exact rfl)) | (apply ef_ldr; exact rfl; exact rfl; (first | exact rd_3 rfl rfl rfl | exact rfl)) | (apply ef_ldp; exact rfl; exact rfl; (first | exact rfl | assumption); exact rfl; (first | exact rfl | assumption); (first | exact rd_3 rfl rfl rfl | exact rfl)) | (apply ef_ias; (iterate 3 exact rfl); (first | omega | assumption); assumption; exact rfl) | (apply ef_iaa; (iterate 3 exact rfl); (first | omega | assumption); (first | omega | assumption); (first | exact rfl | assumption | exact ok_of rfl rfl rfl)) | (apply ef_newst; (iterate 3 exact rfl); (first | exact rfl | assumption); exact rfl) | (apply ef_new; exact rfl) | (apply ef_st; (iterate 6 exact rfl); (first | exact rfl | assumption); exact rfl) | apply ef_nil | apply seqQ.normal | apply loopQ.ret | apply loopQ.exit | apply ef_ret | apply seqQ.ret | apply ef_exit | apply seqQ.exit | apply blockQ.normal | apply blockQ.ret | apply blockQ.here | (apply blockQ_there; exact rfl) | apply ef_block | apply ef_skip | (apply ef_condt; exact rfl; (first | exact (rfl : true = true) | assumption | exact decide_eq_true (by omega))) | (apply ef_condf; exact rfl; (first | exact (rfl : false = false) | assumption | exact decide_eq_false (by omega))))
   (apply ef_callv; (· exact rfl); (· exact rfl); (· ((repeat (apply XVs.cons; exact rfl)); exact XVs.nil)); (· exact rfl); (· exact hg1 _))
   repeat (first | apply ef_seq | (apply ef_mv; exact rfl; exact rfl) | (apply ef_bin; (iterate 3 exact rfl); (first | exact cmp_t rfl (by first | exact rfl | (simp only [cmpP]; omega)) | exact cmp_f rfl (by simp only [cmpP]; omega) | ((with_reducible refine bin_add (wrap_of ?_ ?_)) <;> omega) | with_reducible exact bin_add (by assumption) | exact rfl)) | (apply ef_len; exact rfl; exact rfl; (first | assumption | exact rfl)) | (apply ef_ldr; exact rfl; exact rfl; (first | exact rd_3 rfl rfl rfl | exact rfl)) | (apply ef_ldp; exact rfl; exact rfl; (first | exact rfl | assumption); exact rfl; (first | exact rfl | assumption); (first | exact rd_3 rfl rfl rfl | exact rfl)) | (apply ef_ias; (iterate 3 exact rfl); (first | omega | assumption); assumption; exact rfl) | (apply ef_iaa; (iterate 3 exact rfl); (first | omega | assumption); (first | omega | assumption); (first | exact rfl | assumption | exact ok_of rfl rfl rfl)) | (apply ef_newst; (iterate 3 exact rfl); (first | exact rfl | assumption); exact rfl) | (apply ef_new; exact rfl) | (apply ef_st; (iterate 6 exact rfl); (first | exact rfl | assumption); exact rfl) | apply ef_nil | apply seqQ.normal | apply loopQ.ret | apply loopQ.exit | apply ef_ret | apply seqQ.ret | apply ef_exit | apply seqQ.exit | apply blockQ.normal | apply blockQ.ret | apply blockQ.here | (apply blockQ_there; exact rfl) | apply ef_block | apply ef_skip | (apply ef_condt; exact rfl; (first | exact (rfl : true = true) | assumption | exact decide_eq_true (by omega))) | (apply ef_condf; exact rfl; (first | exact (rfl : false = false) | assumption | exact decide_eq_false (by omega))))
   (refine loopQ.normal _ _ ⟨i + 1, ⟨hlt, by rw [HZ.out, HD.out, firG, if_pos HT.out]⟩, (by first | (simp only; omega) | omega), ⟨by ((repeat (refine Hold.cons (by exact rfl) ?_)); exact Hold.nil), by ((repeat (refine Hold.cons (by exact rfl) ?_)); exact Hold.nil)⟩, .inr ⟨by ((repeat (refine hdl_cons rfl (by first | rfl | (simp [MV.lt, ltL, ltL_Ho, hcl])) ?_)); exact hdl_nil), by first | rfl | (simp [hltL, ltL, MV.lt, ltL, ltL_Ho, hcl])⟩, by first | exact rfl | (simp only [List.map_append, List.map_set]; exact rfl)⟩)
  ·repeat (first | apply ef_seq | (apply ef_mv; exact rfl; exact rfl) | (apply ef_bin; (iterate 3 exact rfl); (first | exact cmp_t rfl (by first | exact rfl | (simp only [cmpP]; omega)) | exact cmp_f rfl (by simp only [cmpP]; omega) | ((with_reducible refine bin_add (wrap_of ?_ ?_)) <;> omega) | with_reducible exact bin_add (by assumption) | exact rfl)) | (apply ef_len; exact rfl; exact rfl; (first | assumption | exact rfl)) | (apply ef_ldr; exact rfl; exact rfl; (first | exact rd_3 rfl rfl rfl | exact rfl)) | (apply ef_ldp; exact rfl; exact rfl; (first | exact rfl | assumption); exact rfl; (first | exact rfl | assumption); (first | exact rd_3 rfl rfl rfl | exact rfl)) | (apply ef_ias; (iterate 3 exact rfl); (first | omega | assumption); assumption; exact rfl) | (apply ef_iaa; (iterate 3 exact rfl); (first | omega | assumption); (first | omega | assumption); (first | exact rfl | assumption | exact ok_of rfl rfl rfl)) | (apply ef_newst; (iterate 3 exact rfl); (first | exact rfl | assumption); exact rfl) | (apply ef_new; exact rfl) | (apply ef_st; (iterate 6 exact rfl); (first | exact rfl | assumption); exact rfl) | apply ef_nil | apply seqQ.normal | apply loopQ.ret | apply loopQ.exit | apply ef_ret | apply seqQ.ret | apply ef_exit | apply seqQ.exit | apply blockQ.normal | apply blockQ.ret | apply blockQ.here | (apply blockQ_there; exact rfl) | apply ef_block | apply ef_skip | (apply ef_condt; exact rfl; (first | exact (rfl : true = true) | assumption | exact decide_eq_true (by omega))) | (apply ef_condf; exact rfl; (first | exact (rfl : false = false) | assumption | exact decide_eq_false (by omega))))
   (apply ef_callv; (· exact rfl); (· exact rfl); (· ((repeat (apply XVs.cons; exact rfl)); exact XVs.nil)); (· exact rfl); (· exact hg1 _))
   repeat (first | apply ef_seq | (apply ef_mv; exact rfl; exact rfl) | (apply ef_bin; (iterate 3 exact rfl); (first | exact cmp_t rfl (by first | exact rfl | (simp only [cmpP]; omega)) | exact cmp_f rfl (by simp only [cmpP]; omega) | ((with_reducible refine bin_add (wrap_of ?_ ?_)) <;> omega) | with_reducible exact bin_add (by assumption) | exact rfl)) | (apply ef_len; exact rfl; exact rfl; (first | assumption | exact rfl)) | (apply ef_ldr; exact rfl; exact rfl; (first | exact rd_3 rfl rfl rfl | exact rfl)) | (apply ef_ldp; exact rfl; exact rfl; (first | exact rfl | assumption); exact rfl; (first | exact rfl | assumption); (first | exact rd_3 rfl rfl rfl | exact rfl)) | (apply ef_ias; (iterate 3 exact rfl); (first | omega | assumption); assumption; exact rfl) | (apply ef_iaa; (iterate 3 exact rfl); (first | omega | assumption); (first | omega | assumption); (first | exact rfl | assumption | exact ok_of rfl rfl rfl)) | (apply ef_newst; (iterate 3 exact rfl); (first | exact rfl | assumption); exact rfl) | (apply ef_new; exact rfl) | (apply ef_st; (iterate 6 exact rfl); (first | exact rfl | assumption); exact rfl) | apply ef_nil | apply seqQ.normal | apply loopQ.ret | apply loopQ.exit | apply ef_ret | apply seqQ.ret | apply ef_exit | apply seqQ.exit | apply blockQ.normal | apply blockQ.ret | apply blockQ.here | (apply blockQ_there; exact rfl) | apply ef_block | apply ef_skip | (apply ef_condt; exact rfl; (first | exact (rfl : true = true) | assumption | exact decide_eq_true (by omega))) | (apply ef_condf; exact rfl; (first | exact (rfl : false = false) | assumption | exact decide_eq_false (by omega))))
   (refine fin2 rfl (by exact rfl) (by exact rfl) ?_)
   rw [HZ.out, HD.out, firG, HT.out, if_neg h0]
 ·repeat (first | apply ef_seq | (apply ef_mv; exact rfl; exact rfl) | (apply ef_bin; (iterate 3 exact rfl); (first | exact cmp_t rfl (by first | exact rfl | (simp only [cmpP]; omega)) | exact cmp_f rfl (by simp only [cmpP]; omega) | ((with_reducible refine bin_add (wrap_of ?_ ?_)) <;> omega) | with_reducible exact bin_add (by assumption) | exact rfl)) | (apply ef_len; exact rfl; exact rfl; (first | assumption | exact rfl)) | (apply ef_ldr; exact rfl; exact rfl; (first | exact rd_3 rfl rfl rfl | exact rfl)) | (apply ef_ldp; exact rfl; exact rfl; (first | exact rfl | assumption); exact rfl; (first | exact rfl | assumption); (first | exact rd_3 rfl rfl rfl | exact rfl)) | (apply ef_ias; (iterate 3 exact rfl); (first | omega | assumption); assumption; exact rfl) | (apply ef_iaa; (iterate 3 exact rfl); (first | omega | assumption); (first | omega | assumption); (first | exact rfl | assumption | exact ok_of rfl rfl rfl)) | (apply ef_newst; (iterate 3 exact rfl); (first | exact rfl | assumption); exact rfl) | (apply ef_new; exact rfl) | (apply ef_st; (iterate 6 exact rfl); (first | exact rfl | assumption); exact rfl) | apply ef_nil | apply seqQ.normal | apply loopQ.ret | apply loopQ.exit | apply ef_ret | apply seqQ.ret | apply ef_exit | apply seqQ.exit | apply blockQ.normal | apply blockQ.ret | apply blockQ.here | (apply blockQ_there; exact rfl) | apply ef_block | apply ef_skip | (apply ef_condt; exact rfl; (first | exact (rfl : true = true) | assumption | exact decide_eq_true (by omega))) | (apply ef_condf; exact rfl; (first | exact (rfl : false = false) | assumption | exact decide_eq_false (by omega))))
  (refine fin2 rfl (by exact rfl) (by exact rfl) ?_)
  rw [hz, List.drop_eq_nil_of_le (by omega)]; rfl
theorem eachHo_c (k g : Nat) (caps : List MV) (G : Nat → Ho → Int) (zs : List Ho) (h : MHeap) {v fv : MV} (hx : zs.length ≤ 1000) (hcl : ltL 0 caps = true) (hg : ∀ (i : Nat) (hi : i < zs.length) h, orA k g (I64 (i : Int) :: encHo zs[i] :: caps) h = some (I64 (G i zs[i]), h)) (hv : frz 0 [] h 8 v = some (.sl (zs.map encHo))) (hf : frz 0 [] h 8 fv = some (.fn g 0 caps)) :
  orA (k + 1) 162 [v, fv] h = some (.tup [I64 (firG G 0 zs).1, I64 (firG G 0 zs).2], h) :=
 callTT (args' := [.sl (zs.map encHo), .fn g 0 caps]) (by simp [List.mapM_cons, hv, hf]) rfl (eachHo_z k g caps G zs hx hcl hg)
theorem mf_IndexHo : MT.mf 164 = some mfW_l177 := by kernel_rfl
theorem IndexHo_z (k g : Nat) (caps : List MV) (P : Ho → Bool) (zs : List Ho) (hx : zs.length ≤ 1000) (hcl : ltL 0 caps = true) (hg : ∀ z ∈ zs, ∀ h, orA k g (encHo z :: caps) h = some (Bo (P z), h)) :
  runZ MT (orA k) (itA k) 4000000 164 [.sl (zs.map encHo), .fn g 0 caps] [] = some (I64 (fIg P zs 0), []) := by
 have hl : (MV.sl (zs.map encHo)).slen = some zs.length := by simp [MV.slen]
 refine runZ_of mf_IndexHo (by simp) ?_
 simp only [argsL]
 repeat (first | apply ef_seq | (apply ef_mv; exact rfl; exact rfl) | (apply ef_bin; (iterate 3 exact rfl); (first | exact cmp_t rfl (by first | exact rfl | (simp only [cmpP]; omega)) | exact cmp_f rfl (by simp only [cmpP]; omega) | ((with_reducible refine bin_add (wrap_of ?_ ?_)) <;> omega) | with_reducible exact bin_add (by assumption) | exact rfl)) | (apply ef_len; exact rfl; exact rfl; (first | assumption | exact rfl)) | (apply ef_ldr; exact rfl; exact rfl; (first | exact rd_3 rfl rfl rfl | exact rfl)) | (apply ef_ldp; exact rfl; exact rfl; (first | exact rfl | assumption); exact rfl; (first | exact rfl | assumption); (first | exact rd_3 rfl rfl rfl | exact rfl)) | (apply ef_ias; (iterate 3 exact rfl); (first | omega | assumption); assumption; exact rfl) | (apply ef_iaa; (iterate 3 exact rfl); (first | omega | assumption); (first | omega | assumption); (first | exact rfl | assumption | exact ok_of rfl rfl rfl)) | apply ef_nil | apply seqQ.normal | apply loopQ.ret | apply loopQ.exit | apply ef_ret | apply seqQ.ret | apply ef_exit | apply seqQ.exit | apply blockQ.normal | apply blockQ.ret | apply blockQ.here | (apply blockQ_there; exact rfl) | apply ef_block | apply ef_skip | (apply ef_condt; exact rfl; (first | exact (rfl : true = true) | assumption | exact decide_eq_true (by omega))) | (apply ef_condf; exact rfl; (first | exact (rfl : false = false) | assumption | exact decide_eq_false (by omega))))
 refine ef_loopf (α := Nat) (fun i => i ≤ zs.length ∧ fIg P zs 0 = fIg P (zs.drop i) i) (fun i => [(8, I64 (i : Int))]) [(7, I64 (zs.length : Int)), (1, .fn g 0 caps), (0, .sl (zs.map encHo))] (fun _ => []) (fun i => zs.length - i) 0 [8] (fun _ => rfl) (by ((repeat (refine Hold.cons (by exact rfl) ?_)); exact Hold.nil)) (by ((repeat (refine Hold.cons (by exact rfl) ?_)); exact Hold.nil)) rfl rfl ⟨by omega, rfl⟩ (by simp; omega) ?_
 rintro i ⟨hi, hz⟩
 by_cases hlt : i < zs.length
 ·have e1 := at_map encHo zs i hlt
  have HD := Lib.hid (drop_at zs i hlt)
  have HZ := Lib.hid hz
  have hg1 := hg zs[i] (List.getElem_mem hlt)
  clear hz
  generalize zs[i] = z at e1 HD hg1
  obtain ⟨t, ht⟩ : ∃ t, P z = t := ⟨_, rfl⟩
  have HT := Lib.hid ht
  rw [ht] at hg1
  clear ht
  cases t
  ·repeat (first | apply ef_seq | (apply ef_mv; exact rfl; exact rfl) | (apply ef_bin; (iterate 3 exact rfl); (first | exact cmp_t rfl (by first | exact rfl | (simp only [cmpP]; omega)) | exact cmp_f rfl (by simp only [cmpP]; omega) | ((with_reducible refine bin_add (wrap_of ?_ ?_)) <;> omega) | with_reducible exact bin_add (by assumption) | exact rfl)) | (apply ef_len; exact rfl; exact rfl; (first | assumption | exact rfl)) | (apply ef_ldr; exact rfl; exact rfl; (first | exact rd_3 rfl rfl rfl | exact rfl)) | (apply ef_ldp; exact rfl; exact rfl; (first | exact rfl | assumption); exact rfl; (first | exact rfl | assumption); (first | exact rd_3 rfl rfl rfl | exact rfl)) | (apply ef_ias; (iterate 3 exact rfl); (first | omega | assumption); assumption; exact rfl) | (apply ef_iaa; (iterate 3 exact rfl); (first | omega | assumption); (first | omega | assumption); (first | exact rfl | assumption | exact ok_of rfl rfl rfl)) | apply ef_nil | apply seqQ.normal | apply loopQ.ret | apply loopQ.exit | apply ef_ret | apply seqQ.ret | apply ef_exit | apply seqQ.exit | apply blockQ.normal | apply blockQ.ret | apply blockQ.here | (apply blockQ_there; exact rfl) | apply ef_block | apply ef_skip | (apply ef_condt; exact rfl; (first | exact (rfl : true = true) | assumption | exact decide_eq_true (by omega))) | (apply ef_condf; exact rfl; (first | exact (rfl : false = false) | assumption | exact decide_eq_false (by omega))))
   (apply ef_callv; (· exact rfl); (· exact rfl); (· ((repeat (apply XVs.cons; exact rfl)); exact XVs.nil)); (· exact rfl); (· exact hg1 _))
   repeat (first | apply ef_seq | (apply ef_mv; exact rfl; exact rfl) | (apply ef_bin; (iterate 3 exact rfl); (first | exact cmp_t rfl (by first | exact rfl | (simp only [cmpP]; omega)) | exact cmp_f rfl (by simp only [cmpP]; omega) | ((with_reducible refine bin_add (wrap_of ?_ ?_)) <;> omega) | with_reducible exact bin_add (by assumption) | exact rfl)) | (apply ef_len; exact rfl; exact rfl; (first | assumption | exact rfl)) | (apply ef_ldr; exact rfl; exact rfl; (first | exact rd_3 rfl rfl rfl | exact rfl)) | (apply ef_ldp; exact rfl; exact rfl; (first | exact rfl | assumption); exact rfl; (first | exact rfl | assumption); (first | exact rd_3 rfl rfl rfl | exact rfl)) | (apply ef_ias; (iterate 3 exact rfl); (first | omega | assumption); assumption; exact rfl) | (apply ef_iaa; (iterate 3 exact rfl); (first | omega | assumption); (first | omega | assumption); (first | exact rfl | assumption | exact ok_of rfl rfl rfl)) | apply ef_nil | apply seqQ.normal | apply loopQ.ret | apply loopQ.exit | apply ef_ret | apply seqQ.ret | apply ef_exit | apply seqQ.exit | apply blockQ.normal | apply blockQ.ret | apply blockQ.here | (apply blockQ_there; exact rfl) | apply ef_block | apply ef_skip | (apply ef_condt; exact rfl; (first | exact (rfl : true = true) | assumption | exact decide_eq_true (by omega))) | (apply ef_condf; exact rfl; (first | exact (rfl : false = false) | assumption | exact decide_eq_false (by omega))))
   (refine loopQ.normal _ _ ⟨i + 1, ⟨hlt, by rw [HZ.out, HD.out]; simp [fIg, HT.out]⟩, (by first | (simp only; omega) | omega), ⟨by ((repeat (refine Hold.cons (by exact rfl) ?_)); exact Hold.nil), by ((repeat (refine Hold.cons (by exact rfl) ?_)); exact Hold.nil)⟩, .inl (Nat.le_refl _), (by first | exact List.take_length | exact rfl | exact takeF rfl rfl)⟩)
  ·repeat (first | apply ef_seq | (apply ef_mv; exact rfl; exact rfl) | (apply ef_bin; (iterate 3 exact rfl); (first | exact cmp_t rfl (by first | exact rfl | (simp only [cmpP]; omega)) | exact cmp_f rfl (by simp only [cmpP]; omega) | ((with_reducible refine bin_add (wrap_of ?_ ?_)) <;> omega) | with_reducible exact bin_add (by assumption) | exact rfl)) | (apply ef_len; exact rfl; exact rfl; (first | assumption | exact rfl)) | (apply ef_ldr; exact rfl; exact rfl; (first | exact rd_3 rfl rfl rfl | exact rfl)) | (apply ef_ldp; exact rfl; exact rfl; (first | exact rfl | assumption); exact rfl; (first | exact rfl | assumption); (first | exact rd_3 rfl rfl rfl | exact rfl)) | (apply ef_ias; (iterate 3 exact rfl); (first | omega | assumption); assumption; exact rfl) | (apply ef_iaa; (iterate 3 exact rfl); (first | omega | assumption); (first | omega | assumption); (first | exact rfl | assumption | exact ok_of rfl rfl rfl)) | apply ef_nil | apply seqQ.normal | apply loopQ.ret | apply loopQ.exit | apply ef_ret | apply seqQ.ret | apply ef_exit | apply seqQ.exit | apply blockQ.normal | apply blockQ.ret | apply blockQ.here | (apply blockQ_there; exact rfl) | apply ef_block | apply ef_skip | (apply ef_condt; exact rfl; (first | exact (rfl : true = true) | assumption | exact decide_eq_true (by omega))) | (apply ef_condf; exact rfl; (first | exact (rfl : false = false) | assumption | exact decide_eq_false (by omega))))
   (apply ef_callv; (· exact rfl); (· exact rfl); (· ((repeat (apply XVs.cons; exact rfl)); exact XVs.nil)); (· exact rfl); (· exact hg1 _))
   repeat (first | apply ef_seq | (apply ef_mv; exact rfl; exact rfl) | (apply ef_bin; (iterate 3 exact rfl); (first | exact cmp_t rfl (by first | exact rfl | (simp only [cmpP]; omega)) | exact cmp_f rfl (by simp only [cmpP]; omega) | ((with_reducible refine bin_add (wrap_of ?_ ?_)) <;> omega) | with_reducible exact bin_add (by assumption) | exact rfl)) | (apply ef_len; exact rfl; exact rfl; (first | assumption | exact rfl)) | (apply ef_ldr; exact rfl; exact rfl; (first | exact rd_3 rfl rfl rfl | exact rfl)) | (apply ef_ldp; exact rfl; exact rfl; (first | exact rfl | assumption); exact rfl; (first | exact rfl | assumption); (first | exact rd_3 rfl rfl rfl | exact rfl)) | (apply ef_ias; (iterate 3 exact rfl); (first | omega | assumption); assumption; exact rfl) | (apply ef_iaa; (iterate 3 exact rfl); (first | omega | assumption); (first | omega | assumption); (first | exact rfl | assumption | exact ok_of rfl rfl rfl)) | apply ef_nil | apply seqQ.normal | apply loopQ.ret | apply loopQ.exit | apply ef_ret | apply seqQ.ret | apply ef_exit | apply seqQ.exit | apply blockQ.normal | apply blockQ.ret | apply blockQ.here | (apply blockQ_there; exact rfl) | apply ef_block | apply ef_skip | (apply ef_condt; exact rfl; (first | exact (rfl : true = true) | assumption | exact decide_eq_true (by omega))) | (apply ef_condf; exact rfl; (first | exact (rfl : false = false) | assumption | exact decide_eq_false (by omega))))
   (refine fin1 rfl (by exact rfl) rfl ?_)
   rw [HZ.out, HD.out]; simp [fIg, HT.out]
 ·repeat (first | apply ef_seq | (apply ef_mv; exact rfl; exact rfl) | (apply ef_bin; (iterate 3 exact rfl); (first | exact cmp_t rfl (by first | exact rfl | (simp only [cmpP]; omega)) | exact cmp_f rfl (by simp only [cmpP]; omega) | ((with_reducible refine bin_add (wrap_of ?_ ?_)) <;> omega) | with_reducible exact bin_add (by assumption) | exact rfl)) | (apply ef_len; exact rfl; exact rfl; (first | assumption | exact rfl)) | (apply ef_ldr; exact rfl; exact rfl; (first | exact rd_3 rfl rfl rfl | exact rfl)) | (apply ef_ldp; exact rfl; exact rfl; (first | exact rfl | assumption); exact rfl; (first | exact rfl | assumption); (first | exact rd_3 rfl rfl rfl | exact rfl)) | (apply ef_ias; (iterate 3 exact rfl); (first | omega | assumption); assumption; exact rfl) | (apply ef_iaa; (iterate 3 exact rfl); (first | omega | assumption); (first | omega | assumption); (first | exact rfl | assumption | exact ok_of rfl rfl rfl)) | apply ef_nil | apply seqQ.normal | apply loopQ.ret | apply loopQ.exit | apply ef_ret | apply seqQ.ret | apply ef_exit | apply seqQ.exit | apply blockQ.normal | apply blockQ.ret | apply blockQ.here | (apply blockQ_there; exact rfl) | apply ef_block | apply ef_skip | (apply ef_condt; exact rfl; (first | exact (rfl : true = true) | assumption | exact decide_eq_true (by omega))) | (apply ef_condf; exact rfl; (first | exact (rfl : false = false) | assumption | exact decide_eq_false (by omega))))
  (refine fin1 rfl (by exact rfl) rfl ?_)
  rw [hz, List.drop_eq_nil_of_le (by omega)]; rfl
theorem IndexHo_c (k g : Nat) (caps : List MV) (P : Ho → Bool) (zs : List Ho) (h : MHeap) {v fv : MV} (hx : zs.length ≤ 1000) (hcl : ltL 0 caps = true) (hg : ∀ z ∈ zs, ∀ h, orA k g (encHo z :: caps) h = some (Bo (P z), h)) (hv : frz 0 [] h 8 v = some (.sl (zs.map encHo))) (hf : frz 0 [] h 8 fv = some (.fn g 0 caps)) :
  orA (k + 1) 164 [v, fv] h = some (I64 (fIg P zs 0), h) :=
 callL (args' := [.sl (zs.map encHo), .fn g 0 caps]) (by simp [List.mapM_cons, hv, hf]) rfl (IndexHo_z k g caps P zs hx hcl hg)
theorem mf_HF1 : MT.mf 163 = some ⟨7, [(.tmp 4)], (.seq (.reg [gO 3 (.box 3 (.s 1)), gO 4 (.mv (cI 0))]) (.seq (.reg [gO 5 (.ld (some 3) (.s 3)), gO 6 (.call 28 [.s 5]), gO 4 (.mv (.s 6))]) .ret))⟩ := by kernel_rfl
theorem HF1_c (k : Nat) (i : Nat) (o : Ho) (h : MHeap) : orA (k + 5) 163 [I64 (i : Int), encHo o] h = some (I64 (holeE o), h) := by
 refine callL (args' := [I64 (i : Int), encHo o]) (frzL_lt rfl) rfl (runZ_of mf_HF1 (by simp) ?_)
 simp only [argsL]
 repeat (first | first | apply ef_seq | (apply ef_mv; exact rfl; exact rfl) | (apply ef_ldr; exact rfl; exact rfl; (first | exact rd_3 rfl rfl rfl | exact rfl)) | (apply ef_ldp; exact rfl; exact rfl; (first | exact rfl | assumption); exact rfl; (first | exact rfl | assumption); (first | exact rd_3 rfl rfl rfl | exact rfl)) | (apply ef_box; (iterate 4 exact rfl)) | apply ef_nil | apply seqQ.normal | apply ef_ret | apply seqQ.ret | (apply ef_call; exact rfl; ((repeat (apply XVs.cons; exact rfl)); exact XVs.nil); (with_reducible first | exact CheckHole_c k o _ rfl)))
 (refine fin1 rfl (by exact rfl) rfl ?_)
 rfl
theorem mf_HF2 : MT.mf 165 = some ⟨10, [(.tmp 4)], (.seq (.reg [gO 3 (.box 3 (.s 0)), gO 4 (.mv cF)]) (.seq (.reg [gO 5 (.ld (some 3) (.s 3)), gO 6 (.ld (some 5) (.s 1)), gO 7 (.ld (some 2) (.s 2)), gO 8 (.call 154 [.s 5, .s 6, .s 7]), gO 9 (.bin .eql (.s 8) (cI 2)), gO 4 (.mv (.s 9))]) .ret))⟩ := by kernel_rfl
theorem HF2_c (k : Nat) (o : Ho) (x : Ly) (lo hi : Int) (h : MHeap) (ho : holeE o = 0) (hx : layE x = 0) (hw : wanE lo hi = 0) : orA (k + 4) 165 [encHo o, .rp (encLy x) 0, .rp (encRg lo hi) 0] h = some (Bo (decide (ansPH o x lo hi = 2)), h) := by
 refine callL (args' := [encHo o, .rp (encLy x) 0, .rp (encRg lo hi) 0]) (frzL_lt rfl) rfl (runZ_of mf_HF2 (by simp) ?_)
 simp only [argsL]
 obtain ⟨w1, w2⟩ := wan_ok hw
 have ha := fun h => answer_c k o x lo hi h ho hx w1 w2 rfl
 generalize ansPH o x lo hi = a at *
 by_cases h2 : a = 2
 ·repeat (first | first | apply ef_seq | (apply ef_mv; exact rfl; exact rfl) | (apply ef_bin; (iterate 3 exact rfl); (first | exact cmp_t rfl (by first | exact rfl | (simp only [cmpP]; omega)) | exact cmp_f rfl (by simp only [cmpP]; omega) | exact rfl)) | (apply ef_ldr; exact rfl; exact rfl; (first | exact rd_2 rfl rfl | exact rd_3 rfl rfl rfl | exact rd_5 rfl rfl rfl rfl rfl | exact rfl)) | (apply ef_ldp; exact rfl; exact rfl; (first | exact rfl | assumption); exact rfl; (first | exact rfl | assumption); (first | exact rd_2 rfl rfl | exact rd_3 rfl rfl rfl | exact rd_5 rfl rfl rfl rfl rfl | exact rfl)) | (apply ef_box; (iterate 4 exact rfl)) | apply ef_nil | apply seqQ.normal | apply ef_ret | apply seqQ.ret | (apply ef_call; exact rfl; ((repeat (apply XVs.cons; exact rfl)); exact XVs.nil); (with_reducible first | exact ha _)))
  (refine fin1 rfl (by exact rfl) rfl ?_)
  rw [decide_eq_true h2]
 ·repeat (first | first | apply ef_seq | (apply ef_mv; exact rfl; exact rfl) | (apply ef_bin; (iterate 3 exact rfl); (first | exact cmp_t rfl (by first | exact rfl | (simp only [cmpP]; omega)) | exact cmp_f rfl (by simp only [cmpP]; omega) | exact rfl)) | (apply ef_ldr; exact rfl; exact rfl; (first | exact rd_2 rfl rfl | exact rd_3 rfl rfl rfl | exact rd_5 rfl rfl rfl rfl rfl | exact rfl)) | (apply ef_ldp; exact rfl; exact rfl; (first | exact rfl | assumption); exact rfl; (first | exact rfl | assumption); (first | exact rd_2 rfl rfl | exact rd_3 rfl rfl rfl | exact rd_5 rfl rfl rfl rfl rfl | exact rfl)) | (apply ef_box; (iterate 4 exact rfl)) | apply ef_nil | apply seqQ.normal | apply ef_ret | apply seqQ.ret | (apply ef_call; exact rfl; ((repeat (apply XVs.cons; exact rfl)); exact XVs.nil); (with_reducible first | exact ha _)))
  (refine fin1 rfl (by exact rfl) rfl ?_)
  rw [decide_eq_false h2]
def hfE (l : List Ho) (x : Ly) (lo hi : Int) : Int := firstE [(firD holeE 0 l).2, layE x, wanE lo hi]
def hfR (l : List Ho) (x : Ly) (lo hi : Int) : Int × Int :=
 if 20 < l.length then (0, 8) else if hfE l x lo hi = 0 then (if fIg (fun o => decide (ansPH o x lo hi = 2)) l 0 < 0 then (0, 12) else (fIg (fun o => decide (ansPH o x lo hi = 2)) l 0, 0)) else (0, hfE l x lo hi)
theorem mf_HoleFor : MT.mf 73 = some ⟨35, [(.tmp 6), (.tmp 7)], (.seq (.reg [gO 4 (.box 5 (.s 1)), gO 5 (.box 2 (.s 2)), gO 6 (.mv (cI 0)), gO 7 (.mv (cI 0))]) (.seq (.seq (.reg [gO 11 (.mv (.s 0)), gO 12 (.len (.s 11)), gO 13 (.bin .gtr (.s 12) (cI 20))]) (.cond (.s 13) (.seq (.reg [gO 6 (.mv (cI 0)), gO 7 (.mv (cI 8))]) .ret) .skip)) (.seq (.reg [gO 15 (.mv (.s 0)), gO 16 (.call 162 [.s 15, (.c (.fn 163 0 []))]), gO 14 (.mv (.s 16)), gO 17 (.ext (.s 14) 0), gO 18 (.ext (.s 14) 1), gO 8 (.mv (.s 17)), gO 9 (.mv (.s 18))]) (.seq (.seq (.reg [gO 19 (.mv (.s 9)), gO 20 (.ld (some 5) (.s 4)), gO 21 (.call 118 [.s 20]), gO 22 (.ld (some 2) (.s 5)), gO 23 (.call 153 [.s 22]), gO 24 (.bsl (.lit (.int .i64 0)) 1 3 [(0, (.s 19)), (1, (.s 21)), (2, (.s 23))]), gO 25 (.call 104 [.s 24]), gO 9 (.mv (.s 25))]) (.seq (.reg [gO 26 (.mv (.s 9)), gO 27 (.bin .neq (.s 26) (cI 0))]) (.cond (.s 27) (.seq (.reg [gO 28 (.mv (.s 9)), gO 6 (.mv (cI 0)), gO 7 (.mv (.s 28))]) .ret) .skip))) (.seq (.reg [gO 29 (.mv (.s 0)), gO 30 (.mf 165 0 [.s 4, .s 5]), gO 31 (.call 164 [.s 29, .s 30]), gO 10 (.mv (.s 31))]) (.seq (.seq (.reg [gO 32 (.mv (.s 10)), gO 33 (.bin .lss (.s 32) (cI 0))]) (.cond (.s 33) (.seq (.reg [gO 6 (.mv (cI 0)), gO 7 (.mv (cI 12))]) .ret) .skip)) (.seq (.reg [gO 34 (.mv (.s 10)), gO 6 (.mv (.s 34)), gO 7 (.mv (cI 0))]) .ret)))))))⟩ := by kernel_rfl
theorem HoleFor_c (k : Nat) (l : List Ho) (x : Ly) (lo hi : Int) (h : MHeap) {v : MV} (hn : l.length ≤ 100) (hb : x.b ≤ 9223372036854775807) (hd : x.d ≤ 9223372036854775807) (hv : frz 0 [] h 8 v = some (.sl (l.map encHo))) {r : Int × Int} (hr : hfR l x lo hi = r) : orA (k + 7) 73 [v, encLy x, encRg lo hi] h = some (.tup [I64 r.1, I64 r.2], h) := by
 subst hr
 refine callTT (args' := [.sl (l.map encHo), encLy x, encRg lo hi]) (by simp [List.mapM_cons, hv, frz_lt (m := encLy x) rfl, frz_lt (m := encRg lo hi) rfl]) rfl (runZ_of mf_HoleFor (by simp) ?_)
 simp only [argsL]
 have hs : (MV.sl (l.map encHo)).slen = some l.length := by simp [MV.slen]
 have h1 := fun h => eachHo_c (k + 5) 163 [] (fun _ => holeE) l h (v := .sl (l.map encHo)) (fv := .fn 163 0 []) (by omega) rfl (fun i hi h => HF1_c k i l[i] h) (frz_sl (ltL_Ho 0 l)) (by simp [frz, MV.lt, ltL])
 rw [← firD_G holeE] at h1
 have h2 := fun h => layerErr_c k x h hb hd rfl
 have h3 := fun h => wanted_c (k + 3) lo hi h
 have HR := Lib.hid (show hfR l x lo hi = if 20 < l.length then (0, 8) else if hfE l x lo hi = 0 then (if fIg (fun o => decide (ansPH o x lo hi = 2)) l 0 < 0 then (0, 12) else (fIg (fun o => decide (ansPH o x lo hi = 2)) l 0, 0)) else (0, hfE l x lo hi) from rfl)
 by_cases c1 : 20 < l.length
 ·repeat (first | apply ef_seq | (apply ef_mv; exact rfl; exact rfl) | (apply ef_bin; (iterate 3 exact rfl); (first | exact cmp_t rfl (by first | exact rfl | (simp only [cmpP]; omega)) | exact cmp_f rfl (by simp only [cmpP]; omega) | exact rfl)) | (apply ef_len; exact rfl; exact rfl; (first | assumption | exact rfl)) | (apply ef_ldr; exact rfl; exact rfl; (first | exact rd_2 rfl rfl | exact rd_5 rfl rfl rfl rfl rfl | exact rfl)) | (apply ef_ldp; exact rfl; exact rfl; (first | exact rfl | assumption); exact rfl; (first | exact rfl | assumption); (first | exact rd_2 rfl rfl | exact rd_5 rfl rfl rfl rfl rfl | exact rfl)) | (apply ef_ext; (iterate 3 exact rfl)) | (apply ef_box; (iterate 4 exact rfl)) | (apply ef_bsl; exact rfl; (repeat (apply XVs.cons; exact rfl)); exact XVs.nil; exact rfl) | (apply ef_mf; exact rfl; (repeat (apply XVs.cons; exact rfl)); exact XVs.nil) | apply ef_nil | apply seqQ.normal | apply ef_ret | apply seqQ.ret | apply ef_skip | (apply ef_condt; exact rfl; (first | exact (rfl : true = true) | assumption | exact decide_eq_true (by omega))) | (apply ef_condf; exact rfl; (first | exact (rfl : false = false) | assumption | exact decide_eq_false (by omega))))
  (refine fin2 rfl (by exact rfl) (by exact rfl) ?_)
  rw [HR.out, if_pos c1]
 ·by_cases h0 : hfE l x lo hi = 0
  ·have h0' := h0
   unfold hfE at h0'
   obtain ⟨a1, h0'⟩ := firstE_nil h0'
   obtain ⟨a2, h0'⟩ := firstE_nil h0'
   obtain ⟨a3, _⟩ := firstE_nil h0'
   have hz := firD_ok a1
   have h4 := fun M (q0 : M[0]? = some (⟨0, false, 5, [encLy x]⟩ : MObj)) (q1 : M[1]? = some (⟨0, false, 2, [encRg lo hi]⟩ : MObj)) => IndexHo_c (k + 5) 165 [.rp (encLy x) 0, .rp (encRg lo hi) 0] (fun o => decide (ansPH o x lo hi = 2)) l M (v := .sl (l.map encHo)) (fv := .fn 165 0 [.ptr 0 0 0 0, .ptr 1 0 0 0]) (by omega) rfl (fun o ho h => HF2_c (k + 1) o x lo hi h (hz o ho) a2 a3) (frz_sl (ltL_Ho 0 l)) (by simp [frz, MV.lt, ltL, q0, q1])
   have e0 := Lib.hid h0
   unfold hfE at h0
   have hno := fIg_nn (fun o => decide (ansPH o x lo hi = 2)) l 0
   generalize fIg (fun o => decide (ansPH o x lo hi = 2)) l 0 = q at *
   by_cases hq : q < 0
   ·repeat (first | first | apply ef_seq | (apply ef_mv; exact rfl; exact rfl) | (apply ef_bin; (iterate 3 exact rfl); (first | exact cmp_t rfl (by first | exact rfl | (simp only [cmpP]; omega)) | exact cmp_f rfl (by simp only [cmpP]; omega) | exact rfl)) | (apply ef_len; exact rfl; exact rfl; (first | assumption | exact rfl)) | (apply ef_ldr; exact rfl; exact rfl; (first | exact rd_2 rfl rfl | exact rd_5 rfl rfl rfl rfl rfl | exact rfl)) | (apply ef_ldp; exact rfl; exact rfl; (first | exact rfl | assumption); exact rfl; (first | exact rfl | assumption); (first | exact rd_2 rfl rfl | exact rd_5 rfl rfl rfl rfl rfl | exact rfl)) | (apply ef_ext; (iterate 3 exact rfl)) | (apply ef_box; (iterate 4 exact rfl)) | (apply ef_bsl; exact rfl; (repeat (apply XVs.cons; exact rfl)); exact XVs.nil; exact rfl) | (apply ef_mf; exact rfl; (repeat (apply XVs.cons; exact rfl)); exact XVs.nil) | apply ef_nil | apply seqQ.normal | apply ef_ret | apply seqQ.ret | apply ef_skip | (apply ef_condt; exact rfl; (first | exact (rfl : true = true) | assumption | exact decide_eq_true (by omega))) | (apply ef_condf; exact rfl; (first | exact (rfl : false = false) | assumption | exact decide_eq_false (by omega))) | (apply ef_call; exact rfl; ((repeat (apply XVs.cons; exact rfl)); exact XVs.nil); (with_reducible first | exact h1 _ | exact h2 _ | exact h3 _)) | (apply ef_call; exact rfl; ((repeat (apply XVs.cons; exact rfl)); exact XVs.nil); (with_reducible apply first3_c); (iterate 3 exact rfl); (first | assumption | exact rfl)))
    (apply ef_call; (· exact rfl); (· ((repeat (apply XVs.cons; exact rfl)); exact XVs.nil)); · exact h4 _ rfl rfl)
    repeat (first | apply ef_seq | (apply ef_mv; exact rfl; exact rfl) | (apply ef_bin; (iterate 3 exact rfl); (first | exact cmp_t rfl (by first | exact rfl | (simp only [cmpP]; omega)) | exact cmp_f rfl (by simp only [cmpP]; omega) | exact rfl)) | (apply ef_len; exact rfl; exact rfl; (first | assumption | exact rfl)) | (apply ef_ldr; exact rfl; exact rfl; (first | exact rd_2 rfl rfl | exact rd_5 rfl rfl rfl rfl rfl | exact rfl)) | (apply ef_ldp; exact rfl; exact rfl; (first | exact rfl | assumption); exact rfl; (first | exact rfl | assumption); (first | exact rd_2 rfl rfl | exact rd_5 rfl rfl rfl rfl rfl | exact rfl)) | (apply ef_ext; (iterate 3 exact rfl)) | (apply ef_box; (iterate 4 exact rfl)) | (apply ef_bsl; exact rfl; (repeat (apply XVs.cons; exact rfl)); exact XVs.nil; exact rfl) | (apply ef_mf; exact rfl; (repeat (apply XVs.cons; exact rfl)); exact XVs.nil) | apply ef_nil | apply seqQ.normal | apply ef_ret | apply seqQ.ret | apply ef_skip | (apply ef_condt; exact rfl; (first | exact (rfl : true = true) | assumption | exact decide_eq_true (by omega))) | (apply ef_condf; exact rfl; (first | exact (rfl : false = false) | assumption | exact decide_eq_false (by omega))))
    (refine fin2 rfl (by exact rfl) (by exact rfl) ?_)
    rw [HR.out, if_neg c1, if_pos e0.out, if_pos hq]
   ·repeat (first | first | apply ef_seq | (apply ef_mv; exact rfl; exact rfl) | (apply ef_bin; (iterate 3 exact rfl); (first | exact cmp_t rfl (by first | exact rfl | (simp only [cmpP]; omega)) | exact cmp_f rfl (by simp only [cmpP]; omega) | exact rfl)) | (apply ef_len; exact rfl; exact rfl; (first | assumption | exact rfl)) | (apply ef_ldr; exact rfl; exact rfl; (first | exact rd_2 rfl rfl | exact rd_5 rfl rfl rfl rfl rfl | exact rfl)) | (apply ef_ldp; exact rfl; exact rfl; (first | exact rfl | assumption); exact rfl; (first | exact rfl | assumption); (first | exact rd_2 rfl rfl | exact rd_5 rfl rfl rfl rfl rfl | exact rfl)) | (apply ef_ext; (iterate 3 exact rfl)) | (apply ef_box; (iterate 4 exact rfl)) | (apply ef_bsl; exact rfl; (repeat (apply XVs.cons; exact rfl)); exact XVs.nil; exact rfl) | (apply ef_mf; exact rfl; (repeat (apply XVs.cons; exact rfl)); exact XVs.nil) | apply ef_nil | apply seqQ.normal | apply ef_ret | apply seqQ.ret | apply ef_skip | (apply ef_condt; exact rfl; (first | exact (rfl : true = true) | assumption | exact decide_eq_true (by omega))) | (apply ef_condf; exact rfl; (first | exact (rfl : false = false) | assumption | exact decide_eq_false (by omega))) | (apply ef_call; exact rfl; ((repeat (apply XVs.cons; exact rfl)); exact XVs.nil); (with_reducible first | exact h1 _ | exact h2 _ | exact h3 _)) | (apply ef_call; exact rfl; ((repeat (apply XVs.cons; exact rfl)); exact XVs.nil); (with_reducible apply first3_c); (iterate 3 exact rfl); (first | assumption | exact rfl)))
    (apply ef_call; (· exact rfl); (· ((repeat (apply XVs.cons; exact rfl)); exact XVs.nil)); · exact h4 _ rfl rfl)
    repeat (first | apply ef_seq | (apply ef_mv; exact rfl; exact rfl) | (apply ef_bin; (iterate 3 exact rfl); (first | exact cmp_t rfl (by first | exact rfl | (simp only [cmpP]; omega)) | exact cmp_f rfl (by simp only [cmpP]; omega) | exact rfl)) | (apply ef_len; exact rfl; exact rfl; (first | assumption | exact rfl)) | (apply ef_ldr; exact rfl; exact rfl; (first | exact rd_2 rfl rfl | exact rd_5 rfl rfl rfl rfl rfl | exact rfl)) | (apply ef_ldp; exact rfl; exact rfl; (first | exact rfl | assumption); exact rfl; (first | exact rfl | assumption); (first | exact rd_2 rfl rfl | exact rd_5 rfl rfl rfl rfl rfl | exact rfl)) | (apply ef_ext; (iterate 3 exact rfl)) | (apply ef_box; (iterate 4 exact rfl)) | (apply ef_bsl; exact rfl; (repeat (apply XVs.cons; exact rfl)); exact XVs.nil; exact rfl) | (apply ef_mf; exact rfl; (repeat (apply XVs.cons; exact rfl)); exact XVs.nil) | apply ef_nil | apply seqQ.normal | apply ef_ret | apply seqQ.ret | apply ef_skip | (apply ef_condt; exact rfl; (first | exact (rfl : true = true) | assumption | exact decide_eq_true (by omega))) | (apply ef_condf; exact rfl; (first | exact (rfl : false = false) | assumption | exact decide_eq_false (by omega))))
    (refine fin2 rfl (by exact rfl) (by exact rfl) ?_)
    rw [HR.out, if_neg c1, if_pos e0.out, if_neg hq]
  ·have e0 := Lib.hid h0
   unfold hfE at h0
   repeat (first | first | apply ef_seq | (apply ef_mv; exact rfl; exact rfl) | (apply ef_bin; (iterate 3 exact rfl); (first | exact cmp_t rfl (by first | exact rfl | (simp only [cmpP]; omega)) | exact cmp_f rfl (by simp only [cmpP]; omega) | exact rfl)) | (apply ef_len; exact rfl; exact rfl; (first | assumption | exact rfl)) | (apply ef_ldr; exact rfl; exact rfl; (first | exact rd_2 rfl rfl | exact rd_5 rfl rfl rfl rfl rfl | exact rfl)) | (apply ef_ldp; exact rfl; exact rfl; (first | exact rfl | assumption); exact rfl; (first | exact rfl | assumption); (first | exact rd_2 rfl rfl | exact rd_5 rfl rfl rfl rfl rfl | exact rfl)) | (apply ef_ext; (iterate 3 exact rfl)) | (apply ef_box; (iterate 4 exact rfl)) | (apply ef_bsl; exact rfl; (repeat (apply XVs.cons; exact rfl)); exact XVs.nil; exact rfl) | (apply ef_mf; exact rfl; (repeat (apply XVs.cons; exact rfl)); exact XVs.nil) | apply ef_nil | apply seqQ.normal | apply ef_ret | apply seqQ.ret | apply ef_skip | (apply ef_condt; exact rfl; (first | exact (rfl : true = true) | assumption | exact decide_eq_true (by omega))) | (apply ef_condf; exact rfl; (first | exact (rfl : false = false) | assumption | exact decide_eq_false (by omega))) | (apply ef_call; exact rfl; ((repeat (apply XVs.cons; exact rfl)); exact XVs.nil); (with_reducible first | exact h1 _ | exact h2 _ | exact h3 _)) | (apply ef_call; exact rfl; ((repeat (apply XVs.cons; exact rfl)); exact XVs.nil); (with_reducible apply first3_c); (iterate 3 exact rfl); (first | assumption | exact rfl)))
   (refine fin2 rfl (by exact rfl) (by exact rfl) ?_)
   rw [HR.out, if_neg c1, if_neg e0.out]; rfl
end Go.Proofs.YtnmgpbihknjdjaaGreatDoor

/- Contracts: the numbers of a set; the program. -/
namespace Go.Proofs.YtnmgpbihknjdjaaGreatDoor
open Go.RowKit Go.Lib
set_option linter.unusedVariables false
set_option linter.unusedSimpArgs false
theorem frz_row {h : MHeap} {id k g : Nat} {o : MObj} {es : List MV} (ho : h[id]? = some o) (hg : o.g = g) (hk : k = es.length) (hl : ltL 0 es = true) (he : o.es = es) : frz 0 [] h 8 (.arr id 0 k g) = some (.sl es) := by
 subst he hk
 exact frz_arr ho hg (by simp) hl (by simp)
end Go.Proofs.YtnmgpbihknjdjaaGreatDoor

/- The examples: closed calls. -/
namespace Go.Proofs.YtnmgpbihknjdjaaGreatDoor
open Go.RowKit
theorem items_z (k : Nat) : runZ MT (orA k) (itA k) 4000000 94 [] [] = some (.arr 0 0 3 0, [⟨0, false, 3, itemE⟩]) := by kernel_rfl
theorem hole_z (k : Nat) : runZ MT (orA k) (itA k) 4000000 95 [] [] = some (holeX, []) := by kernel_rfl
theorem cal_z (k : Nat) : runZ MT (orA k) (itA k) 4000000 98 [] [] = some (.arr 0 0 3 0, [⟨0, false, 3, calE⟩]) := by kernel_rfl
theorem best_f : runFf (orL tA mfW 4000000 12) noI 4000000 mfW_l20 [itemX, I64 8] [] = some (.tup [.arr 0 0 2 0, I64 16, I64 0], [⟨0, false, 1, [I64 0, I64 2]⟩]) := by kernel_rfl
theorem cuts_f : runFf (orL tA mfW 4000000 12) noI 4000000 mfW_l26 [holeX, layX] [] = some (.tup [.agg [I64 80, I64 1, I64 400, I64 3], I64 0], []) := by kernel_rfl
theorem price_f : runFf (orL tA mfW 4000000 12) noI 4000000 mfW_l35 [itemX, I64 8] [] = some (.tup [.agg [I64 7, I64 4], I64 0], []) := by kernel_rfl
theorem early_f : runFf (orL tA mfW 4000000 12) noI 4000000 mfW_l49 [calX, I64 355, I64 10] [] = some (.tup [I64 376, I64 0], []) := by kernel_rfl
end Go.Proofs.YtnmgpbihknjdjaaGreatDoor

/- Chapter 9: the first body. -/
namespace Go.Proofs.YtnmgpbihknjdjaaGreatDoor
open Go.RowKit
set_option linter.unusedVariables false
def pickB (R C : List (Int × Int)) (w : List Nat) (i : Nat) : Option Nat := (rowSets C.length (R.getD i (0, 0)).1 (R.getD i (0, 0)).2).find? fun s => possB R C (prefP (w ++ [s]))
def bodyB (R C : List (Int × Int)) : Nat → List Nat
 | 0 => []
 | i + 1 => bodyB R C i ++ [(pickB R C (bodyB R C i) i).getD 0]
theorem bodyB_len (R C : List (Int × Int)) : ∀ i, (bodyB R C i).length = i
 | 0 => rfl
 | i + 1 => by simp [bodyB, bodyB_len R C i]
theorem natL_pure : ∀ w : List Nat, pureL (natL w) = true
 | [] => rfl
 | s :: w => by
  show (true && pureL (natL w)) = true
  rw [natL_pure w]; rfl
inductive RowAt (M : MHeap) : MV → List Nat → Prop
 | none : RowAt M (.lit (.slice none 0 0)) []
 | some (id g : Nat) (w : List Nat) : w ≠ [] → M[id]? = some ⟨g, false, 1, natL w⟩ → RowAt M (.arr id 0 w.length g) w
theorem clone_c (k : Nat) {M : MHeap} {v : MV} {w : List Nat} (hv : RowAt M v w) (hl : w.length ≤ 1000) : orA (k + 1) 148 [v] M = some (.arr M.length 0 w.length 0, M ++ [⟨0, w.isEmpty, 1, natL w⟩]) := by
 cases hv with
 | none =>
  have hz : runZ MT (orA k) (itA k) 4000000 148 [.lit (.slice none 0 0)] [] = some (.arr 0 0 0 0, [⟨0, true, 1, []⟩]) := by kernel_rfl
  have := callA (k := k) (h := M) (args := [.lit (.slice none 0 0)]) (args' := [.lit (.slice none 0 0)]) rfl rfl hz rfl rfl
  simpa [shV, sh1] using this
 | some id g w hne hM =>
  obtain ⟨s, w', rfl⟩ : ∃ s w', w = s :: w' := by
   cases w with
   | nil => exact absurd rfl hne
   | cons s w' => exact ⟨s, w', rfl⟩
  have hf : [MV.arr id 0 (s :: w').length g].mapM (frz 0 [] M 8) = some [.sl (natL (s :: w'))] := by
   have h1 : frz 0 [] M 8 (.arr id 0 (s :: w').length g) = some (.sl (natL (s :: w'))) := by
    have h2 := natL_lt 0 (s :: w')
    have h3 : ((natL (s :: w')).drop 0).take (s :: w').length = natL (s :: w') := by rw [List.drop_zero, List.take_of_length_le (by simp)]
    simp only [frz, MV.lt, Nat.not_lt_zero, decide_false, Bool.false_eq_true, if_false, List.contains_nil, hM, List.length_map, Nat.zero_add, Nat.le_refl, and_self, if_true, h2, h3]
   simp only [List.mapM_cons, List.mapM_nil, h1]; rfl
  have := callA (k := k) (h := M) hf rfl (clone_z k s w' hl) rfl (by have h2 := natL_lt 0 (s :: w'); simp only [okH, List.all_cons, List.all_nil, Bool.and_true, h2, Bool.true_and]; rw [Bool.or_eq_true]; exact .inr (natL_pure _))
  simpa [shV, sh1] using this
def tryM (M : MHeap) (w : List Nat) (s : Nat) : MHeap := M ++ [⟨1, false, 1, natL (w ++ [s])⟩, ⟨0, false, 1, [I64 s]⟩, ⟨0, false, 1, [.arr M.length 0 (w.length + 1) 1]⟩]
theorem tryM_0 (M : MHeap) (w : List Nat) (s : Nat) : (tryM M w s)[M.length]? = some ⟨1, false, 1, natL (w ++ [s])⟩ := by
 unfold tryM; rw [List.getElem?_append_right (Nat.le_refl _)]; simp
theorem tryM_2 (M : MHeap) (w : List Nat) (s : Nat) : (tryM M w s)[M.length + 2]? = some ⟨0, false, 1, [.arr M.length 0 (w.length + 1) 1]⟩ := by
 unfold tryM; rw [List.getElem?_append_right (by omega)]; simp
theorem tryM_at {M : MHeap} {w : List Nat} {s i : Nat} {o : MObj} (h : M[i]? = some o) : (tryM M w s)[i]? = some o := by
 unfold tryM; rw [List.getElem?_append_left (List.getElem?_eq_some_iff.1 h).1, h]
theorem tryM_cl {M : MHeap} (w : List Nat) (s : Nat) (hc : hltL M.length M = true) : hltL (M.length + 3) (tryM M w s) = true := by
 have h1 := hltL_le (show M.length ≤ M.length + 3 by omega) hc
 unfold tryM hltL at *
 rw [List.all_append, h1]
 simp only [List.all_cons, List.all_nil, ltL, MV.lt, natL_lt, Bool.and_true, Bool.true_and, decide_eq_true_eq]
 omega
theorem frz_try (M : MHeap) (w : List Nat) (s g : Nat) (R C : List (Int × Int)) : [encS R C, .fn g 0 [.ptr (M.length + 2) 0 0 0]].mapM (frz 0 [] (tryM M w s) 8) = some [encS R C, .fn g 0 [.rp (.sl (natL (w ++ [s]))) 0]] := by
 have h0 := encS_lt 0 R C
 have h2 := natL_lt 0 (w ++ [s])
 have h3 : ((natL (w ++ [s])).drop 0).take (w.length + 1) = natL (w ++ [s]) := by rw [List.drop_zero, List.take_of_length_le (by simp)]
 have hl : 0 + (w.length + 1) ≤ (natL (w ++ [s])).length := by simp
 have e0 : frz 0 [] (tryM M w s) 8 (encS R C) = some (encS R C) := frz_lt h0
 have e1 : frz 0 [] (tryM M w s) 6 (.arr M.length 0 (w.length + 1) 1) = some (.sl (natL (w ++ [s]))) := by
  simp only [frz, MV.lt, Nat.not_lt_zero, decide_false, Bool.false_eq_true, if_false, List.contains_nil, tryM_0, hl, and_self, if_true, h2, h3]
 have e2 : frz 0 [] (tryM M w s) 7 (.ptr (M.length + 2) 0 0 0) = some (.rp (.sl (natL (w ++ [s]))) 0) := by
  have e3 : frz 0 [] (tryM M w s) 7 (.ptr (M.length + 2) 0 0 0) = (match (tryM M w s)[M.length + 2]? with
   | some o => if o.g = 0 then match o.es[0]? with
     | some e => if e.lt 0 then some (.rp e 0) else (frz 0 [] (tryM M w s) 6 e).map fun e' => .rp e' 0
     | none => none
    else none
   | none => none) := rfl
  rw [e3, tryM_2]
  simp only [if_true, List.getElem?_cons_zero]
  have e4 : (MV.arr M.length 0 (w.length + 1) 1).lt 0 = false := by simp [MV.lt]
  rw [e4, e1]; rfl
 have e5 : frz 0 [] (tryM M w s) 8 (.fn g 0 [.ptr (M.length + 2) 0 0 0]) = some (.fn g 0 [.rp (.sl (natL (w ++ [s]))) 0]) := by
  have e6 : frz 0 [] (tryM M w s) 8 (.fn g 0 [.ptr (M.length + 2) 0 0 0]) = ([MV.ptr (M.length + 2) 0 0 0].mapM (frz 0 [] (tryM M w s) 7)).map (.fn g 0) := rfl
  rw [e6]
  simp only [List.mapM_cons, List.mapM_nil, e2]; rfl
 simp only [List.mapM_cons, List.mapM_nil, e0, e5]; rfl
structure StB (R C : List (Int × Int)) (w : List Nat) (M : MHeap) : Prop where
 m0 : M[0]? = some ⟨0, false, 2, [encS R C]⟩
 m1 : M[2]? = some ⟨0, false, 2, [encS R C]⟩
 m2 : ∃ v, M[3]? = some ⟨0, false, 1, [v]⟩ ∧ RowAt M v w
 cl : hltL M.length M = true
theorem mf_body : MT.mf 62 = some ⟨39, [(.tmp 2), (.tmp 3)], (.seq (.reg [gO 1 (.box 2 (.s 0)), gO 2 (.nil0 1), gO 3 (.mv (cI 0))]) (.seq (.reg [gO 11 (.ld (some 2) (.s 1)), gO 12 (.call 146 [.s 11]), gO 10 (.mv (.s 12)), gO 13 (.ext (.s 10) 0), gO 14 (.ext (.s 10) 1), gO 4 (.new (.agg [(.lit (.slice none 0 0)), (.lit (.slice none 0 0))])), ⟨none, none, .st 2 (.s 4) (.s 13)⟩, gO 5 (.mv (.s 14))]) (.seq (.seq (.reg [gO 15 (.mv (.s 5)), gO 16 (.bin .neq (.s 15) (cI 0))]) (.cond (.s 16) (.seq (.reg [gO 17 (.mv (.s 5)), gO 2 (.nil0 1), gO 3 (.mv (.s 17))]) .ret) .skip)) (.seq (.reg [gO 6 (.new (.lit (.slice none 0 0)))]) (.seq (.seq (.reg [gO 18 (.fa 0 (.s 1)), gO 19 (.ld none (.s 18)), gO 20 (.len (.s 19)), gO 21 (.mv (cI 0))]) (.block 0 (.loop [21, 20, 4, 6] (.seq (.reg [gO 22 (.bin .lss (.s 21) (.s 20))]) (.seq (.cond (.s 22) .skip (.exit 0)) (.seq (.block 1 (.seq (.reg [gO 23 (.mv (.s 21)), gO 7 (.mv (.s 23))]) (.seq (.reg [gO 24 (.ld (some 2) (.s 4)), gO 25 (.mv (.s 7)), gO 26 (.call 147 [.s 24, .s 25])]) (.block 2 (.rf [6, 4] (.s 26) [27] (.reg [gO 8 (.mv (.s 27))]) (.block 3 (.seq (.reg [gO 28 (.ld none (.s 6)), gO 29 (.call 148 [.s 28]), gO 30 (.mv (.s 8)), gO 31 (.bsl (.lit (.int .i64 0)) 1 1 [(0, (.s 30))]), gO 32 (.app 1 (.s 29) (.s 31)), gO 9 (.new (.lit (.slice none 0 0))), ⟨none, none, .st 1 (.s 9) (.s 32)⟩]) (.seq (.reg [gO 33 (.ld (some 2) (.s 4)), gO 34 (.mf 150 0 [.s 9]), gO 35 (.call 149 [.s 33, .s 34])]) (.cond (.s 35) (.seq (.reg [gO 36 (.ld none (.s 9)), ⟨none, none, .st 1 (.s 6) (.s 36)⟩]) (.exit 2)) .skip))))))))) (.reg [gO 37 (.bin .add (.s 21) (cI 1)), gO 21 (.mv (.s 37))]))))))) (.seq (.reg [gO 38 (.ld none (.s 6)), gO 2 (.mv (.s 38)), gO 3 (.mv (cI 0))]) .ret))))))⟩ := by kernel_rfl
set_option maxHeartbeats 4000000 in
theorem body_z (k : Nat) (R C : List (Int × Int)) (hR : R.length ≤ 5) (hC : C.length ≤ 5) (hop : ∀ h, orA (k + 7) 146 [encS R C] h = some (.tup [encS R C, I64 0], h)) (hpk : ∀ i, i < R.length → (pickB R C (bodyB R C i) i).isSome = true) (hne : 0 < R.length) :
  runZ MT (orA (k + 7)) (itA (k + 7)) 4000000 62 [encS R C] [] = some (.tup [.arr 0 0 R.length 0, I64 0], [⟨0, false, 1, natL (bodyB R C R.length)⟩]) := by
 refine runZ_of mf_body (by simp) ?_
 simp only [argsL]
 have hrl : (MV.sl (R.map encP)).slen = some R.length := by simp [MV.slen]
 repeat (first | apply ef_seq | (apply ef_mv; exact rfl; exact rfl) | (apply ef_bin; (iterate 3 exact rfl); (exact cmp_f rfl (by simp only [cmpP]; omega))) | (apply ef_len; exact rfl; exact rfl; (assumption)) | (apply ef_ldp; exact rfl; exact rfl; (exact rfl); exact rfl; (exact rfl); (first | exact rd_2 rfl rfl | exact rfl)) | (apply ef_fap; exact rfl; exact rfl) | (apply ef_ext; (iterate 3 exact rfl)) | (apply ef_box; (iterate 4 exact rfl)) | (apply ef_newst; (iterate 3 exact rfl); (exact rfl); exact rfl) | (apply ef_new; exact rfl) | (apply ef_nil0; exact rfl) | apply ef_nil | apply seqQ.normal | apply ef_block | apply ef_skip | (apply ef_condf; exact rfl; (exact (rfl : false = false))) | (apply ef_call; exact rfl; ((repeat (apply XVs.cons; exact rfl)); exact XVs.nil); (with_reducible exact hop _)))
 refine ef_loopg (α := Nat × MHeap) (fun a => a.1 ≤ R.length ∧ StB R C (bodyB R C a.1) a.2 ∧ 4 ≤ a.2.length ∧ (a.1 ≠ 0 → ∃ id n g, a.2[3]? = some ⟨0, false, 1, [.arr id 0 n g]⟩ ∧ 4 ≤ id)) (fun a => [(21, I64 (a.1 : Int))]) [(20, I64 (R.length : Int)), (4, .ptr 2 0 0 0), (6, .ptr 3 0 0 0)] (fun a => a.2) (fun a => R.length - a.1)
  (0, [⟨0, false, 2, [encS R C]⟩, ⟨0, true, 1, []⟩, ⟨0, false, 2, [encS R C]⟩, ⟨0, false, 1, [.lit (.slice none 0 0)]⟩]) [21] (fun _ => rfl) (by ((repeat (refine Hold.cons (by exact rfl) ?_)); exact Hold.nil)) (by ((repeat (refine Hold.cons (by exact rfl) ?_)); exact Hold.nil)) rfl rfl rfl ?_ (by simp; omega) ?_
 ·refine ⟨Nat.zero_le _, ⟨rfl, rfl, ⟨_, rfl, .none⟩, ?_⟩, by simp, fun h => absurd rfl h⟩
  have h1 := encS_lt 4 R C
  simp only [hltL, List.all_cons, List.all_nil, ltL, h1, Bool.and_true, Bool.true_and, List.length_cons, List.length_nil]
  rfl
 rintro ⟨i, M⟩ ⟨hi, hI, hlen, hbig⟩
 obtain ⟨m0, m1, ⟨v, m2, hv⟩, hcl⟩ := hI
 by_cases hi2 : i < R.length
 ·have hp := hpk i hi2
  obtain ⟨r, hr⟩ : ∃ r, R[i]? = some r := ⟨R[i], by simp [hi2]⟩
  have hrd : R.getD i (0, 0) = r := by rw [List.getD_eq_getElem?_getD, hr]; rfl
  have hwl := bodyB_len R C i
  have hnext : bodyB R C (i + 1) = bodyB R C i ++ [(pickB R C (bodyB R C i) i).getD 0] := rfl
  generalize bodyB R C i = w at *
  obtain ⟨pk, hpk2⟩ := Option.isSome_iff_exists.1 hp
  rw [hpk2, Option.getD_some] at hnext
  unfold pickB at hpk2
  rw [hrd] at hpk2
  repeat (first | apply ef_seq | (apply ef_mv; exact rfl; exact rfl) | (apply ef_bin; (iterate 3 exact rfl); (exact cmp_t rfl (by first | exact rfl | (simp only [cmpP]; omega)))) | (apply ef_ldp; exact rfl; exact rfl; (assumption); exact rfl; (exact rfl); (exact rd_2 rfl rfl)) | apply ef_nil | apply seqQ.normal | apply ef_block | apply ef_skip | (apply ef_condt; exact rfl; (exact (rfl : true = true))) | (apply ef_call; exact rfl; ((repeat (apply XVs.cons; exact rfl)); exact XVs.nil); (with_reducible exact rows_c (k + 6) R C i _)))
  refine ef_rf (α := MHeap) (ids := []) (fun j Y => ∀ s ∈ (rowSets C.length r.1 r.2).take j, possB R C (prefP (w ++ [s])) = false) [(6, .ptr 3 0 0 0), (4, .ptr 2 0 0 0)] (fun Y => M ++ Y) (fun _ => M) [] (by exact rfl) (rows1_it (k + 5) R C i r hC hr _) (by simp)
   (idsL_lt0 (by have h1 := encS_lt 0 R C; show ((encS R C).lt 0 && ((I64 i).lt 0 && true)) = true; rw [h1]; rfl)) (by ((repeat (refine Hold.cons (by exact rfl) ?_)); exact Hold.nil)) rfl rfl rfl (fun s hs => by simp at hs) (by simp) (fun j Y _ => ?_) ?_ ?_
  ·have h1 : HeadIs [6, 4] M.length ((26, rowsF R C i) :: (25, I64 i) :: (24, encS R C) :: (7, I64 i) :: (23, I64 i) :: (22, .lit (.bool true)) :: ([(21, I64 i)] ++ [(20, I64 R.length), (4, .ptr 2 0 0 0), (6, .ptr 3 0 0 0)])) (M ++ Y) ((M ++ Y).take M.length) := .cut (fun t ht => by
    simp only [List.mem_cons, List.not_mem_nil, or_false] at ht
    rcases ht with rfl | rfl
    ·exact ⟨_, rfl, by simp only [MV.lt, decide_eq_true_eq]; simp only at hlen; omega⟩
    ·exact ⟨_, rfl, by simp only [MV.lt, decide_eq_true_eq]; simp only at hlen; omega⟩) (by rw [List.take_left]; exact hcl)
   rw [List.take_left] at h1
   exact h1
  ·intro j Y x hx hno
   simp only [List.getElem?_map, Option.map_eq_some_iff] at hx
   obtain ⟨s, hs, rfl⟩ := hx
   obtain ⟨o1, ho1⟩ : ∃ o1 : MObj, o1 = ⟨0, w.isEmpty, 1, natL w⟩ := ⟨_, rfl⟩
   have hcl2 := clone_c (k + 6) hv (by simp only at hi; omega)
   rw [← ho1] at hcl2
   show Ef _ _ _ _ _ _ ((27, I64 s) :: [(6, .ptr 3 0 0 0), (4, .ptr 2 0 0 0)]) _ _
   simp only at m0 m1 m2 ⊢
   have hrv : rdCells v.cells 0 none = some v := by cases hv <;> rfl
   repeat (first | (apply ef_mv; exact rfl; exact rfl) | apply ef_nil)
   apply preQ.normal
   repeat (first | apply ef_seq | apply ef_block)
   (apply ef_ldp; (· exact rfl); (· exact rfl); (· exact m2); (· exact rfl); (· exact rfl); (· exact hrv))
   (apply ef_call; (· exact rfl); (· ((repeat (apply XVs.cons; exact rfl)); exact XVs.nil)); · exact hcl2)
   repeat (first | (apply ef_mv; exact rfl; exact rfl) | (apply ef_bsl; exact rfl; (repeat (apply XVs.cons; exact rfl)); exact XVs.nil; exact rfl))
   subst ho1
   have q1 : (M ++ [(⟨0, w.isEmpty, 1, natL w⟩ : MObj)] ++ [(⟨0, false, 1, [I64 s]⟩ : MObj)])[M.length]? = some ⟨0, w.isEmpty, 1, natL w⟩ := by
    rw [List.append_assoc, List.getElem?_append_right (Nat.le_refl _)]; simp
   have q2 : (MV.arr (M ++ [(⟨0, w.isEmpty, 1, natL w⟩ : MObj)]).length 0 1 0).elems (M ++ [(⟨0, w.isEmpty, 1, natL w⟩ : MObj)] ++ [(⟨0, false, 1, [I64 s]⟩ : MObj)]) = some [I64 s] := by
    simp only [MV.elems, at_endC]; rfl
   have q3 : (M ++ [(⟨0, w.isEmpty, 1, natL w⟩ : MObj)] ++ [(⟨0, false, 1, [I64 s]⟩ : MObj)]).set M.length ⟨1, false, 1, (natL w).drop 0 ++ [I64 s]⟩ = M ++ [⟨1, false, 1, natL (w ++ [s])⟩, ⟨0, false, 1, [I64 s]⟩] := by
    rw [List.append_assoc, List.set_append_right _ _ (Nat.le_refl _)]
    simp
   refine ef_app (ht := by exact rfl) (by exact rfl) (by exact rfl) q2 q1 rfl (by simp) rfl (by simp; simp only at hi; omega) rfl rfl ?_
   show Ef _ _ _ _ _ _ _ ((M ++ [(⟨0, w.isEmpty, 1, natL w⟩ : MObj)] ++ [(⟨0, false, 1, [I64 s]⟩ : MObj)]).set M.length ⟨1, false, 1, (natL w).drop 0 ++ [I64 s]⟩) _
   rw [q3]
   repeat (first | apply ef_seq | (apply ef_newst; (iterate 3 exact rfl); (exact rfl); exact rfl) | apply ef_nil | apply seqQ.normal)
   have q4 : M ++ [(⟨1, false, 1, natL (w ++ [s])⟩ : MObj), ⟨0, false, 1, [I64 s]⟩] ++ [(⟨0, false, 1, [.arr M.length 0 (w.length + 1) 1]⟩ : MObj)] = tryM M w s := by unfold tryM; simp
   have q5 : (M ++ [(⟨1, false, 1, natL (w ++ [s])⟩ : MObj), ⟨0, false, 1, [I64 s]⟩]).length = M.length + 2 := by simp
   rw [q5]
   show Ef _ _ _ _ _ _ _ (M ++ [(⟨1, false, 1, natL (w ++ [s])⟩ : MObj), ⟨0, false, 1, [I64 s]⟩] ++ [(⟨0, false, 1, [.arr M.length 0 (w.length + 1) 1]⟩ : MObj)]) _
   rw [q4]
   have t1 : (tryM M w s)[2]? = some ⟨0, false, 2, [encS R C]⟩ := tryM_at m1
   have t2 := tryM_2 M w s
   have t3 : (tryM M w s)[3]? = some ⟨0, false, 1, [v]⟩ := tryM_at m2
   have hpos := possible_f (k + 1) R C _ (prefP (w ++ [s])) hR hC (may_pre (k + 4) (w ++ [s]) _ hR) (frz_try M w s 150 R C)
   repeat (first | (apply ef_ldp; exact rfl; exact rfl; (assumption); exact rfl; (exact rfl); (exact rd_2 rfl rfl)) | (apply ef_mf; exact rfl; (repeat (apply XVs.cons; exact rfl)); exact XVs.nil))
   (apply ef_call; (· exact rfl); (· ((repeat (apply XVs.cons; exact rfl)); exact XVs.nil)); · exact hpos)
   cases hP : possB R C (prefP (w ++ [s]))
   ·repeat (first | apply ef_nil | apply seqQ.normal | apply blockQ.normal | apply ef_skip | (apply ef_condf; exact rfl; (exact (rfl : false = false))))
    refine rfQ.normal _ _ ⟨[⟨1, false, 1, natL (w ++ [s])⟩, ⟨0, false, 1, [I64 s]⟩, ⟨0, false, 1, [.arr M.length 0 (w.length + 1) 1]⟩], fun s' hs' => ?_, rfl⟩
    rw [List.take_add_one, hs] at hs'
    rcases List.mem_append.1 hs' with h1 | h1
    ·exact hno s' h1
    ·simp at h1; rw [h1]; exact hP
   ·have hsp : pk = s := by
     have h1 : rowSets C.length r.1 r.2 = (rowSets C.length r.1 r.2).take j ++ s :: (rowSets C.length r.1 r.2).drop (j + 1) := by
      have h2 := List.getElem?_eq_some_iff.1 hs
      obtain ⟨h3, h4⟩ := h2
      rw [← h4, ← List.drop_eq_getElem_cons h3, List.take_append_drop]
     rw [h1, List.find?_append] at hpk2
     have h5 : ((rowSets C.length r.1 r.2).take j).find? (fun s => possB R C (prefP (w ++ [s]))) = none := by
      rw [List.find?_eq_none]
      intro x hx
      rw [hno x hx]; simp
     rw [h5, Option.none_or, List.find?_cons_of_pos (by exact hP)] at hpk2
     exact (Option.some.inj hpk2).symm
    subst hsp
    repeat (first | apply ef_seq | (apply ef_ldp; exact rfl; exact rfl; (assumption); exact rfl; (exact rfl); (exact rfl)) | apply ef_nil | apply seqQ.normal | (apply ef_condt; exact rfl; (exact (rfl : true = true))))
    have hwr : wrElem v 0 (.arr M.length 0 (w.length + 1) 1) = some (.arr M.length 0 (w.length + 1) 1) := by cases hv <;> rfl
    (apply ef_st; (· exact rfl); (· exact rfl); (· exact rfl); (· exact t3); (· exact rfl); (· exact rfl); (· exact rfl); (· exact hwr))
    repeat (first | apply ef_nil | apply seqQ.normal | apply ef_exit | (apply blockQ_there; exact rfl))
    apply rfQ.exit
    repeat (first | (apply ef_mv; exact rfl; exact rfl) | (apply ef_bin; (iterate 3 exact rfl); (((with_reducible refine bin_add (wrap_of ?_ ?_)) <;> omega))) | apply ef_nil | apply seqQ.normal | apply blockQ.normal | apply blockQ.here)
    simp only at hlen hi
    obtain ⟨H, hH⟩ : ∃ H, H = (tryM M w pk).set 3 ⟨0, false, 1, [.arr M.length 0 (w.length + 1) 1]⟩ := ⟨_, rfl⟩
    have hTl : (tryM M w pk).length = M.length + 3 := by simp [tryM]
    have hHl : H.length = M.length + 3 := by rw [hH, List.length_set, hTl]
    have hH3 : H[3]? = some ⟨0, false, 1, [.arr M.length 0 (w.length + 1) 1]⟩ := by rw [hH, List.getElem?_set_self (by rw [hTl]; omega)]
    have hHi : ∀ i, i ≠ 3 → H[i]? = (tryM M w pk)[i]? := fun i hi => by rw [hH, List.getElem?_set_ne (Ne.symm hi)]
    have hHc : hltL (M.length + 3) H = true := by
     rw [hH]
     refine hltL_set (tryM_cl w pk hcl) ?_
     simp only [ltL, MV.lt, Bool.and_true, decide_eq_true_eq]; omega
    refine loopQ.normal _ _ ⟨(i + 1, H), ⟨?_, ⟨?_, ?_, ⟨.arr M.length 0 (w.length + 1) 1, ?_, ?_⟩, ?_⟩, ?_, ?_⟩, ?_, ⟨by ((repeat (refine Hold.cons (by exact rfl) ?_)); exact Hold.nil), by ((repeat (refine Hold.cons (by exact rfl) ?_)); exact Hold.nil)⟩, ?_⟩
    ·exact hi2
    ·show H[0]? = _
     rw [hHi 0 (by decide)]; exact tryM_at m0
    ·show H[2]? = _
     rw [hHi 2 (by decide)]; exact t1
    ·exact hH3
    ·show RowAt H _ (bodyB R C (i + 1))
     rw [hnext, show w.length + 1 = (w ++ [pk]).length by simp]
     refine .some M.length 1 (w ++ [pk]) (by simp) ?_
     rw [hHi _ (by omega)]; exact tryM_0 M w pk
    ·show hltL H.length H = true
     rw [hHl]; exact hHc
    ·show 4 ≤ H.length
     omega
    ·exact fun _ => ⟨M.length, w.length + 1, 1, hH3, hlen⟩
    ·show R.length - (i + 1) < R.length - i
     omega
    ·show HeadIs _ _ _ ((tryM M w pk).set 3 ⟨0, false, 1, [.arr M.length 0 (w.length + 1) 1]⟩) H
     rw [← hH]
     refine .cell ?_
     show hltL 4 (H.take 4) = false
     rw [Bool.eq_false_iff]
     intro hc
     have h1 := List.all_eq_true.1 hc ⟨0, false, 1, [.arr M.length 0 (w.length + 1) 1]⟩ (List.mem_of_getElem? (i := 3) (by rw [List.getElem?_take, if_pos (by decide)]; exact hH3))
     simp only [ltL, MV.lt, Bool.and_true, decide_eq_true_eq] at h1
     omega
  ·intro Y hno
   exfalso
   rw [List.take_of_length_le (by simp)] at hno
   have h1 := List.find?_some hpk2
   rw [hno pk (List.mem_of_find?_eq_some hpk2)] at h1
   cases h1
 ·obtain rfl : i = R.length := by omega
  have hwl := bodyB_len R C R.length
  generalize bodyB R C R.length = w at *
  cases hv with
  | none => simp at hwl; omega
  | some id g w' hne2 hM =>
   simp only at m2 hM
   repeat (first | apply ef_seq | (apply ef_mv; exact rfl; exact rfl) | (apply ef_bin; (iterate 3 exact rfl); (exact cmp_f rfl (by simp only [cmpP]; omega))) | (apply ef_ldp; exact rfl; exact rfl; (assumption); exact rfl; (exact rfl); (exact rfl)) | apply ef_nil | apply seqQ.normal | apply loopQ.exit | apply ef_ret | apply ef_exit | apply seqQ.exit | apply blockQ.here | (apply ef_condf; exact rfl; (exact (rfl : false = false))))
   rw [← hwl]
   exact fin_al rfl (by exact rfl) (by exact rfl) hM rfl (by simp) (natL_lt 0 w) rfl rfl rfl
end Go.Proofs.YtnmgpbihknjdjaaGreatDoor

/- The examples that every law begins with. -/
namespace Go.Proofs.YtnmgpbihknjdjaaGreatDoor
open Go.RowKit
set_option linter.unusedVariables false
theorem items_c (k : Nat) (h : MHeap) : orA (k + 1) 94 [] h = some (.arr h.length 0 3 0, h ++ [⟨0, false, 3, itemE⟩]) := by
 have := callA (k := k) (h := h) (args := []) (args' := []) rfl rfl (items_z k) rfl rfl
 simpa [shV, sh1] using this
theorem cal_c (k : Nat) (h : MHeap) : orA (k + 1) 98 [] h = some (.arr h.length 0 3 0, h ++ [⟨0, false, 3, calE⟩]) := by
 have := callA (k := k) (h := h) (args := []) (args' := []) rfl rfl (cal_z k) rfl rfl
 simpa [shV, sh1] using this
theorem hole_c (k : Nat) (h : MHeap) : orA (k + 1) 95 [] h = some (holeX, h) := by
 have := callA (k := k) (h := h) (args := []) (args' := []) rfl rfl (hole_z k) rfl rfl
 simpa [shV, sh1] using this
theorem layer_c (k : Nat) (h : MHeap) : orA (k + 6) 96 [] h = some (layX, h) := by
 have := callA (k := k + 5) (h := h) (args := []) (args' := []) rfl rfl (layer_x k) rfl rfl
 simpa [shV, sh1] using this
theorem shadow_c (k : Nat) (h : MHeap) : orA (k + 1) 97 [] h = some (encS shR shC, h) := by
 have := callA (k := k) (h := h) (args := []) (args' := []) rfl rfl (shadow_x k) rfl rfl
 rw [List.append_nil] at this
 exact this
theorem whole_z (k : Nat) : runZ MT (orA (k + 3)) (itA (k + 3)) 4000000 44 [I64 80] [] = some (.agg [I64 80, I64 1], []) := by kernel_rfl
theorem low_z (k : Nat) : runZ MT (orA (k + 3)) (itA (k + 3)) 4000000 87 [I64 400, I64 3] [] = some (.agg [I64 400, I64 3], []) := by kernel_rfl
theorem whole_c (k : Nat) (h : MHeap) : orA (k + 4) 44 [I64 80] h = some (.agg [I64 80, I64 1], h) := by
 have := callA (k := k + 3) (h := h) (args := [I64 80]) (args' := [I64 80]) rfl rfl (whole_z k) rfl rfl
 simpa [shV, sh1] using this
theorem low_c (k : Nat) (h : MHeap) : orA (k + 4) 87 [I64 400, I64 3] h = some (.agg [I64 400, I64 3], h) := by
 have := callA (k := k + 3) (h := h) (args := [I64 400, I64 3]) (args' := [I64 400, I64 3]) rfl rfl (low_z k) rfl rfl
 simpa [shV, sh1] using this
theorem bestX_c (h : MHeap) {v : MV} (hv : frz 0 [] h 8 v = some itemX) : orA 13 20 [v, I64 8] h = some (.tup [.arr h.length 0 2 0, I64 16, I64 0], h ++ [⟨0, false, 1, [I64 0, I64 2]⟩]) := by
 have hf : [v, I64 8].mapM (frz 0 [] h 8) = some [itemX, I64 8] := by simp [List.mapM_cons, hv, frz_lt (m := I64 8) rfl]
 have := callA (k := 12) (h := h) hf rfl (runL_ok mfW_ok (f := 20) (m := mfW_l20) (by kernel_rfl) best_f _) (by simp [okV, ok1, MV.lt, MV.pure]) (by simp [okH, ltL, MV.lt, pureL, MV.pure])
 simpa [shV, sh1] using this
theorem priceX_c (h : MHeap) {v : MV} (hv : frz 0 [] h 8 v = some itemX) : orA 13 35 [v, I64 8] h = some (.tup [.agg [I64 7, I64 4], I64 0], h) := by
 have hf : [v, I64 8].mapM (frz 0 [] h 8) = some [itemX, I64 8] := by simp [List.mapM_cons, hv, frz_lt (m := I64 8) rfl]
 have := callA (k := 12) (h := h) hf rfl (runL_ok mfW_ok (f := 35) (m := mfW_l35) (by kernel_rfl) price_f _) (by simp [okV, ok1, MV.lt, ltL, MV.pure, pureL]) rfl
 simpa [shV, sh1] using this
theorem earlyX_c (h : MHeap) {v : MV} (hv : frz 0 [] h 8 v = some calX) : orA 13 49 [v, I64 355, I64 10] h = some (.tup [I64 376, I64 0], h) := by
 have hf : [v, I64 355, I64 10].mapM (frz 0 [] h 8) = some [calX, I64 355, I64 10] := by simp [List.mapM_cons, hv, frz_lt (m := I64 355) rfl, frz_lt (m := I64 10) rfl]
 have := callA (k := 12) (h := h) hf rfl (runL_ok mfW_ok (f := 49) (m := mfW_l49) (by kernel_rfl) early_f _) (by simp [okV, ok1, MV.lt, MV.pure]) rfl
 simpa [shV, sh1] using this
theorem cutsX_c (h : MHeap) : orA 13 26 [holeX, layX] h = some (.tup [.agg [I64 80, I64 1, I64 400, I64 3], I64 0], h) := by
 have := callA (k := 12) (h := h) (args := [holeX, layX]) (args' := [holeX, layX]) rfl rfl (runL_ok mfW_ok (f := 26) (m := mfW_l26) (by kernel_rfl) cuts_f _) rfl rfl
 simpa [shV, sh1] using this
theorem bodyX_c (h : MHeap) : orA 13 62 [encS shR shC] h = some (.tup [.arr h.length 0 2 0, I64 0], h ++ [⟨0, false, 1, [I64 1, I64 3]⟩]) := by
 have hp : ∀ i, i < shR.length → (pickB shR shC (bodyB shR shC i) i).isSome = true
  | 0, _ => by kernel_rfl
  | 1, _ => by kernel_rfl
  | i + 2, h => absurd h (by simp)
 have hb : natL (bodyB shR shC shR.length) = [I64 1, I64 3] := by kernel_rfl
 have hz := body_z 5 shR shC (by decide) (by decide) (open_xc 5) hp (by decide)
 rw [hb] at hz
 have := callA (k := 12) (h := h) (args := [encS shR shC]) (args' := [encS shR shC]) rfl rfl hz rfl rfl
 simpa [shV, sh1] using this
theorem mf_awake : MT.mf 15 = some ⟨87, [(.tmp 0)], (.seq (.reg [gO 0 (.mv cF)]) (.seq (.reg [gO 13 (.call 94 []), gO 14 (.call 20 [.s 13, (cI 8)]), gO 12 (.mv (.s 14)), gO 15 (.ext (.s 12) 0), gO 16 (.ext (.s 12) 1), gO 17 (.ext (.s 12) 2), gO 1 (.mv (.s 15)), gO 2 (.mv (.s 16)), gO 3 (.mv (.s 17))]) (.seq (.reg [gO 19 (.call 95 []), gO 20 (.call 96 []), gO 21 (.call 26 [.s 19, .s 20]), gO 18 (.mv (.s 21)), gO 22 (.ext (.s 18) 0), gO 23 (.ext (.s 18) 1), gO 4 (.new (.agg [(.lit (.int .i64 0)), (.lit (.int .i64 0)), (.lit (.int .i64 0)), (.lit (.int .i64 0))])), ⟨none, none, .st 4 (.s 4) (.s 22)⟩, gO 5 (.mv (.s 23))]) (.seq (.reg [gO 25 (.call 97 []), gO 26 (.call 62 [.s 25]), gO 24 (.mv (.s 26)), gO 27 (.ext (.s 24) 0), gO 28 (.ext (.s 24) 1), gO 6 (.mv (.s 27)), gO 7 (.mv (.s 28))]) (.seq (.reg [gO 30 (.call 94 []), gO 31 (.call 35 [.s 30, (cI 8)]), gO 29 (.mv (.s 31)), gO 32 (.ext (.s 29) 0), gO 33 (.ext (.s 29) 1), gO 8 (.new (.agg [(.lit (.int .i64 0)), (.lit (.int .i64 0))])), ⟨none, none, .st 2 (.s 8) (.s 32)⟩, gO 9 (.mv (.s 33))]) (.seq (.reg [gO 35 (.call 98 []), gO 36 (.call 49 [.s 35, (cI 355), (cI 10)]), gO 34 (.mv (.s 36)), gO 37 (.ext (.s 34) 0), gO 38 (.ext (.s 34) 1), gO 10 (.mv (.s 37)), gO 11 (.mv (.s 38))]) (.seq (.reg [gO 39 (.mv (.s 3)), gO 40 (.bin .eql (.s 39) (cI 0)), gO 41 (.mv (.s 40)), ⟨some (41, true), some 42, .mv (.s 2)⟩, ⟨some (41, true), some 43, .bin .eql (.s 42) (cI 16)⟩, gO 44 (.pick (.s 41) (.s 43) cF), gO 45 (.mv (.s 44)), ⟨some (45, true), some 46, .mv (.s 1)⟩, ⟨some (45, true), some 47, .bsl (.lit (.int .i64 0)) 1 2 [(0, (cI 0)), (1, (cI 2))]⟩, ⟨some (45, true), some 48, .call 24 [.s 46, .s 47]⟩, gO 49 (.pick (.s 45) (.s 48) cF), gO 50 (.mv (.s 49)), ⟨some (50, true), some 51, .mv (.s 5)⟩, ⟨some (50, true), some 52, .bin .eql (.s 51) (cI 0)⟩, gO 53 (.pick (.s 50) (.s 52) cF), gO 54 (.mv (.s 53)), ⟨some (54, true), some 55, .ld (some 4) (.s 4)⟩, ⟨some (54, true), some 56, .call 44 [(cI 80)]⟩, ⟨some (54, true), some 57, .call 87 [(cI 400), (cI 3)]⟩, ⟨some (54, true), some 58, .build [(.lit (.int .i64 0)), (.lit (.int .i64 0)), (.lit (.int .i64 0)), (.lit (.int .i64 0))] [(0, (2, (.s 56))), (2, (2, (.s 57)))]⟩, ⟨some (54, true), some 59, .eqa 4 false (.s 55) (.s 58)⟩, gO 60 (.pick (.s 54) (.s 59) cF), gO 61 (.mv (.s 60)), ⟨some (61, true), some 62, .mv (.s 7)⟩, ⟨some (61, true), some 63, .bin .eql (.s 62) (cI 0)⟩, gO 64 (.pick (.s 61) (.s 63) cF), gO 65 (.mv (.s 64)), ⟨some (65, true), some 66, .mv (.s 6)⟩, ⟨some (65, true), some 67, .bsl (.lit (.int .i64 0)) 1 2 [(0, (cI 1)), (1, (cI 3))]⟩, ⟨some (65, true), some 68, .call 24 [.s 66, .s 67]⟩, gO 69 (.pick (.s 65) (.s 68) cF), gO 70 (.mv (.s 69)), ⟨some (70, true), some 71, .mv (.s 9)⟩, ⟨some (70, true), some 72, .bin .eql (.s 71) (cI 0)⟩, gO 73 (.pick (.s 70) (.s 72) cF), gO 74 (.mv (.s 73)), ⟨some (74, true), some 75, .ld (some 2) (.s 8)⟩, ⟨some (74, true), some 76, .build [(.lit (.int .i64 0)), (.lit (.int .i64 0))] [(0, (1, (cI 7))), (1, (1, (cI 4)))]⟩, ⟨some (74, true), some 77, .eqa 2 false (.s 75) (.s 76)⟩, gO 78 (.pick (.s 74) (.s 77) cF), gO 79 (.mv (.s 78)), ⟨some (79, true), some 80, .mv (.s 11)⟩, ⟨some (79, true), some 81, .bin .eql (.s 80) (cI 0)⟩, gO 82 (.pick (.s 79) (.s 81) cF), gO 83 (.mv (.s 82)), ⟨some (83, true), some 84, .mv (.s 10)⟩, ⟨some (83, true), some 85, .bin .eql (.s 84) (cI 376)⟩, gO 86 (.pick (.s 83) (.s 85) cF), gO 0 (.mv (.s 86))]) .ret)))))))⟩ := by kernel_rfl
set_option maxHeartbeats 1000000 in
theorem awake_z : runZ MT (orA 13) (itA 13) 4000000 15 [] [] = some (Bo true, []) := by
 refine runZ_of mf_awake (by simp) ?_
 simp only [argsL]
 repeat (first | apply ef_seq | (apply ef_mv; exact rfl; exact rfl) | (apply ef_bin; (iterate 3 exact rfl); (exact cmp_t rfl (by first | exact rfl | (simp only [cmpP]; omega)))) | (apply ef_gy; exact rfl; (exact (rfl : true = true))) | (apply ef_pick; (iterate 3 exact rfl)) | (apply ef_ldp; (iterate 4 exact rfl); (exact rfl); (first | exact rd_2 rfl rfl | exact rd_4 rfl rfl rfl rfl)) | (apply ef_ext; (iterate 3 exact rfl)) | (apply ef_new; exact rfl) | (apply ef_build; exact rfl; (repeat (apply XVs.cons; exact rfl)); exact XVs.nil; exact rfl; exact rfl) | (apply ef_bsl; exact rfl; (repeat (apply XVs.cons; exact rfl)); exact XVs.nil; exact rfl) | (apply ef_eqa; (iterate 3 exact rfl); (exact rfl)) | (apply ef_st; (iterate 6 exact rfl); (exact rfl); exact rfl) | apply ef_nil | apply seqQ.normal | apply ef_ret | (apply ef_call; exact rfl; ((repeat (apply XVs.cons; exact rfl)); exact XVs.nil); (with_reducible first | exact items_c _ _ | exact cal_c _ _ | exact hole_c _ _ | exact layer_c _ _ | exact shadow_c _ _ | exact whole_c _ _ | exact low_c _ _ | exact bestX_c _ rfl | exact priceX_c _ rfl | exact earlyX_c _ rfl | exact cutsX_c _ | exact bodyX_c _ | exact bInts_c 12 [0, 2] [0, 2] _ (by simp) rfl rfl rfl | exact bInts_c 12 [1, 3] [1, 3] _ (by simp) rfl rfl rfl)))
 (refine fin1 rfl (by exact rfl) rfl ?_)
 rfl
theorem awake_c (h : MHeap) : orA 14 15 [] h = some (Bo true, h) := callL (args' := []) rfl rfl awake_z
end Go.Proofs.YtnmgpbihknjdjaaGreatDoor
