/- The row of TargetCuts. -/
import Derived.Test.YtnmgpbihknjdjaaGreatDoorCards
import Derived.Test.YtnmgpbihknjdjaaGreatDoorTie
import Derived.LaidMore
import Derived.LaidOnce
import Derived.SevenTiedAt
import Derived.Stop.Joined
import Derived.Test.YtnmgpbihknjdjaaGreatDoorProg
import Derived.Test.YtnmgpbihknjdjaaGreatDoorChecked
import Derived.Test.YtnmgpbihknjdjaaGreatDoorRows
import Derived.Test.YtnmgpbihknjdjaaGreatDoorCutsProofsPe
/- Contracts: holes, layers, cuts. -/
namespace Go.Proofs.YtnmgpbihknjdjaaGreatDoor
open Go.RowKit
set_option linter.unusedVariables false
abbrev encHo (o : Ho) : MV := .agg [I64 o.e, I64 o.d, I64 o.b]
abbrev encLy (x : Ly) : MV := .agg [I64 x.dp, I64 x.a, I64 x.b, I64 x.c, I64 x.d]
theorem mf_isSized : MT.mf 120 = some mfW_l120 := mfW_q120
theorem isSized_c (k : Nat) (n m : Int) (h : MHeap) (hm : -1000000000 ≤ m ∧ m ≤ 1000000000) {t : Bool} (ht : inB n (-m) m = t) : orA (k + 2) 120 [I64 n, I64 m] h = some (Bo t, h) := by
 refine callL (args' := [I64 n, I64 m]) (frz_lits [.int .i64 n, .int .i64 m]) rfl (runZ_of mf_isSized (by simp) ?_)
 simp only [argsL]
 have hw : inB n (0 - m) m = t := by rw [← ht, Int.zero_sub]
 repeat (first | apply ef_seq | (apply ef_mv; exact rfl; exact rfl) | (apply ef_neg; exact rfl; exact rfl; exact wrap_of (by omega) (by omega)) | apply ef_nil | apply seqQ.normal | apply ef_ret | (apply ef_call; exact rfl; ((repeat (apply XVs.cons; exact rfl)); exact XVs.nil); (with_reducible exact within_c k _ _ _ _ hw)))
 (refine fin1 rfl (by exact rfl) rfl ?_)
 rfl
theorem mf_isDepth : MT.mf 121 = some mfW_l121 := mfW_q121
theorem isDepth_c (k : Nat) (n : Int) (h : MHeap) {t : Bool} (ht : inB n 1 10000 = t) : orA (k + 2) 121 [I64 n] h = some (Bo t, h) := by
 refine callL (args' := [I64 n]) (frz_lits [.int .i64 n]) rfl (runZ_of mf_isDepth (by simp) ?_)
 simp only [argsL]
 repeat (first | apply ef_seq | (apply ef_mv; exact rfl; exact rfl) | apply ef_nil | apply seqQ.normal | apply ef_ret | (apply ef_call; exact rfl; ((repeat (apply XVs.cons; exact rfl)); exact XVs.nil); (with_reducible exact within_c k _ _ _ _ ht)))
 (refine fin1 rfl (by exact rfl) rfl ?_)
 rfl
theorem mf_CheckHole : MT.mf 28 = some mfW_l28 := mfW_q28
theorem CheckHole_c (k : Nat) (o : Ho) (h : MHeap) {e : Int} (he : holeE o = e) : orA (k + 4) 28 [encHo o] h = some (I64 e, h) := by
 refine callL (args' := [encHo o]) (frzL_lt rfl) rfl (runZ_of mf_CheckHole (by simp) ?_)
 simp only [argsL]
 unfold holeE at he
 cases h1 : inB o.e (-1000) 1000 <;> cases h2 : inB o.d 1 1000 <;> cases h3 : inB o.b 1 10000 <;> rw [h1, h2, h3] at he
 all_goals (try simp only [Bool.and_true, Bool.and_false, Bool.false_and, Bool.true_and] at he)
 all_goals repeat (first | apply ef_seq | (apply ef_mv; exact rfl; exact rfl) | (apply ef_gy; exact rfl; (exact (rfl : true = true))) | (apply ef_gn; exact rfl; (exact (rfl : false = false)); exact rfl) | (apply ef_pick; (iterate 3 exact rfl)) | (apply ef_ldp; (iterate 4 exact rfl); (exact rfl); (exact rfl)) | (apply ef_fap; exact rfl; exact rfl) | (apply ef_box; (iterate 4 exact rfl)) | apply ef_nil | apply seqQ.normal | apply ef_ret | (apply ef_call; exact rfl; ((repeat (apply XVs.cons; exact rfl)); exact XVs.nil); (with_reducible first | exact isSized_c (k + 1) _ _ _ (by omega) h1 | exact within_c (k + 2) _ _ _ _ h2 | exact isDepth_c (k + 1) _ _ h3 | exact unless_c (k + 2) _ _ _ he)))
 all_goals ((refine fin1 rfl (by exact rfl) rfl ?_); rfl)
theorem mf_depthErr : MT.mf 113 = some mfW_l113 := mfW_q113
theorem depthErr_c (k : Nat) (n : Int) (h : MHeap) {e : Int} (he : depE n = e) : orA (k + 4) 113 [I64 n] h = some (I64 e, h) := by
 refine callL (args' := [I64 n]) (frz_lits [.int .i64 n]) rfl (runZ_of mf_depthErr (by simp) ?_)
 simp only [argsL]
 unfold depE at he
 repeat (first | apply ef_seq | (apply ef_mv; exact rfl; exact rfl) | apply ef_nil | apply seqQ.normal | apply ef_ret | (apply ef_call; exact rfl; ((repeat (apply XVs.cons; exact rfl)); exact XVs.nil); (with_reducible first | exact isDepth_c (k + 1) _ _ rfl | exact unless_c (k + 2) _ _ _ he)))
 (refine fin1 rfl (by exact rfl) rfl ?_)
 rfl
theorem mf_slopeErr : MT.mf 114 = some mfW_l114 := mfW_q114
theorem slopeErr_c (k : Nat) (p q : Int) (h : MHeap) (hq : q ≤ 9223372036854775807) {e : Int} (he : slopeE p q = e) : orA (k + 5) 114 [encPt (p, q)] h = some (I64 e, h) := by
 refine callL (args' := [encPt (p, q)]) (frzL_lt rfl) rfl (runZ_of mf_slopeErr (by simp) ?_)
 simp only [argsL]
 unfold slopeE at he
 have hl := fun h => isLow_c (k + 2) p q h hq rfl
 have hu1 := fun h => unless_c (k + 3) (isLow p q) 3 h rfl
 by_cases h2 : q ≤ 1000
 ·rw [decide_eq_true h2, Bool.and_true] at he
  cases h1 : inB p (-1000) 1000 <;> rw [h1] at he
  all_goals repeat (first | apply ef_seq | (apply ef_mv; exact rfl; exact rfl) | (apply ef_bin; (iterate 3 exact rfl); (exact cmp_t rfl (by first | exact rfl | (simp only [cmpP]; omega)))) | (apply ef_gy; exact rfl; (exact (rfl : true = true))) | (apply ef_gn; exact rfl; (exact (rfl : false = false)); exact rfl) | (apply ef_pick; (iterate 3 exact rfl)) | (apply ef_ldp; (iterate 4 exact rfl); (exact rfl); (first | exact rd_2 rfl rfl | exact rfl)) | (apply ef_fap; exact rfl; exact rfl) | (apply ef_box; (iterate 4 exact rfl)) | (apply ef_bsl; exact rfl; (repeat (apply XVs.cons; exact rfl)); exact XVs.nil; exact rfl) | apply ef_nil | apply seqQ.normal | apply ef_ret | (apply ef_call; exact rfl; ((repeat (apply XVs.cons; exact rfl)); exact XVs.nil); (with_reducible first | exact hl _ | exact isSized_c (k + 2) _ _ _ (by omega) h1 | exact hu1 _ | exact unless_c (k + 3) _ _ _ rfl)) | (apply ef_call; exact rfl; ((repeat (apply XVs.cons; exact rfl)); exact XVs.nil); (with_reducible apply first2_c); (iterate 3 exact rfl); (assumption)))
  all_goals ((refine fin1 rfl (by exact rfl) rfl ?_); rfl)
 ·rw [decide_eq_false h2, Bool.and_false] at he
  cases h1 : inB p (-1000) 1000
  all_goals repeat (first | apply ef_seq | (apply ef_mv; exact rfl; exact rfl) | (apply ef_bin; (iterate 3 exact rfl); (exact cmp_f rfl (by simp only [cmpP]; omega))) | (apply ef_gy; exact rfl; (exact (rfl : true = true))) | (apply ef_gn; exact rfl; (exact (rfl : false = false)); exact rfl) | (apply ef_pick; (iterate 3 exact rfl)) | (apply ef_ldp; (iterate 4 exact rfl); (exact rfl); (first | exact rd_2 rfl rfl | exact rfl)) | (apply ef_fap; exact rfl; exact rfl) | (apply ef_box; (iterate 4 exact rfl)) | (apply ef_bsl; exact rfl; (repeat (apply XVs.cons; exact rfl)); exact XVs.nil; exact rfl) | apply ef_nil | apply seqQ.normal | apply ef_ret | (apply ef_call; exact rfl; ((repeat (apply XVs.cons; exact rfl)); exact XVs.nil); (with_reducible first | exact hl _ | exact isSized_c (k + 2) _ _ _ (by omega) h1 | exact hu1 _ | exact unless_c (k + 3) _ _ _ rfl)) | (apply ef_call; exact rfl; ((repeat (apply XVs.cons; exact rfl)); exact XVs.nil); (with_reducible apply first2_c); (iterate 3 exact rfl); (assumption)))
  all_goals ((refine fin1 rfl (by exact rfl) rfl ?_); rfl)
end Go.Proofs.YtnmgpbihknjdjaaGreatDoor

/- Contracts: layers, cuts. -/
namespace Go.Proofs.YtnmgpbihknjdjaaGreatDoor
open Go.RowKit
set_option linter.unusedVariables false
theorem lay0_ok {x : Ly} (h0 : layE0 x = 0) : slopeE x.a x.b = 0 ∧ slopeE x.c x.d = 0 := by
 unfold layE0 at h0
 obtain ⟨h1, h2⟩ := firstE_nil h0
 obtain ⟨h2, h3⟩ := firstE_nil h2
 obtain ⟨h3, -⟩ := firstE_nil h3
 exact ⟨h2, h3⟩
theorem mf_layerErr : MT.mf 118 = some mfW_l118 := mfW_q118
theorem layerErr_c (k : Nat) (x : Ly) (h : MHeap) (hb : x.b ≤ 9223372036854775807) (hd : x.d ≤ 9223372036854775807) {e : Int} (he : layE x = e) : orA (k + 6) 118 [encLy x] h = some (I64 e, h) := by
 refine callL (args' := [encLy x]) (frzL_lt rfl) rfl (runZ_of mf_layerErr (by simp) ?_)
 simp only [argsL]
 have h1 := fun h => depthErr_c (k + 1) x.dp h rfl
 have h2 := fun h => slopeErr_c k x.a x.b h hb rfl
 have h3 := fun h => slopeErr_c k x.c x.d h hd rfl
 unfold layE at he
 by_cases h0 : layE0 x = 0
 ·have h0' := h0
  unfold layE0 at h0'
  rw [if_pos h0] at he
  have hf : firstE [depE x.dp, slopeE x.a x.b, slopeE x.c x.d] = 0 := h0'
  have hs2 := lay0_ok h0
  obtain ⟨s1, s2, s3, s4, _⟩ := slope_ok hs2.1
  obtain ⟨t1, t2, t3, t4, _⟩ := slope_ok hs2.2
  have m1 := mul_bd' (a := x.a) (b := x.d) (A := 1000) (B := 1000) s1 s2 (by omega) t4
  have m2 := mul_bd' (a := x.c) (b := x.b) (A := 1000) (B := 1000) t1 t2 (by omega) s4
  have w1 : IntKind.i64.wrap (x.a * x.d) = x.a * x.d := wrap_of (by omega) (by omega)
  have w2 : IntKind.i64.wrap (x.c * x.b) = x.c * x.b := wrap_of (by omega) (by omega)
  by_cases hle : x.a * x.d ≤ x.c * x.b
  ·rw [decide_eq_true hle] at he
   repeat (first | apply ef_seq | (apply ef_mv; exact rfl; exact rfl) | (apply ef_bin; (iterate 3 exact rfl); (first | exact cmp_t rfl (by first | exact rfl | (simp only [cmpP]; omega)) | ((with_reducible refine bin_mul (wrap_of ?_ ?_)) <;> omega))) | (apply ef_ldp; (iterate 4 exact rfl); (exact rfl); (first | exact rd_2 rfl rfl | exact rfl)) | (apply ef_fap; exact rfl; exact rfl) | (apply ef_box; (iterate 4 exact rfl)) | (apply ef_bsl; exact rfl; (repeat (apply XVs.cons; exact rfl)); exact XVs.nil; exact rfl) | apply ef_nil | apply seqQ.normal | apply ef_ret | (apply ef_condt; exact rfl; (exact (rfl : true = true))) | (apply ef_call; exact rfl; ((repeat (apply XVs.cons; exact rfl)); exact XVs.nil); (with_reducible first | exact h1 _ | exact h2 _ | exact h3 _ | exact unless_c (k + 4) _ _ _ he)) | (apply ef_call; exact rfl; ((repeat (apply XVs.cons; exact rfl)); exact XVs.nil); (with_reducible apply first3_c); (iterate 3 exact rfl); (assumption)))
   (refine fin1 rfl (by exact rfl) rfl ?_)
   rfl
  ·rw [decide_eq_false hle] at he
   repeat (first | apply ef_seq | (apply ef_mv; exact rfl; exact rfl) | (apply ef_bin; (iterate 3 exact rfl); (first | exact cmp_t rfl (by first | exact rfl | (simp only [cmpP]; omega)) | exact cmp_f rfl (by simp only [cmpP]; omega) | ((with_reducible refine bin_mul (wrap_of ?_ ?_)) <;> omega))) | (apply ef_ldp; (iterate 4 exact rfl); (exact rfl); (first | exact rd_2 rfl rfl | exact rfl)) | (apply ef_fap; exact rfl; exact rfl) | (apply ef_box; (iterate 4 exact rfl)) | (apply ef_bsl; exact rfl; (repeat (apply XVs.cons; exact rfl)); exact XVs.nil; exact rfl) | apply ef_nil | apply seqQ.normal | apply ef_ret | (apply ef_condt; exact rfl; (exact (rfl : true = true))) | (apply ef_call; exact rfl; ((repeat (apply XVs.cons; exact rfl)); exact XVs.nil); (with_reducible first | exact h1 _ | exact h2 _ | exact h3 _ | exact unless_c (k + 4) _ _ _ he)) | (apply ef_call; exact rfl; ((repeat (apply XVs.cons; exact rfl)); exact XVs.nil); (with_reducible apply first3_c); (iterate 3 exact rfl); (assumption)))
   (refine fin1 rfl (by exact rfl) rfl ?_)
   rfl
 ·rw [if_neg h0] at he
  unfold layE0 at h0 he
  repeat (first | apply ef_seq | (apply ef_mv; exact rfl; exact rfl) | (apply ef_bin; (iterate 3 exact rfl); (exact cmp_f rfl (by simp only [cmpP]; omega))) | (apply ef_ldp; (iterate 4 exact rfl); (exact rfl); (first | exact rd_2 rfl rfl | exact rfl)) | (apply ef_fap; exact rfl; exact rfl) | (apply ef_box; (iterate 4 exact rfl)) | (apply ef_bsl; exact rfl; (repeat (apply XVs.cons; exact rfl)); exact XVs.nil; exact rfl) | apply ef_nil | apply seqQ.normal | apply ef_ret | apply ef_skip | (apply ef_condf; exact rfl; (exact (rfl : false = false))) | (apply ef_call; exact rfl; ((repeat (apply XVs.cons; exact rfl)); exact XVs.nil); (with_reducible first | exact h1 _ | exact h2 _ | exact h3 _)) | (apply ef_call; exact rfl; ((repeat (apply XVs.cons; exact rfl)); exact XVs.nil); (with_reducible apply first3_c); (iterate 3 exact rfl); (assumption)))
  (refine fin1 rfl (by exact rfl) rfl ?_)
  rfl
theorem callTP {k f : Nat} {args args' : List MV} {h : MHeap} {p : Pt} {e : Int} (h1 : args.mapM (frz 0 [] h 8) = some args') (hT : tA f args' [] = none) (h2 : runZ MT (orA k) (itA k) 4000000 f args' [] = some (.tup [encPt p, I64 e], [])) : orA (k + 1) f args h = some (.tup [encPt p, I64 e], h) := by
 have := callA h1 hT h2 (by cases ltL 0 args <;> rfl) rfl
 rw [List.append_nil] at this
 exact this
theorem mf_lowest : MT.mf 117 = some mfW_l117 := mfW_q117
theorem lowest_c (k : Nat) (n d : Int) (h : MHeap) (hd : 0 < d) (h1 : -9223372036854775807 ≤ n) (h2 : n ≤ 9223372036854775807) (h4 : d ≤ 9223372036854775807) : orA (k + 4) 117 [I64 n, I64 d] h = some (.tup [encPt ((lowR n d).1, (lowR n d).2.1), I64 (lowR n d).2.2], h) := by
 refine callTP (args' := [I64 n, I64 d]) (frz_lits [.int .i64 n, .int .i64 d]) rfl (runZ_of mf_lowest (by simp) ?_)
 simp only [argsL]
 have hg := fun h => divisor_c (k + 2) n d h (fun e => by omega) (by omega) h4
 obtain ⟨hg0, _, _, _, _⟩ := lowG_ok (n := n) (show d ≠ 0 by omega)
 have hq1 := quo_eq (a := n) hg0 h1 h2
 have hq2 := quo_eq (a := d) hg0 (by omega) h4
 have HR := Lib.hid (show lowR n d = if inB (n.tdiv (lowG n d)) (-1000000000) 1000000000 && decide (d.tdiv (lowG n d) ≤ 1000000000) then (n.tdiv (lowG n d), d.tdiv (lowG n d), 0) else (0, 0, 8) from rfl)
 have hG : lowG n d = (Int.gcd n d : Int) := by unfold lowG; rw [if_neg (by omega)]
 generalize n.tdiv (lowG n d) = x at *
 generalize d.tdiv (lowG n d) = y at *
 generalize lowG n d = g at *
 rw [← hG] at hg
 clear hG
 by_cases hy : y ≤ 1000000000
 ·cases hb : inB x (-1000000000) 1000000000
  ·repeat (first | apply ef_seq | (apply ef_mv; exact rfl; exact rfl) | (apply ef_bin; (iterate 3 exact rfl); (assumption)) | (apply ef_gn; exact rfl; (exact (rfl : true = true)); exact rfl) | (apply ef_pick; (iterate 3 exact rfl)) | (apply ef_ldp; (iterate 4 exact rfl); (exact rfl); (exact rfl)) | (apply ef_fap; exact rfl; exact rfl) | (apply ef_notF; exact rfl; exact rfl) | (apply ef_new; exact rfl) | (apply ef_build; exact rfl; (repeat (apply XVs.cons; exact rfl)); exact XVs.nil; exact rfl; exact rfl) | (apply ef_st; (iterate 6 exact rfl); (exact rfl); exact rfl) | apply ef_nil | apply seqQ.normal | apply ef_ret | apply seqQ.ret | (apply ef_condt; exact rfl; (exact (rfl : true = true))) | (apply ef_call; exact rfl; ((repeat (apply XVs.cons; exact rfl)); exact XVs.nil); (with_reducible first | exact hg _ | exact isSized_c (k + 1) _ _ _ (by omega) hb)))
   rw [show lowR n d = (0, 0, 8) by rw [HR.out, hb]; simp [hy]]
   refine finR2 (v := encPt (0, 0)) (w := I64 8) rfl ?_ (by exact rfl) rfl rfl rfl
   apply resC <;> exact rfl
  ·repeat (first | apply ef_seq | (apply ef_mv; exact rfl; exact rfl) | (apply ef_bin; (iterate 3 exact rfl); (first | assumption | exact cmp_f rfl (by simp only [cmpP]; omega))) | (apply ef_gy; exact rfl; (exact (rfl : false = false))) | (apply ef_pick; (iterate 3 exact rfl)) | (apply ef_ldp; (iterate 4 exact rfl); (exact rfl); (first | exact rd_2 rfl rfl | exact rfl)) | (apply ef_fap; exact rfl; exact rfl) | (apply ef_notT; exact rfl; exact rfl) | (apply ef_new; exact rfl) | (apply ef_build; exact rfl; (repeat (apply XVs.cons; exact rfl)); exact XVs.nil; exact rfl; exact rfl) | (apply ef_st; (iterate 6 exact rfl); (exact rfl); exact rfl) | apply ef_nil | apply seqQ.normal | apply ef_ret | apply ef_skip | (apply ef_condf; exact rfl; (exact (rfl : false = false))) | (apply ef_call; exact rfl; ((repeat (apply XVs.cons; exact rfl)); exact XVs.nil); (with_reducible first | exact hg _ | exact isSized_c (k + 1) _ _ _ (by omega) hb)))
   rw [show lowR n d = (x, y, 0) by rw [HR.out, hb]; simp [hy]]
   refine finR2 (v := encPt (x, y)) (w := I64 0) rfl ?_ (by exact rfl) rfl rfl rfl
   apply resC <;> exact rfl
 ·cases hb : inB x (-1000000000) 1000000000
  ·repeat (first | apply ef_seq | (apply ef_mv; exact rfl; exact rfl) | (apply ef_bin; (iterate 3 exact rfl); (assumption)) | (apply ef_gn; exact rfl; (exact (rfl : true = true)); exact rfl) | (apply ef_pick; (iterate 3 exact rfl)) | (apply ef_ldp; (iterate 4 exact rfl); (exact rfl); (exact rfl)) | (apply ef_fap; exact rfl; exact rfl) | (apply ef_notF; exact rfl; exact rfl) | (apply ef_new; exact rfl) | (apply ef_build; exact rfl; (repeat (apply XVs.cons; exact rfl)); exact XVs.nil; exact rfl; exact rfl) | (apply ef_st; (iterate 6 exact rfl); (exact rfl); exact rfl) | apply ef_nil | apply seqQ.normal | apply ef_ret | apply seqQ.ret | (apply ef_condt; exact rfl; (exact (rfl : true = true))) | (apply ef_call; exact rfl; ((repeat (apply XVs.cons; exact rfl)); exact XVs.nil); (with_reducible first | exact hg _ | exact isSized_c (k + 1) _ _ _ (by omega) hb)))
   rw [show lowR n d = (0, 0, 8) by rw [HR.out, hb]; simp [hy]]
   refine finR2 (v := encPt (0, 0)) (w := I64 8) rfl ?_ (by exact rfl) rfl rfl rfl
   apply resC <;> exact rfl
  ·repeat (first | apply ef_seq | (apply ef_mv; exact rfl; exact rfl) | (apply ef_bin; (iterate 3 exact rfl); (first | assumption | exact cmp_t rfl (by first | exact rfl | (simp only [cmpP]; omega)))) | (apply ef_gy; exact rfl; (exact (rfl : false = false))) | (apply ef_pick; (iterate 3 exact rfl)) | (apply ef_ldp; (iterate 4 exact rfl); (exact rfl); (exact rfl)) | (apply ef_fap; exact rfl; exact rfl) | (apply ef_notT; exact rfl; exact rfl) | (apply ef_new; exact rfl) | (apply ef_build; exact rfl; (repeat (apply XVs.cons; exact rfl)); exact XVs.nil; exact rfl; exact rfl) | (apply ef_st; (iterate 6 exact rfl); (exact rfl); exact rfl) | apply ef_nil | apply seqQ.normal | apply ef_ret | apply seqQ.ret | (apply ef_condt; exact rfl; (exact (rfl : true = true))) | (apply ef_call; exact rfl; ((repeat (apply XVs.cons; exact rfl)); exact XVs.nil); (with_reducible first | exact hg _ | exact isSized_c (k + 1) _ _ _ (by omega) hb)))
   rw [show lowR n d = (0, 0, 8) by rw [HR.out, hb]; simp [hy]]
   refine finR2 (v := encPt (0, 0)) (w := I64 8) rfl ?_ (by exact rfl) rfl rfl rfl
   apply resC <;> exact rfl
theorem mf_cuts : MT.mf 115 = some mfW_l115 := mfW_q115
theorem cuts_c (k : Nat) (o : Ho) (dp p q : Int) (h : MHeap) (ho : holeE o = 0) (hd : 1 ≤ dp ∧ dp ≤ 10000) (hs : slopeE p q = 0) : orA (k + 1) 115 [encHo o, I64 dp, encPt (p, q)] h = some (encPt (cutN o dp q, cutD o p q), h) := by
 refine callPt (args' := [encHo o, I64 dp, encPt (p, q)]) (frzL_lt rfl) rfl (runZ_of mf_cuts (by simp) ?_)
 simp only [argsL]
 obtain ⟨⟨o1, o2⟩, ⟨o3, o4⟩, _⟩ := hole_ok ho
 obtain ⟨s1, s2, s3, s4, _⟩ := slope_ok hs
 have m1 := mul_bd' (a := dp) (b := o.d) (A := 10000) (B := 1000) (by omega) hd.2 (by omega) o4
 have m2 := mul_bd' (a := dp * o.d) (b := q) (A := 10000 * 1000) (B := 1000) m1.1 m1.2 (by omega) s4
 have m3 := mul_bd' (a := o.d) (b := q) (A := 1000) (B := 1000) (by omega) o4 (by omega) s4
 have m4 := mul_bd' (a := p) (b := o.e) (A := 1000) (B := 1000) s1 s2 o1 o2
 unfold cutN cutD
 have w1 : IntKind.i64.wrap (dp * o.d) = dp * o.d := wrap_of (by omega) (by omega)
 have w2 : IntKind.i64.wrap (dp * o.d * q) = dp * o.d * q := wrap_of (by omega) (by omega)
 have w3 : IntKind.i64.wrap (o.d * q) = o.d * q := wrap_of (by omega) (by omega)
 have w4 : IntKind.i64.wrap (p * o.e) = p * o.e := wrap_of (by omega) (by omega)
 have w5 : IntKind.i64.wrap (o.d * q - p * o.e) = o.d * q - p * o.e := wrap_of (by omega) (by omega)
 repeat (first | apply ef_seq | (apply ef_mv; exact rfl; exact rfl) | (apply ef_bin; (iterate 3 exact rfl); (first | ((with_reducible refine bin_sub (wrap_of ?_ ?_)) <;> omega) | ((with_reducible refine bin_mul (wrap_of ?_ ?_)) <;> omega) | with_reducible exact bin_mul (by assumption))) | (apply ef_ldp; (iterate 4 exact rfl); (exact rfl); (exact rfl)) | (apply ef_fap; exact rfl; exact rfl) | (apply ef_box; (iterate 4 exact rfl)) | (apply ef_new; exact rfl) | (apply ef_build; exact rfl; (repeat (apply XVs.cons; exact rfl)); exact XVs.nil; exact rfl; exact rfl) | (apply ef_st; (iterate 6 exact rfl); (exact rfl); exact rfl) | apply ef_nil | apply seqQ.normal | apply ef_ret)
 (apply finR1; (· exact rfl); (· apply resC; (iterate 4 exact rfl); exact rd_2 rfl rfl); (· exact rfl); (· exact rfl))
theorem mf_exists : MT.mf 116 = some mfW_l116 := mfW_q116
theorem exists_c (k : Nat) (n d : Int) (h : MHeap) {t : Bool} (ht : decide (0 < d) = t) : orA (k + 1) 116 [encPt (n, d)] h = some (Bo t, h) := by
 refine callL (args' := [encPt (n, d)]) (frzL_lt rfl) rfl (runZ_of mf_exists (by simp) ?_)
 simp only [argsL]
 subst ht
 by_cases h0 : 0 < d
 ·repeat (first | apply ef_seq | (apply ef_mv; exact rfl; exact rfl) | (apply ef_bin; (iterate 3 exact rfl); (exact cmp_t rfl (by first | exact rfl | (simp only [cmpP]; omega)))) | (apply ef_ldp; (iterate 4 exact rfl); (exact rfl); (exact rfl)) | (apply ef_fap; exact rfl; exact rfl) | (apply ef_box; (iterate 4 exact rfl)) | apply ef_nil | apply seqQ.normal | apply ef_ret)
  (refine fin1 rfl (by exact rfl) rfl ?_)
  rw [decide_eq_true h0]
 ·repeat (first | apply ef_seq | (apply ef_mv; exact rfl; exact rfl) | (apply ef_bin; (iterate 3 exact rfl); (exact cmp_f rfl (by simp only [cmpP]; omega))) | (apply ef_ldp; (iterate 4 exact rfl); (exact rfl); (exact rfl)) | (apply ef_fap; exact rfl; exact rfl) | (apply ef_box; (iterate 4 exact rfl)) | apply ef_nil | apply seqQ.normal | apply ef_ret)
  (refine fin1 rfl (by exact rfl) rfl ?_)
  rw [decide_eq_false h0]
end Go.Proofs.YtnmgpbihknjdjaaGreatDoor

/- Contracts: the cut for a slope. -/
namespace Go.Proofs.YtnmgpbihknjdjaaGreatDoor
open Go.RowKit
set_option linter.unusedVariables false
abbrev outP (r : Int × Int × Int) : MV := .tup [encPt (r.1, r.2.1), I64 r.2.2]
def atR (o : Ho) (dp p q : Int) : Int × Int × Int := if firstE [holeE o, depE dp, slopeE p q] = 0 then cutR o dp p q else (0, 0, firstE [holeE o, depE dp, slopeE p q])
theorem at_ok {o : Ho} {dp p q : Int} (h : firstE [holeE o, depE dp, slopeE p q] = 0) : holeE o = 0 ∧ (1 ≤ dp ∧ dp ≤ 10000) ∧ slopeE p q = 0 := by
 obtain ⟨h1, h2⟩ := firstE_nil h
 obtain ⟨h2, h3⟩ := firstE_nil h2
 obtain ⟨h3, -⟩ := firstE_nil h3
 unfold depE at h2
 rw [unl_zero (by decide), inB_iff] at h2
 exact ⟨h1, h2, h3⟩
theorem cut_bd {o : Ho} {dp p q : Int} (ho : holeE o = 0) (hd : 1 ≤ dp ∧ dp ≤ 10000) (hs : slopeE p q = 0) : (-10000000000 ≤ cutN o dp q ∧ cutN o dp q ≤ 10000000000) ∧ -10000000000 ≤ cutD o p q ∧ cutD o p q ≤ 10000000000 := by
 obtain ⟨⟨o1, o2⟩, ⟨o3, o4⟩, _⟩ := hole_ok ho
 obtain ⟨s1, s2, s3, s4, _⟩ := slope_ok hs
 have m1 := mul_bd' (a := dp) (b := o.d) (A := 10000) (B := 1000) (by omega) hd.2 (by omega) o4
 have m2 := mul_bd' (a := dp * o.d) (b := q) (A := 10000 * 1000) (B := 1000) m1.1 m1.2 (by omega) s4
 have m3 := mul_bd' (a := o.d) (b := q) (A := 1000) (B := 1000) (by omega) o4 (by omega) s4
 have m4 := mul_bd' (a := p) (b := o.e) (A := 1000) (B := 1000) s1 s2 o1 o2
 unfold cutN cutD
 omega
theorem mf_CutAt : MT.mf 25 = some ⟨37, [(.cell 6 (some 2)), (.tmp 7)], (.seq (.reg [gO 3 (.box 3 (.s 0)), gO 5 (.box 2 (.s 2)), gO 6 (.new (.agg [(.lit (.int .i64 0)), (.lit (.int .i64 0))])), gO 7 (.mv (cI 0))]) (.seq (.seq (.reg [gO 10 (.ld (some 3) (.s 3)), gO 11 (.call 28 [.s 10]), gO 12 (.mv (.s 1)), gO 13 (.call 113 [.s 12]), gO 14 (.ld (some 2) (.s 5)), gO 15 (.call 114 [.s 14]), gO 16 (.bsl (.lit (.int .i64 0)) 1 3 [(0, (.s 11)), (1, (.s 13)), (2, (.s 15))]), gO 17 (.call 104 [.s 16]), gO 8 (.mv (.s 17))]) (.seq (.reg [gO 18 (.mv (.s 8)), gO 19 (.bin .neq (.s 18) (cI 0))]) (.cond (.s 19) (.seq (.reg [gO 20 (.build [(.lit (.int .i64 0)), (.lit (.int .i64 0))] []), gO 21 (.mv (.s 8)), ⟨none, none, .st 2 (.s 6) (.s 20)⟩, gO 7 (.mv (.s 21))]) .ret) .skip))) (.seq (.reg [gO 22 (.ld (some 3) (.s 3)), gO 23 (.mv (.s 1)), gO 24 (.ld (some 2) (.s 5)), gO 25 (.call 115 [.s 22, .s 23, .s 24]), gO 9 (.new (.agg [(.lit (.int .i64 0)), (.lit (.int .i64 0))])), ⟨none, none, .st 2 (.s 9) (.s 25)⟩]) (.seq (.seq (.reg [gO 26 (.ld (some 2) (.s 9)), gO 27 (.call 116 [.s 26]), gO 28 (.un .not (.s 27))]) (.cond (.s 28) (.seq (.reg [gO 29 (.build [(.lit (.int .i64 0)), (.lit (.int .i64 0))] []), ⟨none, none, .st 2 (.s 6) (.s 29)⟩, gO 7 (.mv (cI 12))]) .ret) .skip)) (.seq (.reg [gO 30 (.fa 0 (.s 9)), gO 31 (.ld none (.s 30)), gO 32 (.fa 1 (.s 9)), gO 33 (.ld none (.s 32)), gO 34 (.call 117 [.s 31, .s 33]), gO 35 (.ext (.s 34) 0), gO 36 (.ext (.s 34) 1), ⟨none, none, .st 2 (.s 6) (.s 35)⟩, gO 7 (.mv (.s 36))]) .ret)))))⟩ := by kernel_rfl
set_option maxHeartbeats 1000000 in
theorem CutAt_c (k : Nat) (o : Ho) (dp p q : Int) (h : MHeap) (hq : q ≤ 9223372036854775807) : orA (k + 7) 25 [encHo o, I64 dp, encPt (p, q)] h = some (outP (atR o dp p q), h) := by
 refine callTP (args' := [encHo o, I64 dp, encPt (p, q)]) (frzL_lt rfl) rfl (runZ_of mf_CutAt (by simp) ?_)
 simp only [argsL]
 have h1 := fun h => CheckHole_c (k + 2) o h rfl
 have h2 := fun h => depthErr_c (k + 2) dp h rfl
 have h3 := fun h => slopeErr_c (k + 1) p q h hq rfl
 by_cases h0 : firstE [holeE o, depE dp, slopeE p q] = 0
 ·rw [show atR o dp p q = cutR o dp p q from if_pos h0]
  obtain ⟨a1, a2, a3⟩ := at_ok h0
  have hc := fun h => cuts_c (k + 5) o dp p q h a1 a2 a3
  obtain ⟨⟨b1, b2⟩, b3, b4⟩ := cut_bd a1 a2 a3
  unfold cutR
  by_cases hx : 0 < cutD o p q
  ·rw [if_pos hx]
   have hlo := fun h => lowest_c (k + 2) (cutN o dp q) (cutD o p q) h hx (by omega) (by omega) (by omega)
   have hex := fun h => exists_c (k + 5) (cutN o dp q) (cutD o p q) h (decide_eq_true hx)
   repeat (first | apply ef_seq | (apply ef_mv; exact rfl; exact rfl) | (apply ef_bin; (iterate 3 exact rfl); (exact cmp_f rfl (by simp only [cmpP]; omega))) | (apply ef_ldp; (iterate 4 exact rfl); (exact rfl); (first | exact rd_2 rfl rfl | exact rd_3 rfl rfl rfl | exact rfl)) | (apply ef_fap; exact rfl; exact rfl) | (apply ef_notT; exact rfl; exact rfl) | (apply ef_ext; (iterate 3 exact rfl)) | (apply ef_box; (iterate 4 exact rfl)) | (apply ef_new; exact rfl) | (apply ef_bsl; exact rfl; (repeat (apply XVs.cons; exact rfl)); exact XVs.nil; exact rfl) | (apply ef_st; (iterate 6 exact rfl); (exact rfl); exact rfl) | apply ef_nil | apply seqQ.normal | apply ef_ret | apply ef_skip | (apply ef_condf; exact rfl; (exact (rfl : false = false))) | (apply ef_call; exact rfl; ((repeat (apply XVs.cons; exact rfl)); exact XVs.nil); (with_reducible first | exact h1 _ | exact h2 _ | exact h3 _ | exact hc _ | exact hex _ | exact hlo _)) | (apply ef_call; exact rfl; ((repeat (apply XVs.cons; exact rfl)); exact XVs.nil); (with_reducible apply first3_c); (iterate 3 exact rfl); (assumption)))
   refine finR2 (v := encPt ((lowR (cutN o dp q) (cutD o p q)).1, (lowR (cutN o dp q) (cutD o p q)).2.1)) (w := I64 (lowR (cutN o dp q) (cutD o p q)).2.2) rfl ?_ (by exact rfl) rfl rfl rfl
   apply resC <;> exact rfl
  ·rw [if_neg hx]
   have hex := fun h => exists_c (k + 5) (cutN o dp q) (cutD o p q) h (decide_eq_false hx)
   repeat (first | apply ef_seq | (apply ef_mv; exact rfl; exact rfl) | (apply ef_bin; (iterate 3 exact rfl); (exact cmp_f rfl (by simp only [cmpP]; omega))) | (apply ef_ldp; (iterate 4 exact rfl); (exact rfl); (first | exact rd_2 rfl rfl | exact rd_3 rfl rfl rfl)) | (apply ef_notF; exact rfl; exact rfl) | (apply ef_box; (iterate 4 exact rfl)) | (apply ef_new; exact rfl) | (apply ef_build; exact rfl; (repeat (apply XVs.cons; exact rfl)); exact XVs.nil; exact rfl; exact rfl) | (apply ef_bsl; exact rfl; (repeat (apply XVs.cons; exact rfl)); exact XVs.nil; exact rfl) | (apply ef_st; (iterate 6 exact rfl); (exact rfl); exact rfl) | apply ef_nil | apply seqQ.normal | apply ef_ret | apply seqQ.ret | apply ef_skip | (apply ef_condt; exact rfl; (exact (rfl : true = true))) | (apply ef_condf; exact rfl; (exact (rfl : false = false))) | (apply ef_call; exact rfl; ((repeat (apply XVs.cons; exact rfl)); exact XVs.nil); (with_reducible first | exact h1 _ | exact h2 _ | exact h3 _ | exact hc _ | exact hex _)) | (apply ef_call; exact rfl; ((repeat (apply XVs.cons; exact rfl)); exact XVs.nil); (with_reducible apply first3_c); (iterate 3 exact rfl); (assumption)))
   refine finR2 (v := encPt (0, 0)) (w := I64 12) rfl ?_ (by exact rfl) rfl rfl rfl
   apply resC <;> exact rfl
 ·rw [show atR o dp p q = _ from if_neg h0]
  repeat (first | apply ef_seq | (apply ef_mv; exact rfl; exact rfl) | (apply ef_bin; (iterate 3 exact rfl); (exact cmp_t rfl (by first | exact rfl | (simp only [cmpP]; omega)))) | (apply ef_ldp; (iterate 4 exact rfl); (exact rfl); (first | exact rd_2 rfl rfl | exact rd_3 rfl rfl rfl)) | (apply ef_box; (iterate 4 exact rfl)) | (apply ef_new; exact rfl) | (apply ef_build; exact rfl; (repeat (apply XVs.cons; exact rfl)); exact XVs.nil; exact rfl; exact rfl) | (apply ef_bsl; exact rfl; (repeat (apply XVs.cons; exact rfl)); exact XVs.nil; exact rfl) | (apply ef_st; (iterate 6 exact rfl); (exact rfl); exact rfl) | apply ef_nil | apply seqQ.normal | apply ef_ret | apply seqQ.ret | (apply ef_condt; exact rfl; (exact (rfl : true = true))) | (apply ef_call; exact rfl; ((repeat (apply XVs.cons; exact rfl)); exact XVs.nil); (with_reducible first | exact h1 _ | exact h2 _ | exact h3 _)) | (apply ef_call; exact rfl; ((repeat (apply XVs.cons; exact rfl)); exact XVs.nil); (with_reducible apply first3_c); (iterate 3 exact rfl); (exact rfl)))
  refine finR2 (v := encPt (0, 0)) (w := I64 (firstE [holeE o, depE dp, slopeE p q])) rfl ?_ (by exact rfl) rfl rfl rfl
  apply resC <;> exact rfl
abbrev enc4 (a b c d : Int) : MV := .agg [I64 a, I64 b, I64 c, I64 d]
theorem call4 {k f : Nat} {args args' : List MV} {h : MHeap} {a b c d : Int} (h1 : args.mapM (frz 0 [] h 8) = some args') (hT : tA f args' [] = none) (h2 : runZ MT (orA k) (itA k) 4000000 f args' [] = some (enc4 a b c d, [])) : orA (k + 1) f args h = some (enc4 a b c d, h) := by
 have := callA h1 hT h2 (by cases ltL 0 args <;> rfl) rfl
 rw [List.append_nil] at this
 exact this
theorem mf_ends : MT.mf 119 = some mfW_l119 := mfW_q119
theorem ends_c (k : Nat) (o : Ho) (x : Ly) (h : MHeap) (ho : holeE o = 0) (hd : 1 ≤ x.dp ∧ x.dp ≤ 10000) (hs : slopeE x.a x.b = 0) (ht : slopeE x.c x.d = 0) :
  orA (k + 2) 119 [encHo o, encLy x] h = some (if o.e < 0 then enc4 (cutN o x.dp x.d) (cutD o x.c x.d) (cutN o x.dp x.b) (cutD o x.a x.b) else enc4 (cutN o x.dp x.b) (cutD o x.a x.b) (cutN o x.dp x.d) (cutD o x.c x.d), h) := by
 have h1 := fun h => cuts_c k o x.dp x.a x.b h ho hd hs
 have h2 := fun h => cuts_c k o x.dp x.c x.d h ho hd ht
 by_cases he : o.e < 0
 ·rw [if_pos he]
  refine call4 (args' := [encHo o, encLy x]) (frzL_lt rfl) rfl (runZ_of mf_ends (by simp) ?_)
  simp only [argsL]
  repeat (first | apply ef_seq | (apply ef_bin; (iterate 3 exact rfl); (exact cmp_t rfl (by first | exact rfl | (simp only [cmpP]; omega)))) | (apply ef_ldp; (iterate 4 exact rfl); (exact rfl); (first | exact rd_2 rfl rfl | exact rd_3 rfl rfl rfl | exact rd_4 rfl rfl rfl rfl | exact rfl)) | (apply ef_iaap; (iterate 3 exact rfl); (omega); (omega)) | (apply ef_fap; exact rfl; exact rfl) | (apply ef_box; (iterate 4 exact rfl)) | (apply ef_new; exact rfl) | (apply ef_build; exact rfl; (repeat (apply XVs.cons; exact rfl)); exact XVs.nil; exact rfl; exact rfl) | (apply ef_nilck; (iterate 3 exact rfl)) | (apply ef_st; (iterate 6 exact rfl); (exact rfl); exact rfl) | apply ef_nil | apply seqQ.normal | apply ef_ret | (apply ef_condt; exact rfl; (exact (rfl : true = true))) | (apply ef_call; exact rfl; ((repeat (apply XVs.cons; exact rfl)); exact XVs.nil); (with_reducible first | exact h1 _ | exact h2 _)))
  refine finR1 (v := enc4 _ _ _ _) rfl ?_ (by exact rfl) rfl
  apply resC <;> exact rfl
 ·rw [if_neg he]
  refine call4 (args' := [encHo o, encLy x]) (frzL_lt rfl) rfl (runZ_of mf_ends (by simp) ?_)
  simp only [argsL]
  repeat (first | apply ef_seq | (apply ef_bin; (iterate 3 exact rfl); (exact cmp_f rfl (by simp only [cmpP]; omega))) | (apply ef_ldp; (iterate 4 exact rfl); (exact rfl); (first | exact rd_2 rfl rfl | exact rd_3 rfl rfl rfl | exact rd_4 rfl rfl rfl rfl | exact rfl)) | (apply ef_fap; exact rfl; exact rfl) | (apply ef_box; (iterate 4 exact rfl)) | (apply ef_new; exact rfl) | (apply ef_build; exact rfl; (repeat (apply XVs.cons; exact rfl)); exact XVs.nil; exact rfl; exact rfl) | (apply ef_nilck; (iterate 3 exact rfl)) | (apply ef_st; (iterate 6 exact rfl); (exact rfl); exact rfl) | apply ef_nil | apply seqQ.normal | apply ef_ret | apply ef_skip | (apply ef_condf; exact rfl; (exact (rfl : false = false))) | (apply ef_call; exact rfl; ((repeat (apply XVs.cons; exact rfl)); exact XVs.nil); (with_reducible first | exact h1 _ | exact h2 _)))
  refine finR1 (v := enc4 _ _ _ _) rfl ?_ (by exact rfl) rfl
  apply resC <;> exact rfl
end Go.Proofs.YtnmgpbihknjdjaaGreatDoor

/- Contracts: the cuts of a layer. -/
namespace Go.Proofs.YtnmgpbihknjdjaaGreatDoor
open Go.RowKit
set_option linter.unusedVariables false
abbrev out5 (r : R5) : MV := .tup [enc4 r.1 r.2.1 r.2.2.1 r.2.2.2.1, I64 r.2.2.2.2]
theorem call5 {k f : Nat} {args args' : List MV} {h : MHeap} {r : R5} (h1 : args.mapM (frz 0 [] h 8) = some args') (hT : tA f args' [] = none) (h2 : runZ MT (orA k) (itA k) 4000000 f args' [] = some (out5 r, [])) : orA (k + 1) f args h = some (out5 r, h) := by
 have := callA h1 hT h2 (by cases ltL 0 args <;> rfl) rfl
 rw [List.append_nil] at this
 exact this
def ofR (o : Ho) (x : Ly) : R5 := if firstE [holeE o, layE x] = 0 then cutsP o x else (0, 0, 0, 0, firstE [holeE o, layE x])
theorem mf_CutsOf : MT.mf 26 = some mfW_l26 := mfW_q26
set_option maxHeartbeats 2000000 in
theorem CutsOf_k (k : Nat) (o : Ho) (x : Ly) (hb : x.b ≤ 9223372036854775807) (hd0 : x.d ≤ 9223372036854775807) (h0 : firstE [holeE o, layE x] = 0) (n d m e : Int) (hen : ∀ h, orA (k + 6) 119 [encHo o, encLy x] h = some (enc4 n d m e, h))
  (hn : -10000000000 ≤ n ∧ n ≤ 10000000000) (hd' : -10000000000 ≤ d ∧ d ≤ 10000000000) (hm : -10000000000 ≤ m ∧ m ≤ 10000000000) (he' : -10000000000 ≤ e ∧ e ≤ 10000000000) :
  runZ MT (orA (k + 6)) (itA (k + 6)) 4000000 26 [encHo o, encLy x] [] = some (out5 (if 0 < d ∧ 0 < e then both (lowR n d) (lowR m e) else (0, 0, 0, 0, 21)), []) := by
 refine runZ_of mf_CutsOf (by simp) ?_
 simp only [argsL]
 have h1 := fun h => CheckHole_c (k + 2) o h rfl
 have h2 := fun h => layerErr_c k x h hb hd0 rfl
 by_cases hx : 0 < d
 ·by_cases hy : 0 < e
  ·rw [if_pos ⟨hx, hy⟩]
   have g1 := fun h => exists_c (k + 5) n d h (decide_eq_true hx)
   have g2 := fun h => exists_c (k + 5) m e h (decide_eq_true hy)
   have l1 := fun h => lowest_c (k + 2) n d h hx (by omega) (by omega) (by omega)
   have l2 := fun h => lowest_c (k + 2) m e h hy (by omega) (by omega) (by omega)
   unfold both
   by_cases hf : firstE [(lowR n d).2.2, (lowR m e).2.2] = 0
   ·rw [if_pos hf]
    repeat (first | apply ef_seq | (apply ef_mv; exact rfl; exact rfl) | (apply ef_bin; (iterate 3 exact rfl); (exact cmp_f rfl (by simp only [cmpP]; omega))) | (apply ef_gy; exact rfl; (exact (rfl : false = false))) | (apply ef_pick; (iterate 3 exact rfl)) | (apply ef_ldp; (iterate 4 exact rfl); (exact rfl); (first | exact rd_2 rfl rfl | exact rd_3 rfl rfl rfl | exact rd_5 rfl rfl rfl rfl rfl | exact rfl)) | (apply ef_iaap; (iterate 3 exact rfl); (omega); (omega)) | (apply ef_fap; exact rfl; exact rfl) | (apply ef_notT; exact rfl; exact rfl) | (apply ef_ext; (iterate 3 exact rfl)) | (apply ef_box; (iterate 4 exact rfl)) | (apply ef_new; exact rfl) | (apply ef_build; exact rfl; (repeat (apply XVs.cons; exact rfl)); exact XVs.nil; exact rfl; exact rfl) | (apply ef_bsl; exact rfl; (repeat (apply XVs.cons; exact rfl)); exact XVs.nil; exact rfl) | (apply ef_st; (iterate 6 exact rfl); (exact rfl); exact rfl) | apply ef_nil | apply seqQ.normal | apply ef_ret | apply ef_skip | (apply ef_condf; exact rfl; (exact (rfl : false = false))) | (apply ef_call; exact rfl; ((repeat (apply XVs.cons; exact rfl)); exact XVs.nil); (with_reducible first | exact h1 _ | exact h2 _ | exact hen _ | exact g1 _ | exact g2 _ | exact l1 _ | exact l2 _)) | (apply ef_call; exact rfl; ((repeat (apply XVs.cons; exact rfl)); exact XVs.nil); (with_reducible apply first2_c); (iterate 3 exact rfl); (assumption)))
    refine finR2 (v := enc4 _ _ _ _) (w := I64 0) rfl ?_ (by exact rfl) rfl rfl rfl
    apply resC <;> exact rfl
   ·rw [if_neg hf]
    repeat (first | apply ef_seq | (apply ef_mv; exact rfl; exact rfl) | (apply ef_bin; (iterate 3 exact rfl); (first | exact cmp_t rfl (by first | exact rfl | (simp only [cmpP]; omega)) | exact cmp_f rfl (by simp only [cmpP]; omega))) | (apply ef_gy; exact rfl; (exact (rfl : false = false))) | (apply ef_pick; (iterate 3 exact rfl)) | (apply ef_ldp; (iterate 4 exact rfl); (exact rfl); (first | exact rd_2 rfl rfl | exact rd_3 rfl rfl rfl | exact rd_5 rfl rfl rfl rfl rfl | exact rfl)) | (apply ef_iaap; (iterate 3 exact rfl); (omega); (omega)) | (apply ef_fap; exact rfl; exact rfl) | (apply ef_notT; exact rfl; exact rfl) | (apply ef_ext; (iterate 3 exact rfl)) | (apply ef_box; (iterate 4 exact rfl)) | (apply ef_new; exact rfl) | (apply ef_build; exact rfl; (repeat (apply XVs.cons; exact rfl)); exact XVs.nil; exact rfl; exact rfl) | (apply ef_bsl; exact rfl; (repeat (apply XVs.cons; exact rfl)); exact XVs.nil; exact rfl) | (apply ef_st; (iterate 6 exact rfl); (exact rfl); exact rfl) | apply ef_nil | apply seqQ.normal | apply ef_ret | apply seqQ.ret | apply ef_skip | (apply ef_condt; exact rfl; (exact (rfl : true = true))) | (apply ef_condf; exact rfl; (exact (rfl : false = false))) | (apply ef_call; exact rfl; ((repeat (apply XVs.cons; exact rfl)); exact XVs.nil); (with_reducible first | exact h1 _ | exact h2 _ | exact hen _ | exact g1 _ | exact g2 _ | exact l1 _ | exact l2 _)) | (apply ef_call; exact rfl; ((repeat (apply XVs.cons; exact rfl)); exact XVs.nil); (with_reducible apply first2_c); (iterate 3 exact rfl); (first | assumption | exact rfl)))
    refine finR2 (v := enc4 0 0 0 0) (w := I64 (firstE [(lowR n d).2.2, (lowR m e).2.2])) rfl ?_ (by exact rfl) rfl rfl rfl
    apply resC <;> exact rfl
  ·rw [if_neg (fun h => hy h.2)]
   have g1 := fun h => exists_c (k + 5) n d h (decide_eq_true hx)
   have g2 := fun h => exists_c (k + 5) m e h (decide_eq_false hy)
   repeat (first | apply ef_seq | (apply ef_mv; exact rfl; exact rfl) | (apply ef_bin; (iterate 3 exact rfl); (exact cmp_f rfl (by simp only [cmpP]; omega))) | (apply ef_gy; exact rfl; (exact (rfl : false = false))) | (apply ef_pick; (iterate 3 exact rfl)) | (apply ef_ldp; (iterate 4 exact rfl); (exact rfl); (first | exact rd_2 rfl rfl | exact rd_3 rfl rfl rfl | exact rd_5 rfl rfl rfl rfl rfl)) | (apply ef_iaap; (iterate 3 exact rfl); (omega); (omega)) | (apply ef_notT; exact rfl; exact rfl) | (apply ef_notF; exact rfl; exact rfl) | (apply ef_box; (iterate 4 exact rfl)) | (apply ef_new; exact rfl) | (apply ef_build; exact rfl; (repeat (apply XVs.cons; exact rfl)); exact XVs.nil; exact rfl; exact rfl) | (apply ef_bsl; exact rfl; (repeat (apply XVs.cons; exact rfl)); exact XVs.nil; exact rfl) | (apply ef_st; (iterate 6 exact rfl); (exact rfl); exact rfl) | apply ef_nil | apply seqQ.normal | apply ef_ret | apply seqQ.ret | apply ef_skip | (apply ef_condt; exact rfl; (exact (rfl : true = true))) | (apply ef_condf; exact rfl; (exact (rfl : false = false))) | (apply ef_call; exact rfl; ((repeat (apply XVs.cons; exact rfl)); exact XVs.nil); (with_reducible first | exact h1 _ | exact h2 _ | exact hen _ | exact g1 _ | exact g2 _)) | (apply ef_call; exact rfl; ((repeat (apply XVs.cons; exact rfl)); exact XVs.nil); (with_reducible apply first2_c); (iterate 3 exact rfl); (assumption)))
   refine finR2 (v := enc4 0 0 0 0) (w := I64 21) rfl ?_ (by exact rfl) rfl rfl rfl
   apply resC <;> exact rfl
 ·rw [if_neg (fun h => hx h.1)]
  have g1 := fun h => exists_c (k + 5) n d h (decide_eq_false hx)
  repeat (first | apply ef_seq | (apply ef_mv; exact rfl; exact rfl) | (apply ef_bin; (iterate 3 exact rfl); (exact cmp_f rfl (by simp only [cmpP]; omega))) | (apply ef_gn; exact rfl; (exact (rfl : true = true)); exact rfl) | (apply ef_pick; (iterate 3 exact rfl)) | (apply ef_ldp; (iterate 4 exact rfl); (exact rfl); (first | exact rd_2 rfl rfl | exact rd_3 rfl rfl rfl | exact rd_5 rfl rfl rfl rfl rfl)) | (apply ef_iaap; (iterate 3 exact rfl); (omega); (omega)) | (apply ef_notF; exact rfl; exact rfl) | (apply ef_box; (iterate 4 exact rfl)) | (apply ef_new; exact rfl) | (apply ef_build; exact rfl; (repeat (apply XVs.cons; exact rfl)); exact XVs.nil; exact rfl; exact rfl) | (apply ef_bsl; exact rfl; (repeat (apply XVs.cons; exact rfl)); exact XVs.nil; exact rfl) | (apply ef_st; (iterate 6 exact rfl); (exact rfl); exact rfl) | apply ef_nil | apply seqQ.normal | apply ef_ret | apply seqQ.ret | apply ef_skip | (apply ef_condt; exact rfl; (exact (rfl : true = true))) | (apply ef_condf; exact rfl; (exact (rfl : false = false))) | (apply ef_call; exact rfl; ((repeat (apply XVs.cons; exact rfl)); exact XVs.nil); (with_reducible first | exact h1 _ | exact h2 _ | exact hen _ | exact g1 _)) | (apply ef_call; exact rfl; ((repeat (apply XVs.cons; exact rfl)); exact XVs.nil); (with_reducible apply first2_c); (iterate 3 exact rfl); (assumption)))
  refine finR2 (v := enc4 0 0 0 0) (w := I64 21) rfl ?_ (by exact rfl) rfl rfl rfl
  apply resC <;> exact rfl
theorem CutsOf_n (k : Nat) (o : Ho) (x : Ly) (hb : x.b ≤ 9223372036854775807) (hd : x.d ≤ 9223372036854775807) (h0 : ¬ firstE [holeE o, layE x] = 0) : runZ MT (orA (k + 6)) (itA (k + 6)) 4000000 26 [encHo o, encLy x] [] = some (out5 (0, 0, 0, 0, firstE [holeE o, layE x]), []) := by
 refine runZ_of mf_CutsOf (by simp) ?_
 simp only [argsL]
 have h1 := fun h => CheckHole_c (k + 2) o h rfl
 have h2 := fun h => layerErr_c k x h hb hd rfl
 repeat (first | apply ef_seq | (apply ef_mv; exact rfl; exact rfl) | (apply ef_bin; (iterate 3 exact rfl); (exact cmp_t rfl (by first | exact rfl | (simp only [cmpP]; omega)))) | (apply ef_ldp; (iterate 4 exact rfl); (exact rfl); (first | exact rd_3 rfl rfl rfl | exact rd_5 rfl rfl rfl rfl rfl)) | (apply ef_box; (iterate 4 exact rfl)) | (apply ef_new; exact rfl) | (apply ef_build; exact rfl; (repeat (apply XVs.cons; exact rfl)); exact XVs.nil; exact rfl; exact rfl) | (apply ef_bsl; exact rfl; (repeat (apply XVs.cons; exact rfl)); exact XVs.nil; exact rfl) | (apply ef_st; (iterate 6 exact rfl); (exact rfl); exact rfl) | apply ef_nil | apply seqQ.normal | apply ef_ret | apply seqQ.ret | (apply ef_condt; exact rfl; (exact (rfl : true = true))) | (apply ef_call; exact rfl; ((repeat (apply XVs.cons; exact rfl)); exact XVs.nil); (with_reducible first | exact h1 _ | exact h2 _)) | (apply ef_call; exact rfl; ((repeat (apply XVs.cons; exact rfl)); exact XVs.nil); (with_reducible apply first2_c); (iterate 3 exact rfl); (exact rfl)))
 refine finR2 (v := enc4 0 0 0 0) (w := I64 (firstE [holeE o, layE x])) rfl ?_ (by exact rfl) rfl rfl rfl
 apply resC <;> exact rfl
theorem CutsOf_c (k : Nat) (o : Ho) (x : Ly) (h : MHeap) (hb : x.b ≤ 9223372036854775807) (hd : x.d ≤ 9223372036854775807) : orA (k + 7) 26 [encHo o, encLy x] h = some (out5 (ofR o x), h) := by
 refine call5 (args' := [encHo o, encLy x]) (frzL_lt rfl) rfl ?_
 by_cases h0 : firstE [holeE o, layE x] = 0
 ·rw [show ofR o x = cutsP o x from if_pos h0]
  obtain ⟨a1, h3⟩ := firstE_nil h0
  obtain ⟨a2, -⟩ := firstE_nil h3
  obtain ⟨b1, b2, b3, _⟩ := lay_ok a2
  have he := fun h => ends_c (k + 4) o x h a1 b1 b2 b3
  obtain ⟨c1, c3⟩ := cut_bd a1 b1 b2
  obtain ⟨d1, d3⟩ := cut_bd a1 b1 b3
  unfold cutsP
  by_cases hneg : o.e < 0
  ·have := CutsOf_k k o x hb hd h0 _ _ _ _ (fun h => by rw [he h, if_pos hneg]) d1 d3 c1 c3
   rw [this]
   by_cases p1 : 0 < cutD o x.a x.b <;> by_cases p2 : 0 < cutD o x.c x.d <;> simp [p1, p2, hneg]
  ·have := CutsOf_k k o x hb hd h0 _ _ _ _ (fun h => by rw [he h, if_neg hneg]) c1 c3 d1 d3
   rw [this]
   by_cases p1 : 0 < cutD o x.a x.b <;> by_cases p2 : 0 < cutD o x.c x.d <;> simp [p1, p2, hneg]
 ·rw [show ofR o x = _ from if_neg h0]
  exact CutsOf_n k o x hb hd h0
end Go.Proofs.YtnmgpbihknjdjaaGreatDoor

/- Contracts: the document's holes, layers and cuts. -/
namespace Go.Proofs.YtnmgpbihknjdjaaGreatDoor
open Go.RowKit
set_option linter.unusedVariables false
theorem mf_HoleErr : MT.mf 27 = some ⟨19, [(.tmp 2)], (.seq (.reg [gO 1 (.box 3 (.s 0)), gO 2 (.mv (cI 0))]) (.seq (.seq (.reg [gO 3 (.fa 0 (.s 1)), gO 4 (.ld none (.s 3)), gO 5 (.call 53 [.s 4, (cI (-1000)), (cI 1000)]), gO 6 (.un .not (.s 5)), gO 7 (.mv (.s 6)), ⟨some (7, false), some 8, .fa 1 (.s 1)⟩, ⟨some (7, false), some 9, .ld none (.s 8)⟩, ⟨some (7, false), some 10, .call 53 [.s 9, (cI 1), (cI 1000)]⟩, ⟨some (7, false), some 11, .un .not (.s 10)⟩, gO 12 (.pick (.s 7) cT (.s 11)), gO 13 (.mv (.s 12)), ⟨some (13, false), some 14, .fa 2 (.s 1)⟩, ⟨some (13, false), some 15, .ld none (.s 14)⟩, ⟨some (13, false), some 16, .call 53 [.s 15, (cI 1), (cI 10000)]⟩, ⟨some (13, false), some 17, .un .not (.s 16)⟩, gO 18 (.pick (.s 13) cT (.s 17))]) (.cond (.s 18) (.seq (.reg [gO 2 (.mv (cI 2))]) .ret) .skip)) (.seq (.reg [gO 2 (.mv (cI 0))]) .ret)))⟩ := by kernel_rfl
theorem HoleErr_c (k : Nat) (o : Ho) (h : MHeap) {e : Int} (he : holeE o = e) : orA (k + 2) 27 [encHo o] h = some (I64 e, h) := by
 refine callL (args' := [encHo o]) (frzL_lt rfl) rfl (runZ_of mf_HoleErr (by simp) ?_)
 simp only [argsL]
 subst he
 unfold holeE
 cases h1 : inB o.e (-1000) 1000 <;> cases h2 : inB o.d 1 1000 <;> cases h3 : inB o.b 1 10000
 all_goals repeat (first | apply ef_seq | (apply ef_mv; exact rfl; exact rfl) | (apply ef_gy; exact rfl; (exact (rfl : false = false))) | (apply ef_gn; exact rfl; (exact (rfl : true = true)); exact rfl) | (apply ef_pick; (iterate 3 exact rfl)) | (apply ef_ldp; (iterate 4 exact rfl); (exact rfl); (exact rfl)) | (apply ef_fap; exact rfl; exact rfl) | (apply ef_notT; exact rfl; exact rfl) | (apply ef_notF; exact rfl; exact rfl) | (apply ef_box; (iterate 4 exact rfl)) | apply ef_nil | apply seqQ.normal | apply ef_ret | apply seqQ.ret | apply ef_skip | (apply ef_condt; exact rfl; (exact (rfl : true = true))) | (apply ef_condf; exact rfl; (exact (rfl : false = false))) | (apply ef_call; exact rfl; ((repeat (apply XVs.cons; exact rfl)); exact XVs.nil); (with_reducible first | exact Within_c k _ _ _ _ h1 | exact Within_c k _ _ _ _ h2 | exact Within_c k _ _ _ _ h3)))
 all_goals ((refine fin1 rfl (by exact rfl) rfl ?_); rfl)
theorem mf_DepthErr : MT.mf 29 = some ⟨6, [(.tmp 2)], (.seq (.reg [gO 2 (.mv (cI 0))]) (.seq (.seq (.reg [gO 3 (.mv (.s 0)), gO 4 (.call 53 [.s 3, (cI 1), (cI 10000)]), gO 5 (.un .not (.s 4))]) (.cond (.s 5) (.seq (.reg [gO 2 (.mv (cI 2))]) .ret) .skip)) (.seq (.reg [gO 2 (.mv (cI 0))]) .ret)))⟩ := by kernel_rfl
theorem DepthErr_c (k : Nat) (n : Int) (h : MHeap) {e : Int} (he : depE n = e) : orA (k + 2) 29 [I64 n] h = some (I64 e, h) := by
 refine callL (args' := [I64 n]) (frz_lits [.int .i64 n]) rfl (runZ_of mf_DepthErr (by simp) ?_)
 simp only [argsL]
 subst he
 unfold depE
 cases h1 : inB n 1 10000
 all_goals repeat (first | apply ef_seq | (apply ef_mv; exact rfl; exact rfl) | (apply ef_notT; exact rfl; exact rfl) | (apply ef_notF; exact rfl; exact rfl) | apply ef_nil | apply seqQ.normal | apply ef_ret | apply seqQ.ret | apply ef_skip | (apply ef_condt; exact rfl; (exact (rfl : true = true))) | (apply ef_condf; exact rfl; (exact (rfl : false = false))) | (apply ef_call; exact rfl; ((repeat (apply XVs.cons; exact rfl)); exact XVs.nil); (with_reducible exact Within_c k _ _ _ _ h1)))
 all_goals ((refine fin1 rfl (by exact rfl) rfl ?_); rfl)
theorem mf_bIsLow : MT.mf 41 = some ⟨14, [(.tmp 2)], (.seq (.reg [gO 1 (.box 2 (.s 0)), gO 2 (.mv cF)]) (.seq (.reg [gO 3 (.fa 1 (.s 1)), gO 4 (.ld none (.s 3)), gO 5 (.bin .gtr (.s 4) (cI 0)), gO 6 (.mv (.s 5)), ⟨some (6, true), some 7, .fa 0 (.s 1)⟩, ⟨some (6, true), some 8, .ld none (.s 7)⟩, ⟨some (6, true), some 9, .fa 1 (.s 1)⟩, ⟨some (6, true), some 10, .ld none (.s 9)⟩, ⟨some (6, true), some 11, .call 131 [.s 8, .s 10]⟩, ⟨some (6, true), some 12, .bin .eql (.s 11) (cI 1)⟩, gO 13 (.pick (.s 6) (.s 12) cF), gO 2 (.mv (.s 13))]) .ret))⟩ := by kernel_rfl
theorem bIsLow_c (k : Nat) (p q : Int) (h : MHeap) (h4 : q ≤ 9223372036854775807) {t : Bool} (ht : isLow p q = t) : orA (k + 3) 41 [encPt (p, q)] h = some (Bo t, h) := by
 refine callL (args' := [encPt (p, q)]) (frzL_lt rfl) rfl (runZ_of mf_bIsLow (by simp) ?_)
 simp only [argsL]
 subst ht
 unfold isLow
 by_cases h0 : 0 < q
 ·have hd := fun h => bGcd_c k p q h (fun e => by omega) (by omega) h4
  generalize (Int.gcd p q : Int) = G at *
  by_cases hG : G = 1
  ·repeat (first | apply ef_seq | (apply ef_mv; exact rfl; exact rfl) | (apply ef_bin; (iterate 3 exact rfl); (exact cmp_t rfl (by first | exact rfl | (simp only [cmpP]; omega)))) | (apply ef_gy; exact rfl; (exact (rfl : true = true))) | (apply ef_pick; (iterate 3 exact rfl)) | (apply ef_ldp; (iterate 4 exact rfl); (exact rfl); (exact rfl)) | (apply ef_fap; exact rfl; exact rfl) | (apply ef_box; (iterate 4 exact rfl)) | apply ef_nil | apply seqQ.normal | apply ef_ret | (apply ef_call; exact rfl; ((repeat (apply XVs.cons; exact rfl)); exact XVs.nil); (with_reducible exact hd _)))
   (refine fin1 rfl (by exact rfl) rfl ?_)
   simp [h0, hG]
  ·repeat (first | apply ef_seq | (apply ef_mv; exact rfl; exact rfl) | (apply ef_bin; (iterate 3 exact rfl); (first | exact cmp_t rfl (by first | exact rfl | (simp only [cmpP]; omega)) | exact cmp_f rfl (by simp only [cmpP]; omega))) | (apply ef_gy; exact rfl; (exact (rfl : true = true))) | (apply ef_pick; (iterate 3 exact rfl)) | (apply ef_ldp; (iterate 4 exact rfl); (exact rfl); (exact rfl)) | (apply ef_fap; exact rfl; exact rfl) | (apply ef_box; (iterate 4 exact rfl)) | apply ef_nil | apply seqQ.normal | apply ef_ret | (apply ef_call; exact rfl; ((repeat (apply XVs.cons; exact rfl)); exact XVs.nil); (with_reducible exact hd _)))
   (refine fin1 rfl (by exact rfl) rfl ?_)
   simp [h0, hG]
 ·repeat (first | apply ef_seq | (apply ef_mv; exact rfl; exact rfl) | (apply ef_bin; (iterate 3 exact rfl); (exact cmp_f rfl (by simp only [cmpP]; omega))) | (apply ef_gn; exact rfl; (exact (rfl : false = false)); exact rfl) | (apply ef_pick; (iterate 3 exact rfl)) | (apply ef_ldp; (iterate 4 exact rfl); (exact rfl); (exact rfl)) | (apply ef_fap; exact rfl; exact rfl) | (apply ef_box; (iterate 4 exact rfl)) | apply ef_nil | apply seqQ.normal | apply ef_ret)
  (refine fin1 rfl (by exact rfl) rfl ?_)
  simp [h0]
theorem mf_SlopeErr : MT.mf 30 = some ⟨15, [(.tmp 2)], (.seq (.reg [gO 1 (.box 2 (.s 0)), gO 2 (.mv (cI 0))]) (.seq (.seq (.reg [gO 3 (.ld (some 2) (.s 1)), gO 4 (.call 41 [.s 3]), gO 5 (.un .not (.s 4))]) (.cond (.s 5) (.seq (.reg [gO 2 (.mv (cI 3))]) .ret) .skip)) (.seq (.seq (.reg [gO 6 (.fa 0 (.s 1)), gO 7 (.ld none (.s 6)), gO 8 (.call 53 [.s 7, (cI (-1000)), (cI 1000)]), gO 9 (.un .not (.s 8)), gO 10 (.mv (.s 9)), ⟨some (10, false), some 11, .fa 1 (.s 1)⟩, ⟨some (10, false), some 12, .ld none (.s 11)⟩, ⟨some (10, false), some 13, .bin .gtr (.s 12) (cI 1000)⟩, gO 14 (.pick (.s 10) cT (.s 13))]) (.cond (.s 14) (.seq (.reg [gO 2 (.mv (cI 2))]) .ret) .skip)) (.seq (.reg [gO 2 (.mv (cI 0))]) .ret))))⟩ := by kernel_rfl
theorem SlopeErr_c (k : Nat) (p q : Int) (h : MHeap) (hq : q ≤ 9223372036854775807) {e : Int} (he : slopeE p q = e) : orA (k + 4) 30 [encPt (p, q)] h = some (I64 e, h) := by
 refine callL (args' := [encPt (p, q)]) (frzL_lt rfl) rfl (runZ_of mf_SlopeErr (by simp) ?_)
 simp only [argsL]
 subst he
 unfold slopeE
 cases hl : isLow p q
 ·repeat (first | apply ef_seq | (apply ef_mv; exact rfl; exact rfl) | (apply ef_ldp; (iterate 4 exact rfl); (exact rfl); (exact rd_2 rfl rfl)) | (apply ef_notF; exact rfl; exact rfl) | (apply ef_box; (iterate 4 exact rfl)) | apply ef_nil | apply seqQ.normal | apply ef_ret | apply seqQ.ret | (apply ef_condt; exact rfl; (exact (rfl : true = true))) | (apply ef_call; exact rfl; ((repeat (apply XVs.cons; exact rfl)); exact XVs.nil); (with_reducible exact bIsLow_c k p q _ hq hl)))
  (refine fin1 rfl (by exact rfl) rfl ?_)
  rfl
 ·by_cases h2 : q ≤ 1000
  ·rw [decide_eq_true h2]
   cases h1 : inB p (-1000) 1000
   all_goals repeat (first | apply ef_seq | (apply ef_mv; exact rfl; exact rfl) | (apply ef_bin; (iterate 3 exact rfl); (exact cmp_f rfl (by simp only [cmpP]; omega))) | (apply ef_gy; exact rfl; (exact (rfl : false = false))) | (apply ef_gn; exact rfl; (exact (rfl : true = true)); exact rfl) | (apply ef_pick; (iterate 3 exact rfl)) | (apply ef_ldp; (iterate 4 exact rfl); (exact rfl); (first | exact rd_2 rfl rfl | exact rfl)) | (apply ef_fap; exact rfl; exact rfl) | (apply ef_notT; exact rfl; exact rfl) | (apply ef_notF; exact rfl; exact rfl) | (apply ef_box; (iterate 4 exact rfl)) | apply ef_nil | apply seqQ.normal | apply ef_ret | apply seqQ.ret | apply ef_skip | (apply ef_condt; exact rfl; (exact (rfl : true = true))) | (apply ef_condf; exact rfl; (exact (rfl : false = false))) | (apply ef_call; exact rfl; ((repeat (apply XVs.cons; exact rfl)); exact XVs.nil); (with_reducible first | exact bIsLow_c k p q _ hq hl | exact Within_c (k + 2) _ _ _ _ h1)))
   all_goals ((refine fin1 rfl (by exact rfl) rfl ?_); rfl)
  ·rw [decide_eq_false h2]
   cases h1 : inB p (-1000) 1000
   all_goals repeat (first | apply ef_seq | (apply ef_mv; exact rfl; exact rfl) | (apply ef_bin; (iterate 3 exact rfl); (exact cmp_t rfl (by first | exact rfl | (simp only [cmpP]; omega)))) | (apply ef_gy; exact rfl; (exact (rfl : false = false))) | (apply ef_gn; exact rfl; (exact (rfl : true = true)); exact rfl) | (apply ef_pick; (iterate 3 exact rfl)) | (apply ef_ldp; (iterate 4 exact rfl); (exact rfl); (first | exact rd_2 rfl rfl | exact rfl)) | (apply ef_fap; exact rfl; exact rfl) | (apply ef_notT; exact rfl; exact rfl) | (apply ef_notF; exact rfl; exact rfl) | (apply ef_box; (iterate 4 exact rfl)) | apply ef_nil | apply seqQ.normal | apply ef_ret | apply seqQ.ret | apply ef_skip | (apply ef_condt; exact rfl; (exact (rfl : true = true))) | (apply ef_condf; exact rfl; (exact (rfl : false = false))) | (apply ef_call; exact rfl; ((repeat (apply XVs.cons; exact rfl)); exact XVs.nil); (with_reducible first | exact bIsLow_c k p q _ hq hl | exact Within_c (k + 2) _ _ _ _ h1)))
   all_goals ((refine fin1 rfl (by exact rfl) rfl ?_); rfl)
theorem mf_bIsSmall : MT.mf 42 = some ⟨11, [(.tmp 2)], (.seq (.reg [gO 1 (.box 2 (.s 0)), gO 2 (.mv cF)]) (.seq (.reg [gO 3 (.fa 0 (.s 1)), gO 4 (.ld none (.s 3)), gO 5 (.call 53 [.s 4, (cI (-1000000000)), (cI 1000000000)]), gO 6 (.mv (.s 5)), ⟨some (6, true), some 7, .fa 1 (.s 1)⟩, ⟨some (6, true), some 8, .ld none (.s 7)⟩, ⟨some (6, true), some 9, .call 53 [.s 8, (cI 1), (cI 1000000000)]⟩, gO 10 (.pick (.s 6) (.s 9) cF), gO 2 (.mv (.s 10))]) .ret))⟩ := by kernel_rfl
theorem bIsSmall_c (k : Nat) (p q : Int) (h : MHeap) {t : Bool} (ht : (inB p (-1000000000) 1000000000 && inB q 1 1000000000) = t) : orA (k + 2) 42 [encPt (p, q)] h = some (Bo t, h) := by
 refine callL (args' := [encPt (p, q)]) (frzL_lt rfl) rfl (runZ_of mf_bIsSmall (by simp) ?_)
 simp only [argsL]
 subst ht
 cases h1 : inB p (-1000000000) 1000000000 <;> cases h2 : inB q 1 1000000000
 all_goals repeat (first | apply ef_seq | (apply ef_mv; exact rfl; exact rfl) | (apply ef_gy; exact rfl; (exact (rfl : true = true))) | (apply ef_gn; exact rfl; (exact (rfl : false = false)); exact rfl) | (apply ef_pick; (iterate 3 exact rfl)) | (apply ef_ldp; (iterate 4 exact rfl); (exact rfl); (exact rfl)) | (apply ef_fap; exact rfl; exact rfl) | (apply ef_box; (iterate 4 exact rfl)) | apply ef_nil | apply seqQ.normal | apply ef_ret | (apply ef_call; exact rfl; ((repeat (apply XVs.cons; exact rfl)); exact XVs.nil); (with_reducible first | exact Within_c k _ _ _ _ h1 | exact Within_c k _ _ _ _ h2)))
 all_goals ((refine fin1 rfl (by exact rfl) rfl ?_); rfl)
theorem mf_rcut : MT.mf 122 = some ⟨26, [(.tmp 6), (.tmp 7)], (.seq (.reg [gO 3 (.box 3 (.s 0)), gO 5 (.box 2 (.s 2)), gO 6 (.mv (cI 0)), gO 7 (.mv (cI 0))]) (.seq (.reg [gO 8 (.mv (.s 1)), gO 9 (.fa 1 (.s 3)), gO 10 (.ld none (.s 9)), gO 11 (.bin .mul (.s 8) (.s 10)), gO 12 (.fa 1 (.s 5)), gO 13 (.ld none (.s 12)), gO 14 (.bin .mul (.s 11) (.s 13)), gO 15 (.fa 1 (.s 3)), gO 16 (.ld none (.s 15)), gO 17 (.fa 1 (.s 5)), gO 18 (.ld none (.s 17)), gO 19 (.bin .mul (.s 16) (.s 18)), gO 20 (.fa 0 (.s 5)), gO 21 (.ld none (.s 20)), gO 22 (.fa 0 (.s 3)), gO 23 (.ld none (.s 22)), gO 24 (.bin .mul (.s 21) (.s 23)), gO 25 (.bin .sub (.s 19) (.s 24)), gO 6 (.mv (.s 14)), gO 7 (.mv (.s 25))]) .ret))⟩ := by kernel_rfl
theorem rcut_c (k : Nat) (o : Ho) (dp p q : Int) (h : MHeap) (ho : holeE o = 0) (hd : 1 ≤ dp ∧ dp ≤ 10000) (hs : slopeE p q = 0) : orA (k + 1) 122 [encHo o, I64 dp, encPt (p, q)] h = some (.tup [I64 (cutN o dp q), I64 (cutD o p q)], h) := by
 refine callTT (args' := [encHo o, I64 dp, encPt (p, q)]) (frzL_lt rfl) rfl (runZ_of mf_rcut (by simp) ?_)
 simp only [argsL]
 obtain ⟨⟨o1, o2⟩, ⟨o3, o4⟩, _⟩ := hole_ok ho
 obtain ⟨s1, s2, s3, s4, _⟩ := slope_ok hs
 have m1 := mul_bd' (a := dp) (b := o.d) (A := 10000) (B := 1000) (by omega) hd.2 (by omega) o4
 have m2 := mul_bd' (a := dp * o.d) (b := q) (A := 10000 * 1000) (B := 1000) m1.1 m1.2 (by omega) s4
 have m3 := mul_bd' (a := o.d) (b := q) (A := 1000) (B := 1000) (by omega) o4 (by omega) s4
 have m4 := mul_bd' (a := p) (b := o.e) (A := 1000) (B := 1000) s1 s2 o1 o2
 unfold cutN cutD
 have w1 : IntKind.i64.wrap (dp * o.d) = dp * o.d := wrap_of (by omega) (by omega)
 have w2 : IntKind.i64.wrap (dp * o.d * q) = dp * o.d * q := wrap_of (by omega) (by omega)
 have w3 : IntKind.i64.wrap (o.d * q) = o.d * q := wrap_of (by omega) (by omega)
 have w4 : IntKind.i64.wrap (p * o.e) = p * o.e := wrap_of (by omega) (by omega)
 have w5 : IntKind.i64.wrap (o.d * q - p * o.e) = o.d * q - p * o.e := wrap_of (by omega) (by omega)
 repeat (first | apply ef_seq | (apply ef_mv; exact rfl; exact rfl) | (apply ef_bin; (iterate 3 exact rfl); (first | ((with_reducible refine bin_sub (wrap_of ?_ ?_)) <;> omega) | ((with_reducible refine bin_mul (wrap_of ?_ ?_)) <;> omega) | with_reducible exact bin_mul (by assumption))) | (apply ef_ldp; (iterate 4 exact rfl); (exact rfl); (exact rfl)) | (apply ef_fap; exact rfl; exact rfl) | (apply ef_box; (iterate 4 exact rfl)) | apply ef_nil | apply seqQ.normal | apply ef_ret)
 (refine fin2 rfl (by exact rfl) (by exact rfl) ?_)
 rfl
end Go.Proofs.YtnmgpbihknjdjaaGreatDoor

/- Contracts: the document's cuts. -/
namespace Go.Proofs.YtnmgpbihknjdjaaGreatDoor
open Go.RowKit
set_option linter.unusedVariables false
theorem mf_rCut : MT.mf 31 = some ⟨29, [(.cell 6 (some 2)), (.tmp 7)], (.seq (.reg [gO 3 (.box 3 (.s 0)), gO 5 (.box 2 (.s 2)), gO 6 (.new (.agg [(.lit (.int .i64 0)), (.lit (.int .i64 0))])), gO 7 (.mv (cI 0))]) (.seq (.reg [gO 12 (.ld (some 3) (.s 3)), gO 13 (.mv (.s 1)), gO 14 (.ld (some 2) (.s 5)), gO 15 (.call 122 [.s 12, .s 13, .s 14]), gO 11 (.mv (.s 15)), gO 16 (.ext (.s 11) 0), gO 17 (.ext (.s 11) 1), gO 8 (.mv (.s 16)), gO 9 (.mv (.s 17))]) (.seq (.seq (.reg [gO 18 (.mv (.s 9)), gO 19 (.bin .lss (.s 18) (cI 1))]) (.cond (.s 19) (.seq (.reg [gO 20 (.build [(.lit (.int .i64 0)), (.lit (.int .i64 0))] []), ⟨none, none, .st 2 (.s 6) (.s 20)⟩, gO 7 (.mv (cI 12))]) .ret) .skip)) (.seq (.reg [gO 21 (.mv (.s 8)), gO 22 (.mv (.s 9)), gO 23 (.call 87 [.s 21, .s 22]), gO 10 (.new (.agg [(.lit (.int .i64 0)), (.lit (.int .i64 0))])), ⟨none, none, .st 2 (.s 10) (.s 23)⟩]) (.seq (.seq (.reg [gO 24 (.ld (some 2) (.s 10)), gO 25 (.call 42 [.s 24]), gO 26 (.un .not (.s 25))]) (.cond (.s 26) (.seq (.reg [gO 27 (.build [(.lit (.int .i64 0)), (.lit (.int .i64 0))] []), ⟨none, none, .st 2 (.s 6) (.s 27)⟩, gO 7 (.mv (cI 8))]) .ret) .skip)) (.seq (.reg [gO 28 (.ld (some 2) (.s 10)), ⟨none, none, .st 2 (.s 6) (.s 28)⟩, gO 7 (.mv (cI 0))]) .ret))))))⟩ := by kernel_rfl
theorem rCut_c (k : Nat) (o : Ho) (dp p q : Int) (h : MHeap) (ho : holeE o = 0) (hd : 1 ≤ dp ∧ dp ≤ 10000) (hs : slopeE p q = 0) : orA (k + 4) 31 [encHo o, I64 dp, encPt (p, q)] h = some (outP (cutR o dp p q), h) := by
 refine callTP (args' := [encHo o, I64 dp, encPt (p, q)]) (frzL_lt rfl) rfl (runZ_of mf_rCut (by simp) ?_)
 simp only [argsL]
 have hc := fun h => rcut_c (k + 2) o dp p q h ho hd hs
 obtain ⟨⟨b1, b2⟩, b3, b4⟩ := cut_bd ho hd hs
 unfold cutR
 generalize cutN o dp q = n at *
 generalize cutD o p q = d at *
 by_cases hx : 0 < d
 ·rw [if_pos hx]
  have hl := fun h => bLowest_c k n d h (by omega) (by omega) (by omega) (by omega) (by omega)
  obtain ⟨_, _, l3⟩ := lowF_ok (n := n) (show d ≠ 0 by omega)
  have HR := Lib.hid (show lowR n d = if inB (lowF n d).1 (-1000000000) 1000000000 && decide ((lowF n d).2 ≤ 1000000000) then ((lowF n d).1, (lowF n d).2, 0) else (0, 0, 8) from rfl)
  generalize lowF n d = f at *
  obtain ⟨x, y⟩ := f
  simp only at l3 HR
  have hsm := fun h => bIsSmall_c (k + 1) x y h rfl
  have hy : inB y 1 1000000000 = decide (y ≤ 1000000000) := by
   rw [Bool.eq_iff_iff, inB_iff, decide_eq_true_eq]; omega
  rw [hy] at hsm
  cases hb : (inB x (-1000000000) 1000000000 && decide (y ≤ 1000000000))
  ·rw [show lowR n d = (0, 0, 8) by rw [HR.out, hb]; rfl]
   rw [hb] at hsm
   repeat (first | apply ef_seq | (apply ef_mv; exact rfl; exact rfl) | (apply ef_bin; (iterate 3 exact rfl); (exact cmp_f rfl (by simp only [cmpP]; omega))) | (apply ef_ldp; (iterate 4 exact rfl); (exact rfl); (first | exact rd_2 rfl rfl | exact rd_3 rfl rfl rfl)) | (apply ef_notF; exact rfl; exact rfl) | (apply ef_ext; (iterate 3 exact rfl)) | (apply ef_box; (iterate 4 exact rfl)) | (apply ef_new; exact rfl) | (apply ef_build; exact rfl; (repeat (apply XVs.cons; exact rfl)); exact XVs.nil; exact rfl; exact rfl) | (apply ef_st; (iterate 6 exact rfl); (exact rfl); exact rfl) | apply ef_nil | apply seqQ.normal | apply ef_ret | apply seqQ.ret | apply ef_skip | (apply ef_condt; exact rfl; (exact (rfl : true = true))) | (apply ef_condf; exact rfl; (exact (rfl : false = false))) | (apply ef_call; exact rfl; ((repeat (apply XVs.cons; exact rfl)); exact XVs.nil); (with_reducible first | exact hc _ | exact hl _ | exact hsm _)))
   refine finR2 (v := encPt (0, 0)) (w := I64 8) rfl ?_ (by exact rfl) rfl rfl rfl
   apply resC <;> exact rfl
  ·rw [show lowR n d = (x, y, 0) by rw [HR.out, hb]; rfl]
   rw [hb] at hsm
   repeat (first | apply ef_seq | (apply ef_mv; exact rfl; exact rfl) | (apply ef_bin; (iterate 3 exact rfl); (exact cmp_f rfl (by simp only [cmpP]; omega))) | (apply ef_ldp; (iterate 4 exact rfl); (exact rfl); (first | exact rd_2 rfl rfl | exact rd_3 rfl rfl rfl)) | (apply ef_notT; exact rfl; exact rfl) | (apply ef_ext; (iterate 3 exact rfl)) | (apply ef_box; (iterate 4 exact rfl)) | (apply ef_new; exact rfl) | (apply ef_st; (iterate 6 exact rfl); (exact rfl); exact rfl) | apply ef_nil | apply seqQ.normal | apply ef_ret | apply ef_skip | (apply ef_condf; exact rfl; (exact (rfl : false = false))) | (apply ef_call; exact rfl; ((repeat (apply XVs.cons; exact rfl)); exact XVs.nil); (with_reducible first | exact hc _ | exact hl _ | exact hsm _)))
   refine finR2 (v := encPt (x, y)) (w := I64 0) rfl ?_ (by exact rfl) rfl rfl rfl
   apply resC <;> exact rfl
 ·rw [if_neg hx]
  repeat (first | apply ef_seq | (apply ef_mv; exact rfl; exact rfl) | (apply ef_bin; (iterate 3 exact rfl); (exact cmp_t rfl (by first | exact rfl | (simp only [cmpP]; omega)))) | (apply ef_ldp; (iterate 4 exact rfl); (exact rfl); (first | exact rd_2 rfl rfl | exact rd_3 rfl rfl rfl)) | (apply ef_ext; (iterate 3 exact rfl)) | (apply ef_box; (iterate 4 exact rfl)) | (apply ef_new; exact rfl) | (apply ef_build; exact rfl; (repeat (apply XVs.cons; exact rfl)); exact XVs.nil; exact rfl; exact rfl) | (apply ef_st; (iterate 6 exact rfl); (exact rfl); exact rfl) | apply ef_nil | apply seqQ.normal | apply ef_ret | apply seqQ.ret | (apply ef_condt; exact rfl; (exact (rfl : true = true))) | (apply ef_call; exact rfl; ((repeat (apply XVs.cons; exact rfl)); exact XVs.nil); (with_reducible exact hc _)))
  refine finR2 (v := encPt (0, 0)) (w := I64 12) rfl ?_ (by exact rfl) rfl rfl rfl
  apply resC <;> exact rfl
theorem mf_LayerErr : MT.mf 32 = some ⟨34, [(.tmp 2)], (.seq (.reg [gO 1 (.box 5 (.s 0)), gO 2 (.mv (cI 0))]) (.seq (.seq (.reg [gO 6 (.fa 0 (.s 1)), gO 7 (.ld none (.s 6)), gO 8 (.call 29 [.s 7]), gO 3 (.mv (.s 8))]) (.seq (.reg [gO 9 (.mv (.s 3)), gO 10 (.bin .neq (.s 9) (cI 0))]) (.cond (.s 10) (.seq (.reg [gO 11 (.mv (.s 3)), gO 2 (.mv (.s 11))]) .ret) .skip))) (.seq (.seq (.reg [gO 12 (.fa 1 (.s 1)), gO 13 (.fa 0 (.s 12)), gO 14 (.ld (some 2) (.s 13)), gO 15 (.call 30 [.s 14]), gO 4 (.mv (.s 15))]) (.seq (.reg [gO 16 (.mv (.s 4)), gO 17 (.bin .neq (.s 16) (cI 0))]) (.cond (.s 17) (.seq (.reg [gO 18 (.mv (.s 4)), gO 2 (.mv (.s 18))]) .ret) .skip))) (.seq (.seq (.reg [gO 19 (.fa 1 (.s 1)), gO 20 (.fa 2 (.s 19)), gO 21 (.ld (some 2) (.s 20)), gO 22 (.call 30 [.s 21]), gO 5 (.mv (.s 22))]) (.seq (.reg [gO 23 (.mv (.s 5)), gO 24 (.bin .neq (.s 23) (cI 0))]) (.cond (.s 24) (.seq (.reg [gO 25 (.mv (.s 5)), gO 2 (.mv (.s 25))]) .ret) .skip))) (.seq (.seq (.reg [gO 26 (.fa 1 (.s 1)), gO 27 (.fa 0 (.s 26)), gO 28 (.ld (some 2) (.s 27)), gO 29 (.fa 1 (.s 1)), gO 30 (.fa 2 (.s 29)), gO 31 (.ld (some 2) (.s 30)), gO 32 (.call 43 [.s 28, .s 31]), gO 33 (.bin .gtr (.s 32) (cI 0))]) (.cond (.s 33) (.seq (.reg [gO 2 (.mv (cI 9))]) .ret) .skip)) (.seq (.reg [gO 2 (.mv (cI 0))]) .ret))))))⟩ := by kernel_rfl
theorem LayerErr_c (k : Nat) (x : Ly) (h : MHeap) (hb : x.b ≤ 9223372036854775807) (hd : x.d ≤ 9223372036854775807) : orA (k + 5) 32 [encLy x] h = some (I64 (layE x), h) := by
 refine callL (args' := [encLy x]) (frzL_lt rfl) rfl (runZ_of mf_LayerErr (by simp) ?_)
 simp only [argsL]
 have h1 := fun h => DepthErr_c (k + 2) x.dp h rfl
 have h2 := fun h => SlopeErr_c k x.a x.b h hb rfl
 have h3 := fun h => SlopeErr_c k x.c x.d h hd rfl
 have HE := Lib.hid (show layE x = if firstE [depE x.dp, slopeE x.a x.b, slopeE x.c x.d] = 0 then unl (decide (x.a * x.d ≤ x.c * x.b)) 9 else firstE [depE x.dp, slopeE x.a x.b, slopeE x.c x.d] from rfl)
 by_cases e1 : depE x.dp = 0
 ·by_cases e2 : slopeE x.a x.b = 0
  ·by_cases e3 : slopeE x.c x.d = 0
   ·obtain ⟨s1, s2, s3, s4, _⟩ := slope_ok e2
    obtain ⟨t1, t2, t3, t4, _⟩ := slope_ok e3
    have m1 := mul_bd' (a := x.a) (b := x.d) (A := 1000) (B := 1000) s1 s2 (by omega) t4
    have m2 := mul_bd' (a := x.c) (b := x.b) (A := 1000) (B := 1000) t1 t2 (by omega) s4
    have hcm := fun h => bCmp_c (k + 3) (x.a, x.b) (x.c, x.d) h (by simp only; omega) (by simp only; omega) rfl
    have hle : layE x = unl (decide (x.a * x.d ≤ x.c * x.b)) 9 := by rw [HE.out, e1, e2, e3]; rfl
    rw [hle]
    by_cases hg : x.a * x.d ≤ x.c * x.b
    ·have hz : ¬ 0 < cmpI (x.a * x.d) (x.c * x.b) := by rw [cmpI_pos]; omega
     rw [decide_eq_true hg]
     simp only at hcm
     generalize cmpI (x.a * x.d) (x.c * x.b) = v at *
     repeat (first | apply ef_seq | (apply ef_mv; exact rfl; exact rfl) | (apply ef_bin; (iterate 3 exact rfl); (exact cmp_f rfl (by simp only [cmpP]; omega))) | (apply ef_ldp; (iterate 4 exact rfl); (exact rfl); (first | exact rd_2 rfl rfl | exact rfl)) | (apply ef_fap; exact rfl; exact rfl) | (apply ef_box; (iterate 4 exact rfl)) | apply ef_nil | apply seqQ.normal | apply ef_ret | apply ef_skip | (apply ef_condf; exact rfl; (exact (rfl : false = false))) | (apply ef_call; exact rfl; ((repeat (apply XVs.cons; exact rfl)); exact XVs.nil); (with_reducible first | exact h1 _ | exact h2 _ | exact h3 _ | exact hcm _)))
     (refine fin1 rfl (by exact rfl) rfl ?_)
     rfl
    ·have hz : 0 < cmpI (x.a * x.d) (x.c * x.b) := by rw [cmpI_pos]; omega
     rw [decide_eq_false hg]
     simp only at hcm
     generalize cmpI (x.a * x.d) (x.c * x.b) = v at *
     repeat (first | apply ef_seq | (apply ef_mv; exact rfl; exact rfl) | (apply ef_bin; (iterate 3 exact rfl); (first | exact cmp_t rfl (by first | exact rfl | (simp only [cmpP]; omega)) | exact cmp_f rfl (by simp only [cmpP]; omega))) | (apply ef_ldp; (iterate 4 exact rfl); (exact rfl); (first | exact rd_2 rfl rfl | exact rfl)) | (apply ef_fap; exact rfl; exact rfl) | (apply ef_box; (iterate 4 exact rfl)) | apply ef_nil | apply seqQ.normal | apply ef_ret | apply seqQ.ret | apply ef_skip | (apply ef_condt; exact rfl; (exact (rfl : true = true))) | (apply ef_condf; exact rfl; (exact (rfl : false = false))) | (apply ef_call; exact rfl; ((repeat (apply XVs.cons; exact rfl)); exact XVs.nil); (with_reducible first | exact h1 _ | exact h2 _ | exact h3 _ | exact hcm _)))
     (refine fin1 rfl (by exact rfl) rfl ?_)
     rfl
   ·have hle : layE x = slopeE x.c x.d := by rw [HE.out, e1, e2]; simp [firstE, e3]
    rw [hle]
    repeat (first | apply ef_seq | (apply ef_mv; exact rfl; exact rfl) | (apply ef_bin; (iterate 3 exact rfl); (first | exact cmp_t rfl (by first | exact rfl | (simp only [cmpP]; omega)) | exact cmp_f rfl (by simp only [cmpP]; omega))) | (apply ef_ldp; (iterate 4 exact rfl); (exact rfl); (first | exact rd_2 rfl rfl | exact rfl)) | (apply ef_fap; exact rfl; exact rfl) | (apply ef_box; (iterate 4 exact rfl)) | apply ef_nil | apply seqQ.normal | apply ef_ret | apply seqQ.ret | apply ef_skip | (apply ef_condt; exact rfl; (exact (rfl : true = true))) | (apply ef_condf; exact rfl; (exact (rfl : false = false))) | (apply ef_call; exact rfl; ((repeat (apply XVs.cons; exact rfl)); exact XVs.nil); (with_reducible first | exact h1 _ | exact h2 _ | exact h3 _)))
    (refine fin1 rfl (by exact rfl) rfl ?_)
    rfl
  ·have hle : layE x = slopeE x.a x.b := by rw [HE.out, e1]; simp [firstE, e2]
   rw [hle]
   repeat (first | apply ef_seq | (apply ef_mv; exact rfl; exact rfl) | (apply ef_bin; (iterate 3 exact rfl); (first | exact cmp_t rfl (by first | exact rfl | (simp only [cmpP]; omega)) | exact cmp_f rfl (by simp only [cmpP]; omega))) | (apply ef_ldp; (iterate 4 exact rfl); (exact rfl); (first | exact rd_2 rfl rfl | exact rfl)) | (apply ef_fap; exact rfl; exact rfl) | (apply ef_box; (iterate 4 exact rfl)) | apply ef_nil | apply seqQ.normal | apply ef_ret | apply seqQ.ret | apply ef_skip | (apply ef_condt; exact rfl; (exact (rfl : true = true))) | (apply ef_condf; exact rfl; (exact (rfl : false = false))) | (apply ef_call; exact rfl; ((repeat (apply XVs.cons; exact rfl)); exact XVs.nil); (with_reducible first | exact h1 _ | exact h2 _)))
   (refine fin1 rfl (by exact rfl) rfl ?_)
   rfl
 ·have hle : layE x = depE x.dp := by rw [HE.out]; simp [firstE, e1]
  rw [hle]
  repeat (first | apply ef_seq | (apply ef_mv; exact rfl; exact rfl) | (apply ef_bin; (iterate 3 exact rfl); (exact cmp_t rfl (by first | exact rfl | (simp only [cmpP]; omega)))) | (apply ef_ldp; (iterate 4 exact rfl); (exact rfl); (exact rfl)) | (apply ef_fap; exact rfl; exact rfl) | (apply ef_box; (iterate 4 exact rfl)) | apply ef_nil | apply seqQ.normal | apply ef_ret | apply seqQ.ret | (apply ef_condt; exact rfl; (exact (rfl : true = true))) | (apply ef_call; exact rfl; ((repeat (apply XVs.cons; exact rfl)); exact XVs.nil); (with_reducible exact h1 _)))
  (refine fin1 rfl (by exact rfl) rfl ?_)
  rfl
end Go.Proofs.YtnmgpbihknjdjaaGreatDoor

/- Contracts: the document's cuts of a layer. -/
namespace Go.Proofs.YtnmgpbihknjdjaaGreatDoor
open Go.RowKit
set_option linter.unusedVariables false
theorem cutR_bd {o : Ho} {dp p q : Int} (h : (cutR o dp p q).2.2 = 0) : (-1000000000 ≤ (cutR o dp p q).1 ∧ (cutR o dp p q).1 ≤ 1000000000) ∧ -1000000000 ≤ (cutR o dp p q).2.1 ∧ (cutR o dp p q).2.1 ≤ 1000000000 := by
 unfold cutR at *
 split at h
 ·rename_i hx
  rw [if_pos hx]
  obtain ⟨_, _, l3⟩ := lowF_ok (n := cutN o dp q) (show cutD o p q ≠ 0 by omega)
  unfold lowR at *
  split at h
  ·rename_i hb
   rw [if_pos hb]
   rw [Bool.and_eq_true, inB_iff, decide_eq_true_eq] at hb
   simp only
   omega
  ·simp at h
 ·simp at h
theorem mf_rCuts : MT.mf 33 = some ⟨54, [(.cell 4 (some 4)), (.tmp 5)], (.seq (.reg [gO 2 (.box 3 (.s 0)), gO 3 (.box 5 (.s 1)), gO 4 (.new (.agg [(.lit (.int .i64 0)), (.lit (.int .i64 0)), (.lit (.int .i64 0)), (.lit (.int .i64 0))])), gO 5 (.mv (cI 0))]) (.seq (.reg [gO 11 (.ld (some 3) (.s 2)), gO 12 (.fa 0 (.s 3)), gO 13 (.ld none (.s 12)), gO 14 (.fa 1 (.s 3)), gO 15 (.fa 0 (.s 14)), gO 16 (.ld (some 2) (.s 15)), gO 17 (.call 31 [.s 11, .s 13, .s 16]), gO 10 (.mv (.s 17)), gO 18 (.ext (.s 10) 0), gO 19 (.ext (.s 10) 1), gO 6 (.new (.agg [(.lit (.int .i64 0)), (.lit (.int .i64 0))])), ⟨none, none, .st 2 (.s 6) (.s 18)⟩, gO 7 (.mv (.s 19))]) (.seq (.reg [gO 21 (.ld (some 3) (.s 2)), gO 22 (.fa 0 (.s 3)), gO 23 (.ld none (.s 22)), gO 24 (.fa 1 (.s 3)), gO 25 (.fa 2 (.s 24)), gO 26 (.ld (some 2) (.s 25)), gO 27 (.call 31 [.s 21, .s 23, .s 26]), gO 20 (.mv (.s 27)), gO 28 (.ext (.s 20) 0), gO 29 (.ext (.s 20) 1), gO 8 (.new (.agg [(.lit (.int .i64 0)), (.lit (.int .i64 0))])), ⟨none, none, .st 2 (.s 8) (.s 28)⟩, gO 9 (.mv (.s 29))]) (.seq (.seq (.reg [gO 30 (.mv (.s 7)), gO 31 (.bin .eql (.s 30) (cI 12)), gO 32 (.mv (.s 31)), ⟨some (32, false), some 33, .mv (.s 9)⟩, ⟨some (32, false), some 34, .bin .eql (.s 33) (cI 12)⟩, gO 35 (.pick (.s 32) cT (.s 34))]) (.cond (.s 35) (.seq (.reg [gO 36 (.build [(.lit (.int .i64 0)), (.lit (.int .i64 0)), (.lit (.int .i64 0)), (.lit (.int .i64 0))] []), ⟨none, none, .st 4 (.s 4) (.s 36)⟩, gO 5 (.mv (cI 21))]) .ret) .skip)) (.seq (.seq (.reg [gO 37 (.mv (.s 7)), gO 38 (.bin .neq (.s 37) (cI 0)), gO 39 (.mv (.s 38)), ⟨some (39, false), some 40, .mv (.s 9)⟩, ⟨some (39, false), some 41, .bin .neq (.s 40) (cI 0)⟩, gO 42 (.pick (.s 39) cT (.s 41))]) (.cond (.s 42) (.seq (.reg [gO 43 (.build [(.lit (.int .i64 0)), (.lit (.int .i64 0)), (.lit (.int .i64 0)), (.lit (.int .i64 0))] []), ⟨none, none, .st 4 (.s 4) (.s 43)⟩, gO 5 (.mv (cI 8))]) .ret) .skip)) (.seq (.seq (.reg [gO 44 (.ld (some 2) (.s 6)), gO 45 (.ld (some 2) (.s 8)), gO 46 (.call 43 [.s 44, .s 45]), gO 47 (.bin .gtr (.s 46) (cI 0))]) (.cond (.s 47) (.seq (.reg [gO 48 (.ld (some 2) (.s 8)), gO 49 (.ld (some 2) (.s 6)), gO 50 (.build [(.lit (.int .i64 0)), (.lit (.int .i64 0)), (.lit (.int .i64 0)), (.lit (.int .i64 0))] [(0, (2, (.s 48))), (2, (2, (.s 49)))]), ⟨none, none, .st 4 (.s 4) (.s 50)⟩, gO 5 (.mv (cI 0))]) .ret) .skip)) (.seq (.reg [gO 51 (.ld (some 2) (.s 6)), gO 52 (.ld (some 2) (.s 8)), gO 53 (.build [(.lit (.int .i64 0)), (.lit (.int .i64 0)), (.lit (.int .i64 0)), (.lit (.int .i64 0))] [(0, (2, (.s 51))), (2, (2, (.s 52)))]), ⟨none, none, .st 4 (.s 4) (.s 53)⟩, gO 5 (.mv (cI 0))]) .ret)))))))⟩ := by kernel_rfl
set_option maxHeartbeats 1000000 in
theorem rCuts_c (k : Nat) (o : Ho) (x : Ly) (h : MHeap) (ho : holeE o = 0) (hx : layE x = 0) : orA (k + 5) 33 [encHo o, encLy x] h = some (out5 (cutsQ o x), h) := by
 refine call5 (args' := [encHo o, encLy x]) (frzL_lt rfl) rfl (runZ_of mf_rCuts (by simp) ?_)
 simp only [argsL]
 obtain ⟨b1, b2, b3, _⟩ := lay_ok hx
 have h1 := fun h => rCut_c k o x.dp x.a x.b h ho b1 b2
 have h2 := fun h => rCut_c k o x.dp x.c x.d h ho b1 b3
 have c1 := cutR_bd (o := o) (dp := x.dp) (p := x.a) (q := x.b)
 have c2 := cutR_bd (o := o) (dp := x.dp) (p := x.c) (q := x.d)
 have HQ := Lib.hid (show cutsQ o x = if (cutR o x.dp x.a x.b).2.2 = 12 ∨ (cutR o x.dp x.c x.d).2.2 = 12 then (0, 0, 0, 0, 21) else if (cutR o x.dp x.a x.b).2.2 ≠ 0 ∨ (cutR o x.dp x.c x.d).2.2 ≠ 0 then (0, 0, 0, 0, 8)
  else if 0 < cmpI ((cutR o x.dp x.a x.b).1 * (cutR o x.dp x.c x.d).2.1) ((cutR o x.dp x.c x.d).1 * (cutR o x.dp x.a x.b).2.1) then ((cutR o x.dp x.c x.d).1, (cutR o x.dp x.c x.d).2.1, (cutR o x.dp x.a x.b).1, (cutR o x.dp x.a x.b).2.1, 0) else ((cutR o x.dp x.a x.b).1, (cutR o x.dp x.a x.b).2.1, (cutR o x.dp x.c x.d).1, (cutR o x.dp x.c x.d).2.1, 0) from rfl)
 generalize cutR o x.dp x.a x.b = u at *
 generalize cutR o x.dp x.c x.d = v at *
 obtain ⟨n, d, e⟩ := u
 obtain ⟨m, c, f⟩ := v
 simp only at h1 h2 c1 c2 HQ
 by_cases q1 : e = 12
 ·rw [show cutsQ o x = (0, 0, 0, 0, 21) by rw [HQ.out, if_pos (.inl q1)]]
  repeat (first | apply ef_seq | (apply ef_mv; exact rfl; exact rfl) | (apply ef_bin; (iterate 3 exact rfl); (exact cmp_t rfl (by first | exact rfl | (simp only [cmpP]; omega)))) | (apply ef_gn; exact rfl; (exact (rfl : true = true)); exact rfl) | (apply ef_pick; (iterate 3 exact rfl)) | (apply ef_ldp; (iterate 4 exact rfl); (exact rfl); (first | exact rd_2 rfl rfl | exact rd_3 rfl rfl rfl | exact rfl)) | (apply ef_fap; exact rfl; exact rfl) | (apply ef_ext; (iterate 3 exact rfl)) | (apply ef_box; (iterate 4 exact rfl)) | (apply ef_new; exact rfl) | (apply ef_build; exact rfl; (repeat (apply XVs.cons; exact rfl)); exact XVs.nil; exact rfl; exact rfl) | (apply ef_st; (iterate 6 exact rfl); (exact rfl); exact rfl) | apply ef_nil | apply seqQ.normal | apply ef_ret | apply seqQ.ret | (apply ef_condt; exact rfl; (exact (rfl : true = true))) | (apply ef_call; exact rfl; ((repeat (apply XVs.cons; exact rfl)); exact XVs.nil); (with_reducible first | exact h1 _ | exact h2 _)))
  refine finR2 (v := enc4 0 0 0 0) (w := I64 21) rfl ?_ (by exact rfl) rfl rfl rfl
  apply resC <;> exact rfl
 ·by_cases q2 : f = 12
  ·rw [show cutsQ o x = (0, 0, 0, 0, 21) by rw [HQ.out, if_pos (.inr q2)]]
   repeat (first | apply ef_seq | (apply ef_mv; exact rfl; exact rfl) | (apply ef_bin; (iterate 3 exact rfl); (first | exact cmp_t rfl (by first | exact rfl | (simp only [cmpP]; omega)) | exact cmp_f rfl (by simp only [cmpP]; omega))) | (apply ef_gy; exact rfl; (exact (rfl : false = false))) | (apply ef_pick; (iterate 3 exact rfl)) | (apply ef_ldp; (iterate 4 exact rfl); (exact rfl); (first | exact rd_2 rfl rfl | exact rd_3 rfl rfl rfl | exact rfl)) | (apply ef_fap; exact rfl; exact rfl) | (apply ef_ext; (iterate 3 exact rfl)) | (apply ef_box; (iterate 4 exact rfl)) | (apply ef_new; exact rfl) | (apply ef_build; exact rfl; (repeat (apply XVs.cons; exact rfl)); exact XVs.nil; exact rfl; exact rfl) | (apply ef_st; (iterate 6 exact rfl); (exact rfl); exact rfl) | apply ef_nil | apply seqQ.normal | apply ef_ret | apply seqQ.ret | (apply ef_condt; exact rfl; (exact (rfl : true = true))) | (apply ef_call; exact rfl; ((repeat (apply XVs.cons; exact rfl)); exact XVs.nil); (with_reducible first | exact h1 _ | exact h2 _)))
   refine finR2 (v := enc4 0 0 0 0) (w := I64 21) rfl ?_ (by exact rfl) rfl rfl rfl
   apply resC <;> exact rfl
  ·by_cases q3 : e = 0
   ·by_cases q4 : f = 0
    ·obtain ⟨⟨a1, a2⟩, a3, a4⟩ := c1 q3
     obtain ⟨⟨a5, a6⟩, a7, a8⟩ := c2 q4
     have m1 := mul_bd' (a := n) (b := c) (A := 1000000000) (B := 1000000000) a1 a2 a7 a8
     have m2 := mul_bd' (a := m) (b := d) (A := 1000000000) (B := 1000000000) a5 a6 a3 a4
     have hcm := fun h => bCmp_c (k + 3) (n, d) (m, c) h (by simp only; omega) (by simp only; omega) rfl
     simp only at hcm
     rw [if_neg (by omega), if_neg (by omega)] at HQ
     by_cases hg : 0 < cmpI (n * c) (m * d)
     ·rw [if_pos hg] at HQ
      rw [HQ.out]
      generalize cmpI (n * c) (m * d) = z at *
      repeat (first | apply ef_seq | (apply ef_mv; exact rfl; exact rfl) | (apply ef_bin; (iterate 3 exact rfl); (first | exact cmp_t rfl (by first | exact rfl | (simp only [cmpP]; omega)) | exact cmp_f rfl (by simp only [cmpP]; omega))) | (apply ef_gy; exact rfl; (exact (rfl : false = false))) | (apply ef_pick; (iterate 3 exact rfl)) | (apply ef_ldp; (iterate 4 exact rfl); (exact rfl); (first | exact rd_2 rfl rfl | exact rd_3 rfl rfl rfl | exact rfl)) | (apply ef_fap; exact rfl; exact rfl) | (apply ef_ext; (iterate 3 exact rfl)) | (apply ef_box; (iterate 4 exact rfl)) | (apply ef_new; exact rfl) | (apply ef_build; exact rfl; (repeat (apply XVs.cons; exact rfl)); exact XVs.nil; exact rfl; exact rfl) | (apply ef_st; (iterate 6 exact rfl); (exact rfl); exact rfl) | apply ef_nil | apply seqQ.normal | apply ef_ret | apply seqQ.ret | apply ef_skip | (apply ef_condt; exact rfl; (exact (rfl : true = true))) | (apply ef_condf; exact rfl; (exact (rfl : false = false))) | (apply ef_call; exact rfl; ((repeat (apply XVs.cons; exact rfl)); exact XVs.nil); (with_reducible first | exact h1 _ | exact h2 _ | exact hcm _)))
      refine finR2 (v := enc4 m c n d) (w := I64 0) rfl ?_ (by exact rfl) rfl rfl rfl
      apply resC <;> exact rfl
     ·rw [if_neg hg] at HQ
      rw [HQ.out]
      generalize cmpI (n * c) (m * d) = z at *
      repeat (first | apply ef_seq | (apply ef_mv; exact rfl; exact rfl) | (apply ef_bin; (iterate 3 exact rfl); (exact cmp_f rfl (by simp only [cmpP]; omega))) | (apply ef_gy; exact rfl; (exact (rfl : false = false))) | (apply ef_pick; (iterate 3 exact rfl)) | (apply ef_ldp; (iterate 4 exact rfl); (exact rfl); (first | exact rd_2 rfl rfl | exact rd_3 rfl rfl rfl | exact rfl)) | (apply ef_fap; exact rfl; exact rfl) | (apply ef_ext; (iterate 3 exact rfl)) | (apply ef_box; (iterate 4 exact rfl)) | (apply ef_new; exact rfl) | (apply ef_build; exact rfl; (repeat (apply XVs.cons; exact rfl)); exact XVs.nil; exact rfl; exact rfl) | (apply ef_st; (iterate 6 exact rfl); (exact rfl); exact rfl) | apply ef_nil | apply seqQ.normal | apply ef_ret | apply ef_skip | (apply ef_condf; exact rfl; (exact (rfl : false = false))) | (apply ef_call; exact rfl; ((repeat (apply XVs.cons; exact rfl)); exact XVs.nil); (with_reducible first | exact h1 _ | exact h2 _ | exact hcm _)))
      refine finR2 (v := enc4 n d m c) (w := I64 0) rfl ?_ (by exact rfl) rfl rfl rfl
      apply resC <;> exact rfl
    ·rw [show cutsQ o x = (0, 0, 0, 0, 8) by rw [HQ.out, if_neg (by omega), if_pos (.inr q4)]]
     repeat (first | apply ef_seq | (apply ef_mv; exact rfl; exact rfl) | (apply ef_bin; (iterate 3 exact rfl); (first | exact cmp_t rfl (by first | exact rfl | (simp only [cmpP]; omega)) | exact cmp_f rfl (by simp only [cmpP]; omega))) | (apply ef_gy; exact rfl; (exact (rfl : false = false))) | (apply ef_pick; (iterate 3 exact rfl)) | (apply ef_ldp; (iterate 4 exact rfl); (exact rfl); (first | exact rd_2 rfl rfl | exact rd_3 rfl rfl rfl | exact rfl)) | (apply ef_fap; exact rfl; exact rfl) | (apply ef_ext; (iterate 3 exact rfl)) | (apply ef_box; (iterate 4 exact rfl)) | (apply ef_new; exact rfl) | (apply ef_build; exact rfl; (repeat (apply XVs.cons; exact rfl)); exact XVs.nil; exact rfl; exact rfl) | (apply ef_st; (iterate 6 exact rfl); (exact rfl); exact rfl) | apply ef_nil | apply seqQ.normal | apply ef_ret | apply seqQ.ret | apply ef_skip | (apply ef_condt; exact rfl; (exact (rfl : true = true))) | (apply ef_condf; exact rfl; (exact (rfl : false = false))) | (apply ef_call; exact rfl; ((repeat (apply XVs.cons; exact rfl)); exact XVs.nil); (with_reducible first | exact h1 _ | exact h2 _)))
     refine finR2 (v := enc4 0 0 0 0) (w := I64 8) rfl ?_ (by exact rfl) rfl rfl rfl
     apply resC <;> exact rfl
   ·rw [show cutsQ o x = (0, 0, 0, 0, 8) by rw [HQ.out, if_neg (by omega), if_pos (.inl q3)]]
    repeat (first | apply ef_seq | (apply ef_mv; exact rfl; exact rfl) | (apply ef_bin; (iterate 3 exact rfl); (first | exact cmp_t rfl (by first | exact rfl | (simp only [cmpP]; omega)) | exact cmp_f rfl (by simp only [cmpP]; omega))) | (apply ef_gy; exact rfl; (exact (rfl : false = false))) | (apply ef_gn; exact rfl; (exact (rfl : true = true)); exact rfl) | (apply ef_pick; (iterate 3 exact rfl)) | (apply ef_ldp; (iterate 4 exact rfl); (exact rfl); (first | exact rd_2 rfl rfl | exact rd_3 rfl rfl rfl | exact rfl)) | (apply ef_fap; exact rfl; exact rfl) | (apply ef_ext; (iterate 3 exact rfl)) | (apply ef_box; (iterate 4 exact rfl)) | (apply ef_new; exact rfl) | (apply ef_build; exact rfl; (repeat (apply XVs.cons; exact rfl)); exact XVs.nil; exact rfl; exact rfl) | (apply ef_st; (iterate 6 exact rfl); (exact rfl); exact rfl) | apply ef_nil | apply seqQ.normal | apply ef_ret | apply seqQ.ret | apply ef_skip | (apply ef_condt; exact rfl; (exact (rfl : true = true))) | (apply ef_condf; exact rfl; (exact (rfl : false = false))) | (apply ef_call; exact rfl; ((repeat (apply XVs.cons; exact rfl)); exact XVs.nil); (with_reducible first | exact h1 _ | exact h2 _)))
    refine finR2 (v := enc4 0 0 0 0) (w := I64 8) rfl ?_ (by exact rfl) rfl rfl rfl
    apply resC <;> exact rfl
end Go.Proofs.YtnmgpbihknjdjaaGreatDoor

/- The examples: closed calls. -/
namespace Go.Proofs.YtnmgpbihknjdjaaGreatDoor
open Go.RowKit
theorem items_z (k : Nat) : runZ MT (orA k) (itA k) 4000000 94 [] [] = some (.arr 0 0 3 0, [⟨0, false, 3, itemE⟩]) := by kernel_rfl
theorem hole_z (k : Nat) : runZ MT (orA k) (itA k) 4000000 95 [] [] = some (holeX, []) := by kernel_rfl
theorem cal_z (k : Nat) : runZ MT (orA k) (itA k) 4000000 98 [] [] = some (.arr 0 0 3 0, [⟨0, false, 3, calE⟩]) := by kernel_rfl
theorem best_f : runFf (orL tA mfW 4000000 12) noI 4000000 mfW_l20 [itemX, I64 8] [] = some (.tup [.arr 0 0 2 0, I64 16, I64 0], [⟨0, false, 1, [I64 0, I64 2]⟩]) := by kernel_rfl
theorem cuts_f : runFf (orL tA mfW 4000000 12) noI 4000000 mfW_l26 [holeX, layX] [] = some (.tup [.agg [I64 80, I64 1, I64 400, I64 3], I64 0], []) := by kernel_rfl
theorem price_f : runFf (orL tA mfW 4000000 12) noI 4000000 mfW_l35 [itemX, I64 8] [] = some (.tup [.agg [I64 7, I64 4], I64 0], []) := by kernel_rfl
theorem early_f : runFf (orL tA mfW 4000000 12) noI 4000000 mfW_l49 [calX, I64 355, I64 10] [] = some (.tup [I64 376, I64 0], []) := by kernel_rfl
end Go.Proofs.YtnmgpbihknjdjaaGreatDoor

/- Chapter 9: the first body. -/
namespace Go.Proofs.YtnmgpbihknjdjaaGreatDoor
open Go.RowKit
set_option linter.unusedVariables false
def pickB (R C : List (Int × Int)) (w : List Nat) (i : Nat) : Option Nat := (rowSets C.length (R.getD i (0, 0)).1 (R.getD i (0, 0)).2).find? fun s => possB R C (prefP (w ++ [s]))
def bodyB (R C : List (Int × Int)) : Nat → List Nat
 | 0 => []
 | i + 1 => bodyB R C i ++ [(pickB R C (bodyB R C i) i).getD 0]
theorem bodyB_len (R C : List (Int × Int)) : ∀ i, (bodyB R C i).length = i
 | 0 => rfl
 | i + 1 => by simp [bodyB, bodyB_len R C i]
theorem natL_pure : ∀ w : List Nat, pureL (natL w) = true
 | [] => rfl
 | s :: w => by
  show (true && pureL (natL w)) = true
  rw [natL_pure w]; rfl
inductive RowAt (M : MHeap) : MV → List Nat → Prop
 | none : RowAt M (.lit (.slice none 0 0)) []
 | some (id g : Nat) (w : List Nat) : w ≠ [] → M[id]? = some ⟨g, false, 1, natL w⟩ → RowAt M (.arr id 0 w.length g) w
theorem clone_c (k : Nat) {M : MHeap} {v : MV} {w : List Nat} (hv : RowAt M v w) (hl : w.length ≤ 1000) : orA (k + 1) 148 [v] M = some (.arr M.length 0 w.length 0, M ++ [⟨0, w.isEmpty, 1, natL w⟩]) := by
 cases hv with
 | none =>
  have hz : runZ MT (orA k) (itA k) 4000000 148 [.lit (.slice none 0 0)] [] = some (.arr 0 0 0 0, [⟨0, true, 1, []⟩]) := by kernel_rfl
  have := callA (k := k) (h := M) (args := [.lit (.slice none 0 0)]) (args' := [.lit (.slice none 0 0)]) rfl rfl hz rfl rfl
  simpa [shV, sh1] using this
 | some id g w hne hM =>
  obtain ⟨s, w', rfl⟩ : ∃ s w', w = s :: w' := by
   cases w with
   | nil => exact absurd rfl hne
   | cons s w' => exact ⟨s, w', rfl⟩
  have hf : [MV.arr id 0 (s :: w').length g].mapM (frz 0 [] M 8) = some [.sl (natL (s :: w'))] := by
   have h1 : frz 0 [] M 8 (.arr id 0 (s :: w').length g) = some (.sl (natL (s :: w'))) := by
    have h2 := natL_lt 0 (s :: w')
    have h3 : ((natL (s :: w')).drop 0).take (s :: w').length = natL (s :: w') := by rw [List.drop_zero, List.take_of_length_le (by simp)]
    simp only [frz, MV.lt, Nat.not_lt_zero, decide_false, Bool.false_eq_true, if_false, List.contains_nil, hM, List.length_map, Nat.zero_add, Nat.le_refl, and_self, if_true, h2, h3]
   simp only [List.mapM_cons, List.mapM_nil, h1]; rfl
  have := callA (k := k) (h := M) hf rfl (clone_z k s w' hl) rfl (by have h2 := natL_lt 0 (s :: w'); simp only [okH, List.all_cons, List.all_nil, Bool.and_true, h2, Bool.true_and]; rw [Bool.or_eq_true]; exact .inr (natL_pure _))
  simpa [shV, sh1] using this
def tryM (M : MHeap) (w : List Nat) (s : Nat) : MHeap := M ++ [⟨1, false, 1, natL (w ++ [s])⟩, ⟨0, false, 1, [I64 s]⟩, ⟨0, false, 1, [.arr M.length 0 (w.length + 1) 1]⟩]
theorem tryM_0 (M : MHeap) (w : List Nat) (s : Nat) : (tryM M w s)[M.length]? = some ⟨1, false, 1, natL (w ++ [s])⟩ := by
 unfold tryM; rw [List.getElem?_append_right (Nat.le_refl _)]; simp
theorem tryM_2 (M : MHeap) (w : List Nat) (s : Nat) : (tryM M w s)[M.length + 2]? = some ⟨0, false, 1, [.arr M.length 0 (w.length + 1) 1]⟩ := by
 unfold tryM; rw [List.getElem?_append_right (by omega)]; simp
theorem tryM_at {M : MHeap} {w : List Nat} {s i : Nat} {o : MObj} (h : M[i]? = some o) : (tryM M w s)[i]? = some o := by
 unfold tryM; rw [List.getElem?_append_left (List.getElem?_eq_some_iff.1 h).1, h]
theorem tryM_cl {M : MHeap} (w : List Nat) (s : Nat) (hc : hltL M.length M = true) : hltL (M.length + 3) (tryM M w s) = true := by
 have h1 := hltL_le (show M.length ≤ M.length + 3 by omega) hc
 unfold tryM hltL at *
 rw [List.all_append, h1]
 simp only [List.all_cons, List.all_nil, ltL, MV.lt, natL_lt, Bool.and_true, Bool.true_and, decide_eq_true_eq]
 omega
theorem frz_try (M : MHeap) (w : List Nat) (s g : Nat) (R C : List (Int × Int)) : [encS R C, .fn g 0 [.ptr (M.length + 2) 0 0 0]].mapM (frz 0 [] (tryM M w s) 8) = some [encS R C, .fn g 0 [.rp (.sl (natL (w ++ [s]))) 0]] := by
 have h0 := encS_lt 0 R C
 have h2 := natL_lt 0 (w ++ [s])
 have h3 : ((natL (w ++ [s])).drop 0).take (w.length + 1) = natL (w ++ [s]) := by rw [List.drop_zero, List.take_of_length_le (by simp)]
 have hl : 0 + (w.length + 1) ≤ (natL (w ++ [s])).length := by simp
 have e0 : frz 0 [] (tryM M w s) 8 (encS R C) = some (encS R C) := frz_lt h0
 have e1 : frz 0 [] (tryM M w s) 6 (.arr M.length 0 (w.length + 1) 1) = some (.sl (natL (w ++ [s]))) := by
  simp only [frz, MV.lt, Nat.not_lt_zero, decide_false, Bool.false_eq_true, if_false, List.contains_nil, tryM_0, hl, and_self, if_true, h2, h3]
 have e2 : frz 0 [] (tryM M w s) 7 (.ptr (M.length + 2) 0 0 0) = some (.rp (.sl (natL (w ++ [s]))) 0) := by
  have e3 : frz 0 [] (tryM M w s) 7 (.ptr (M.length + 2) 0 0 0) = (match (tryM M w s)[M.length + 2]? with
   | some o => if o.g = 0 then match o.es[0]? with
     | some e => if e.lt 0 then some (.rp e 0) else (frz 0 [] (tryM M w s) 6 e).map fun e' => .rp e' 0
     | none => none
    else none
   | none => none) := rfl
  rw [e3, tryM_2]
  simp only [if_true, List.getElem?_cons_zero]
  have e4 : (MV.arr M.length 0 (w.length + 1) 1).lt 0 = false := by simp [MV.lt]
  rw [e4, e1]; rfl
 have e5 : frz 0 [] (tryM M w s) 8 (.fn g 0 [.ptr (M.length + 2) 0 0 0]) = some (.fn g 0 [.rp (.sl (natL (w ++ [s]))) 0]) := by
  have e6 : frz 0 [] (tryM M w s) 8 (.fn g 0 [.ptr (M.length + 2) 0 0 0]) = ([MV.ptr (M.length + 2) 0 0 0].mapM (frz 0 [] (tryM M w s) 7)).map (.fn g 0) := rfl
  rw [e6]
  simp only [List.mapM_cons, List.mapM_nil, e2]; rfl
 simp only [List.mapM_cons, List.mapM_nil, e0, e5]; rfl
structure StB (R C : List (Int × Int)) (w : List Nat) (M : MHeap) : Prop where
 m0 : M[0]? = some ⟨0, false, 2, [encS R C]⟩
 m1 : M[2]? = some ⟨0, false, 2, [encS R C]⟩
 m2 : ∃ v, M[3]? = some ⟨0, false, 1, [v]⟩ ∧ RowAt M v w
 cl : hltL M.length M = true
theorem mf_body : MT.mf 62 = some ⟨39, [(.tmp 2), (.tmp 3)], (.seq (.reg [gO 1 (.box 2 (.s 0)), gO 2 (.nil0 1), gO 3 (.mv (cI 0))]) (.seq (.reg [gO 11 (.ld (some 2) (.s 1)), gO 12 (.call 146 [.s 11]), gO 10 (.mv (.s 12)), gO 13 (.ext (.s 10) 0), gO 14 (.ext (.s 10) 1), gO 4 (.new (.agg [(.lit (.slice none 0 0)), (.lit (.slice none 0 0))])), ⟨none, none, .st 2 (.s 4) (.s 13)⟩, gO 5 (.mv (.s 14))]) (.seq (.seq (.reg [gO 15 (.mv (.s 5)), gO 16 (.bin .neq (.s 15) (cI 0))]) (.cond (.s 16) (.seq (.reg [gO 17 (.mv (.s 5)), gO 2 (.nil0 1), gO 3 (.mv (.s 17))]) .ret) .skip)) (.seq (.reg [gO 6 (.new (.lit (.slice none 0 0)))]) (.seq (.seq (.reg [gO 18 (.fa 0 (.s 1)), gO 19 (.ld none (.s 18)), gO 20 (.len (.s 19)), gO 21 (.mv (cI 0))]) (.block 0 (.loop [21, 20, 4, 6] (.seq (.reg [gO 22 (.bin .lss (.s 21) (.s 20))]) (.seq (.cond (.s 22) .skip (.exit 0)) (.seq (.block 1 (.seq (.reg [gO 23 (.mv (.s 21)), gO 7 (.mv (.s 23))]) (.seq (.reg [gO 24 (.ld (some 2) (.s 4)), gO 25 (.mv (.s 7)), gO 26 (.call 147 [.s 24, .s 25])]) (.block 2 (.rf [6, 4] (.s 26) [27] (.reg [gO 8 (.mv (.s 27))]) (.block 3 (.seq (.reg [gO 28 (.ld none (.s 6)), gO 29 (.call 148 [.s 28]), gO 30 (.mv (.s 8)), gO 31 (.bsl (.lit (.int .i64 0)) 1 1 [(0, (.s 30))]), gO 32 (.app 1 (.s 29) (.s 31)), gO 9 (.new (.lit (.slice none 0 0))), ⟨none, none, .st 1 (.s 9) (.s 32)⟩]) (.seq (.reg [gO 33 (.ld (some 2) (.s 4)), gO 34 (.mf 150 0 [.s 9]), gO 35 (.call 149 [.s 33, .s 34])]) (.cond (.s 35) (.seq (.reg [gO 36 (.ld none (.s 9)), ⟨none, none, .st 1 (.s 6) (.s 36)⟩]) (.exit 2)) .skip))))))))) (.reg [gO 37 (.bin .add (.s 21) (cI 1)), gO 21 (.mv (.s 37))]))))))) (.seq (.reg [gO 38 (.ld none (.s 6)), gO 2 (.mv (.s 38)), gO 3 (.mv (cI 0))]) .ret))))))⟩ := by kernel_rfl
set_option maxHeartbeats 4000000 in
theorem body_z (k : Nat) (R C : List (Int × Int)) (hR : R.length ≤ 5) (hC : C.length ≤ 5) (hop : ∀ h, orA (k + 7) 146 [encS R C] h = some (.tup [encS R C, I64 0], h)) (hpk : ∀ i, i < R.length → (pickB R C (bodyB R C i) i).isSome = true) (hne : 0 < R.length) :
  runZ MT (orA (k + 7)) (itA (k + 7)) 4000000 62 [encS R C] [] = some (.tup [.arr 0 0 R.length 0, I64 0], [⟨0, false, 1, natL (bodyB R C R.length)⟩]) := by
 refine runZ_of mf_body (by simp) ?_
 simp only [argsL]
 have hrl : (MV.sl (R.map encP)).slen = some R.length := by simp [MV.slen]
 repeat (first | apply ef_seq | (apply ef_mv; exact rfl; exact rfl) | (apply ef_bin; (iterate 3 exact rfl); (exact cmp_f rfl (by simp only [cmpP]; omega))) | (apply ef_len; exact rfl; exact rfl; (assumption)) | (apply ef_ldp; exact rfl; exact rfl; (exact rfl); exact rfl; (exact rfl); (first | exact rd_2 rfl rfl | exact rfl)) | (apply ef_fap; exact rfl; exact rfl) | (apply ef_ext; (iterate 3 exact rfl)) | (apply ef_box; (iterate 4 exact rfl)) | (apply ef_newst; (iterate 3 exact rfl); (exact rfl); exact rfl) | (apply ef_new; exact rfl) | (apply ef_nil0; exact rfl) | apply ef_nil | apply seqQ.normal | apply ef_block | apply ef_skip | (apply ef_condf; exact rfl; (exact (rfl : false = false))) | (apply ef_call; exact rfl; ((repeat (apply XVs.cons; exact rfl)); exact XVs.nil); (with_reducible exact hop _)))
 refine ef_loopg (α := Nat × MHeap) (fun a => a.1 ≤ R.length ∧ StB R C (bodyB R C a.1) a.2 ∧ 4 ≤ a.2.length ∧ (a.1 ≠ 0 → ∃ id n g, a.2[3]? = some ⟨0, false, 1, [.arr id 0 n g]⟩ ∧ 4 ≤ id)) (fun a => [(21, I64 (a.1 : Int))]) [(20, I64 (R.length : Int)), (4, .ptr 2 0 0 0), (6, .ptr 3 0 0 0)] (fun a => a.2) (fun a => R.length - a.1)
  (0, [⟨0, false, 2, [encS R C]⟩, ⟨0, true, 1, []⟩, ⟨0, false, 2, [encS R C]⟩, ⟨0, false, 1, [.lit (.slice none 0 0)]⟩]) [21] (fun _ => rfl) (by ((repeat (refine Hold.cons (by exact rfl) ?_)); exact Hold.nil)) (by ((repeat (refine Hold.cons (by exact rfl) ?_)); exact Hold.nil)) rfl rfl rfl ?_ (by simp; omega) ?_
 ·refine ⟨Nat.zero_le _, ⟨rfl, rfl, ⟨_, rfl, .none⟩, ?_⟩, by simp, fun h => absurd rfl h⟩
  have h1 := encS_lt 4 R C
  simp only [hltL, List.all_cons, List.all_nil, ltL, h1, Bool.and_true, Bool.true_and, List.length_cons, List.length_nil]
  rfl
 rintro ⟨i, M⟩ ⟨hi, hI, hlen, hbig⟩
 obtain ⟨m0, m1, ⟨v, m2, hv⟩, hcl⟩ := hI
 by_cases hi2 : i < R.length
 ·have hp := hpk i hi2
  obtain ⟨r, hr⟩ : ∃ r, R[i]? = some r := ⟨R[i], by simp [hi2]⟩
  have hrd : R.getD i (0, 0) = r := by rw [List.getD_eq_getElem?_getD, hr]; rfl
  have hwl := bodyB_len R C i
  have hnext : bodyB R C (i + 1) = bodyB R C i ++ [(pickB R C (bodyB R C i) i).getD 0] := rfl
  generalize bodyB R C i = w at *
  obtain ⟨pk, hpk2⟩ := Option.isSome_iff_exists.1 hp
  rw [hpk2, Option.getD_some] at hnext
  unfold pickB at hpk2
  rw [hrd] at hpk2
  repeat (first | apply ef_seq | (apply ef_mv; exact rfl; exact rfl) | (apply ef_bin; (iterate 3 exact rfl); (exact cmp_t rfl (by first | exact rfl | (simp only [cmpP]; omega)))) | (apply ef_ldp; exact rfl; exact rfl; (assumption); exact rfl; (exact rfl); (exact rd_2 rfl rfl)) | apply ef_nil | apply seqQ.normal | apply ef_block | apply ef_skip | (apply ef_condt; exact rfl; (exact (rfl : true = true))) | (apply ef_call; exact rfl; ((repeat (apply XVs.cons; exact rfl)); exact XVs.nil); (with_reducible exact rows_c (k + 6) R C i _)))
  refine ef_rf (α := MHeap) (ids := []) (fun j Y => ∀ s ∈ (rowSets C.length r.1 r.2).take j, possB R C (prefP (w ++ [s])) = false) [(6, .ptr 3 0 0 0), (4, .ptr 2 0 0 0)] (fun Y => M ++ Y) (fun _ => M) [] (by exact rfl) (rows1_it (k + 5) R C i r hC hr _) (by simp)
   (idsL_lt0 (by have h1 := encS_lt 0 R C; show ((encS R C).lt 0 && ((I64 i).lt 0 && true)) = true; rw [h1]; rfl)) (by ((repeat (refine Hold.cons (by exact rfl) ?_)); exact Hold.nil)) rfl rfl rfl (fun s hs => by simp at hs) (by simp) (fun j Y _ => ?_) ?_ ?_
  ·have h1 : HeadIs [6, 4] M.length ((26, rowsF R C i) :: (25, I64 i) :: (24, encS R C) :: (7, I64 i) :: (23, I64 i) :: (22, .lit (.bool true)) :: ([(21, I64 i)] ++ [(20, I64 R.length), (4, .ptr 2 0 0 0), (6, .ptr 3 0 0 0)])) (M ++ Y) ((M ++ Y).take M.length) := .cut (fun t ht => by
    simp only [List.mem_cons, List.not_mem_nil, or_false] at ht
    rcases ht with rfl | rfl
    ·exact ⟨_, rfl, by simp only [MV.lt, decide_eq_true_eq]; simp only at hlen; omega⟩
    ·exact ⟨_, rfl, by simp only [MV.lt, decide_eq_true_eq]; simp only at hlen; omega⟩) (by rw [List.take_left]; exact hcl)
   rw [List.take_left] at h1
   exact h1
  ·intro j Y x hx hno
   simp only [List.getElem?_map, Option.map_eq_some_iff] at hx
   obtain ⟨s, hs, rfl⟩ := hx
   obtain ⟨o1, ho1⟩ : ∃ o1 : MObj, o1 = ⟨0, w.isEmpty, 1, natL w⟩ := ⟨_, rfl⟩
   have hcl2 := clone_c (k + 6) hv (by simp only at hi; omega)
   rw [← ho1] at hcl2
   show Ef _ _ _ _ _ _ ((27, I64 s) :: [(6, .ptr 3 0 0 0), (4, .ptr 2 0 0 0)]) _ _
   simp only at m0 m1 m2 ⊢
   have hrv : rdCells v.cells 0 none = some v := by cases hv <;> rfl
   repeat (first | (apply ef_mv; exact rfl; exact rfl) | apply ef_nil)
   apply preQ.normal
   repeat (first | apply ef_seq | apply ef_block)
   (apply ef_ldp; (· exact rfl); (· exact rfl); (· exact m2); (· exact rfl); (· exact rfl); (· exact hrv))
   (apply ef_call; (· exact rfl); (· ((repeat (apply XVs.cons; exact rfl)); exact XVs.nil)); · exact hcl2)
   repeat (first | (apply ef_mv; exact rfl; exact rfl) | (apply ef_bsl; exact rfl; (repeat (apply XVs.cons; exact rfl)); exact XVs.nil; exact rfl))
   subst ho1
   have q1 : (M ++ [(⟨0, w.isEmpty, 1, natL w⟩ : MObj)] ++ [(⟨0, false, 1, [I64 s]⟩ : MObj)])[M.length]? = some ⟨0, w.isEmpty, 1, natL w⟩ := by
    rw [List.append_assoc, List.getElem?_append_right (Nat.le_refl _)]; simp
   have q2 : (MV.arr (M ++ [(⟨0, w.isEmpty, 1, natL w⟩ : MObj)]).length 0 1 0).elems (M ++ [(⟨0, w.isEmpty, 1, natL w⟩ : MObj)] ++ [(⟨0, false, 1, [I64 s]⟩ : MObj)]) = some [I64 s] := by
    simp only [MV.elems, at_endC]; rfl
   have q3 : (M ++ [(⟨0, w.isEmpty, 1, natL w⟩ : MObj)] ++ [(⟨0, false, 1, [I64 s]⟩ : MObj)]).set M.length ⟨1, false, 1, (natL w).drop 0 ++ [I64 s]⟩ = M ++ [⟨1, false, 1, natL (w ++ [s])⟩, ⟨0, false, 1, [I64 s]⟩] := by
    rw [List.append_assoc, List.set_append_right _ _ (Nat.le_refl _)]
    simp
   refine ef_app (ht := by exact rfl) (by exact rfl) (by exact rfl) q2 q1 rfl (by simp) rfl (by simp; simp only at hi; omega) rfl rfl ?_
   show Ef _ _ _ _ _ _ _ ((M ++ [(⟨0, w.isEmpty, 1, natL w⟩ : MObj)] ++ [(⟨0, false, 1, [I64 s]⟩ : MObj)]).set M.length ⟨1, false, 1, (natL w).drop 0 ++ [I64 s]⟩) _
   rw [q3]
   repeat (first | apply ef_seq | (apply ef_newst; (iterate 3 exact rfl); (exact rfl); exact rfl) | apply ef_nil | apply seqQ.normal)
   have q4 : M ++ [(⟨1, false, 1, natL (w ++ [s])⟩ : MObj), ⟨0, false, 1, [I64 s]⟩] ++ [(⟨0, false, 1, [.arr M.length 0 (w.length + 1) 1]⟩ : MObj)] = tryM M w s := by unfold tryM; simp
   have q5 : (M ++ [(⟨1, false, 1, natL (w ++ [s])⟩ : MObj), ⟨0, false, 1, [I64 s]⟩]).length = M.length + 2 := by simp
   rw [q5]
   show Ef _ _ _ _ _ _ _ (M ++ [(⟨1, false, 1, natL (w ++ [s])⟩ : MObj), ⟨0, false, 1, [I64 s]⟩] ++ [(⟨0, false, 1, [.arr M.length 0 (w.length + 1) 1]⟩ : MObj)]) _
   rw [q4]
   have t1 : (tryM M w s)[2]? = some ⟨0, false, 2, [encS R C]⟩ := tryM_at m1
   have t2 := tryM_2 M w s
   have t3 : (tryM M w s)[3]? = some ⟨0, false, 1, [v]⟩ := tryM_at m2
   have hpos := possible_f (k + 1) R C _ (prefP (w ++ [s])) hR hC (may_pre (k + 4) (w ++ [s]) _ hR) (frz_try M w s 150 R C)
   repeat (first | (apply ef_ldp; exact rfl; exact rfl; (assumption); exact rfl; (exact rfl); (exact rd_2 rfl rfl)) | (apply ef_mf; exact rfl; (repeat (apply XVs.cons; exact rfl)); exact XVs.nil))
   (apply ef_call; (· exact rfl); (· ((repeat (apply XVs.cons; exact rfl)); exact XVs.nil)); · exact hpos)
   cases hP : possB R C (prefP (w ++ [s]))
   ·repeat (first | apply ef_nil | apply seqQ.normal | apply blockQ.normal | apply ef_skip | (apply ef_condf; exact rfl; (exact (rfl : false = false))))
    refine rfQ.normal _ _ ⟨[⟨1, false, 1, natL (w ++ [s])⟩, ⟨0, false, 1, [I64 s]⟩, ⟨0, false, 1, [.arr M.length 0 (w.length + 1) 1]⟩], fun s' hs' => ?_, rfl⟩
    rw [List.take_add_one, hs] at hs'
    rcases List.mem_append.1 hs' with h1 | h1
    ·exact hno s' h1
    ·simp at h1; rw [h1]; exact hP
   ·have hsp : pk = s := by
     have h1 : rowSets C.length r.1 r.2 = (rowSets C.length r.1 r.2).take j ++ s :: (rowSets C.length r.1 r.2).drop (j + 1) := by
      have h2 := List.getElem?_eq_some_iff.1 hs
      obtain ⟨h3, h4⟩ := h2
      rw [← h4, ← List.drop_eq_getElem_cons h3, List.take_append_drop]
     rw [h1, List.find?_append] at hpk2
     have h5 : ((rowSets C.length r.1 r.2).take j).find? (fun s => possB R C (prefP (w ++ [s]))) = none := by
      rw [List.find?_eq_none]
      intro x hx
      rw [hno x hx]; simp
     rw [h5, Option.none_or, List.find?_cons_of_pos (by exact hP)] at hpk2
     exact (Option.some.inj hpk2).symm
    subst hsp
    repeat (first | apply ef_seq | (apply ef_ldp; exact rfl; exact rfl; (assumption); exact rfl; (exact rfl); (exact rfl)) | apply ef_nil | apply seqQ.normal | (apply ef_condt; exact rfl; (exact (rfl : true = true))))
    have hwr : wrElem v 0 (.arr M.length 0 (w.length + 1) 1) = some (.arr M.length 0 (w.length + 1) 1) := by cases hv <;> rfl
    (apply ef_st; (· exact rfl); (· exact rfl); (· exact rfl); (· exact t3); (· exact rfl); (· exact rfl); (· exact rfl); (· exact hwr))
    repeat (first | apply ef_nil | apply seqQ.normal | apply ef_exit | (apply blockQ_there; exact rfl))
    apply rfQ.exit
    repeat (first | (apply ef_mv; exact rfl; exact rfl) | (apply ef_bin; (iterate 3 exact rfl); (((with_reducible refine bin_add (wrap_of ?_ ?_)) <;> omega))) | apply ef_nil | apply seqQ.normal | apply blockQ.normal | apply blockQ.here)
    simp only at hlen hi
    obtain ⟨H, hH⟩ : ∃ H, H = (tryM M w pk).set 3 ⟨0, false, 1, [.arr M.length 0 (w.length + 1) 1]⟩ := ⟨_, rfl⟩
    have hTl : (tryM M w pk).length = M.length + 3 := by simp [tryM]
    have hHl : H.length = M.length + 3 := by rw [hH, List.length_set, hTl]
    have hH3 : H[3]? = some ⟨0, false, 1, [.arr M.length 0 (w.length + 1) 1]⟩ := by rw [hH, List.getElem?_set_self (by rw [hTl]; omega)]
    have hHi : ∀ i, i ≠ 3 → H[i]? = (tryM M w pk)[i]? := fun i hi => by rw [hH, List.getElem?_set_ne (Ne.symm hi)]
    have hHc : hltL (M.length + 3) H = true := by
     rw [hH]
     refine hltL_set (tryM_cl w pk hcl) ?_
     simp only [ltL, MV.lt, Bool.and_true, decide_eq_true_eq]; omega
    refine loopQ.normal _ _ ⟨(i + 1, H), ⟨?_, ⟨?_, ?_, ⟨.arr M.length 0 (w.length + 1) 1, ?_, ?_⟩, ?_⟩, ?_, ?_⟩, ?_, ⟨by ((repeat (refine Hold.cons (by exact rfl) ?_)); exact Hold.nil), by ((repeat (refine Hold.cons (by exact rfl) ?_)); exact Hold.nil)⟩, ?_⟩
    ·exact hi2
    ·show H[0]? = _
     rw [hHi 0 (by decide)]; exact tryM_at m0
    ·show H[2]? = _
     rw [hHi 2 (by decide)]; exact t1
    ·exact hH3
    ·show RowAt H _ (bodyB R C (i + 1))
     rw [hnext, show w.length + 1 = (w ++ [pk]).length by simp]
     refine .some M.length 1 (w ++ [pk]) (by simp) ?_
     rw [hHi _ (by omega)]; exact tryM_0 M w pk
    ·show hltL H.length H = true
     rw [hHl]; exact hHc
    ·show 4 ≤ H.length
     omega
    ·exact fun _ => ⟨M.length, w.length + 1, 1, hH3, hlen⟩
    ·show R.length - (i + 1) < R.length - i
     omega
    ·show HeadIs _ _ _ ((tryM M w pk).set 3 ⟨0, false, 1, [.arr M.length 0 (w.length + 1) 1]⟩) H
     rw [← hH]
     refine .cell ?_
     show hltL 4 (H.take 4) = false
     rw [Bool.eq_false_iff]
     intro hc
     have h1 := List.all_eq_true.1 hc ⟨0, false, 1, [.arr M.length 0 (w.length + 1) 1]⟩ (List.mem_of_getElem? (i := 3) (by rw [List.getElem?_take, if_pos (by decide)]; exact hH3))
     simp only [ltL, MV.lt, Bool.and_true, decide_eq_true_eq] at h1
     omega
  ·intro Y hno
   exfalso
   rw [List.take_of_length_le (by simp)] at hno
   have h1 := List.find?_some hpk2
   rw [hno pk (List.mem_of_find?_eq_some hpk2)] at h1
   cases h1
 ·obtain rfl : i = R.length := by omega
  have hwl := bodyB_len R C R.length
  generalize bodyB R C R.length = w at *
  cases hv with
  | none => simp at hwl; omega
  | some id g w' hne2 hM =>
   simp only at m2 hM
   repeat (first | apply ef_seq | (apply ef_mv; exact rfl; exact rfl) | (apply ef_bin; (iterate 3 exact rfl); (exact cmp_f rfl (by simp only [cmpP]; omega))) | (apply ef_ldp; exact rfl; exact rfl; (assumption); exact rfl; (exact rfl); (exact rfl)) | apply ef_nil | apply seqQ.normal | apply loopQ.exit | apply ef_ret | apply ef_exit | apply seqQ.exit | apply blockQ.here | (apply ef_condf; exact rfl; (exact (rfl : false = false))))
   rw [← hwl]
   exact fin_al rfl (by exact rfl) (by exact rfl) hM rfl (by simp) (natL_lt 0 w) rfl rfl rfl
end Go.Proofs.YtnmgpbihknjdjaaGreatDoor

/- The examples that every law begins with. -/
namespace Go.Proofs.YtnmgpbihknjdjaaGreatDoor
open Go.RowKit
set_option linter.unusedVariables false
theorem items_c (k : Nat) (h : MHeap) : orA (k + 1) 94 [] h = some (.arr h.length 0 3 0, h ++ [⟨0, false, 3, itemE⟩]) := by
 have := callA (k := k) (h := h) (args := []) (args' := []) rfl rfl (items_z k) rfl rfl
 simpa [shV, sh1] using this
theorem cal_c (k : Nat) (h : MHeap) : orA (k + 1) 98 [] h = some (.arr h.length 0 3 0, h ++ [⟨0, false, 3, calE⟩]) := by
 have := callA (k := k) (h := h) (args := []) (args' := []) rfl rfl (cal_z k) rfl rfl
 simpa [shV, sh1] using this
theorem hole_c (k : Nat) (h : MHeap) : orA (k + 1) 95 [] h = some (holeX, h) := by
 have := callA (k := k) (h := h) (args := []) (args' := []) rfl rfl (hole_z k) rfl rfl
 simpa [shV, sh1] using this
theorem layer_c (k : Nat) (h : MHeap) : orA (k + 6) 96 [] h = some (layX, h) := by
 have := callA (k := k + 5) (h := h) (args := []) (args' := []) rfl rfl (layer_x k) rfl rfl
 simpa [shV, sh1] using this
theorem shadow_c (k : Nat) (h : MHeap) : orA (k + 1) 97 [] h = some (encS shR shC, h) := by
 have := callA (k := k) (h := h) (args := []) (args' := []) rfl rfl (shadow_x k) rfl rfl
 rw [List.append_nil] at this
 exact this
theorem whole_z (k : Nat) : runZ MT (orA (k + 3)) (itA (k + 3)) 4000000 44 [I64 80] [] = some (.agg [I64 80, I64 1], []) := by kernel_rfl
theorem low_z (k : Nat) : runZ MT (orA (k + 3)) (itA (k + 3)) 4000000 87 [I64 400, I64 3] [] = some (.agg [I64 400, I64 3], []) := by kernel_rfl
theorem whole_c (k : Nat) (h : MHeap) : orA (k + 4) 44 [I64 80] h = some (.agg [I64 80, I64 1], h) := by
 have := callA (k := k + 3) (h := h) (args := [I64 80]) (args' := [I64 80]) rfl rfl (whole_z k) rfl rfl
 simpa [shV, sh1] using this
theorem low_c (k : Nat) (h : MHeap) : orA (k + 4) 87 [I64 400, I64 3] h = some (.agg [I64 400, I64 3], h) := by
 have := callA (k := k + 3) (h := h) (args := [I64 400, I64 3]) (args' := [I64 400, I64 3]) rfl rfl (low_z k) rfl rfl
 simpa [shV, sh1] using this
theorem bestX_c (h : MHeap) {v : MV} (hv : frz 0 [] h 8 v = some itemX) : orA 13 20 [v, I64 8] h = some (.tup [.arr h.length 0 2 0, I64 16, I64 0], h ++ [⟨0, false, 1, [I64 0, I64 2]⟩]) := by
 have hf : [v, I64 8].mapM (frz 0 [] h 8) = some [itemX, I64 8] := by simp [List.mapM_cons, hv, frz_lt (m := I64 8) rfl]
 have := callA (k := 12) (h := h) hf rfl (runL_ok mfW_ok (f := 20) (m := mfW_l20) (by kernel_rfl) best_f _) (by simp [okV, ok1, MV.lt, MV.pure]) (by simp [okH, ltL, MV.lt, pureL, MV.pure])
 simpa [shV, sh1] using this
theorem priceX_c (h : MHeap) {v : MV} (hv : frz 0 [] h 8 v = some itemX) : orA 13 35 [v, I64 8] h = some (.tup [.agg [I64 7, I64 4], I64 0], h) := by
 have hf : [v, I64 8].mapM (frz 0 [] h 8) = some [itemX, I64 8] := by simp [List.mapM_cons, hv, frz_lt (m := I64 8) rfl]
 have := callA (k := 12) (h := h) hf rfl (runL_ok mfW_ok (f := 35) (m := mfW_l35) (by kernel_rfl) price_f _) (by simp [okV, ok1, MV.lt, ltL, MV.pure, pureL]) rfl
 simpa [shV, sh1] using this
theorem earlyX_c (h : MHeap) {v : MV} (hv : frz 0 [] h 8 v = some calX) : orA 13 49 [v, I64 355, I64 10] h = some (.tup [I64 376, I64 0], h) := by
 have hf : [v, I64 355, I64 10].mapM (frz 0 [] h 8) = some [calX, I64 355, I64 10] := by simp [List.mapM_cons, hv, frz_lt (m := I64 355) rfl, frz_lt (m := I64 10) rfl]
 have := callA (k := 12) (h := h) hf rfl (runL_ok mfW_ok (f := 49) (m := mfW_l49) (by kernel_rfl) early_f _) (by simp [okV, ok1, MV.lt, MV.pure]) rfl
 simpa [shV, sh1] using this
theorem cutsX_c (h : MHeap) : orA 13 26 [holeX, layX] h = some (.tup [.agg [I64 80, I64 1, I64 400, I64 3], I64 0], h) := by
 have := callA (k := 12) (h := h) (args := [holeX, layX]) (args' := [holeX, layX]) rfl rfl (runL_ok mfW_ok (f := 26) (m := mfW_l26) (by kernel_rfl) cuts_f _) rfl rfl
 simpa [shV, sh1] using this
theorem bodyX_c (h : MHeap) : orA 13 62 [encS shR shC] h = some (.tup [.arr h.length 0 2 0, I64 0], h ++ [⟨0, false, 1, [I64 1, I64 3]⟩]) := by
 have hp : ∀ i, i < shR.length → (pickB shR shC (bodyB shR shC i) i).isSome = true
  | 0, _ => by kernel_rfl
  | 1, _ => by kernel_rfl
  | i + 2, h => absurd h (by simp)
 have hb : natL (bodyB shR shC shR.length) = [I64 1, I64 3] := by kernel_rfl
 have hz := body_z 5 shR shC (by decide) (by decide) (open_xc 5) hp (by decide)
 rw [hb] at hz
 have := callA (k := 12) (h := h) (args := [encS shR shC]) (args' := [encS shR shC]) rfl rfl hz rfl rfl
 simpa [shV, sh1] using this
theorem mf_awake : MT.mf 15 = some ⟨87, [(.tmp 0)], (.seq (.reg [gO 0 (.mv cF)]) (.seq (.reg [gO 13 (.call 94 []), gO 14 (.call 20 [.s 13, (cI 8)]), gO 12 (.mv (.s 14)), gO 15 (.ext (.s 12) 0), gO 16 (.ext (.s 12) 1), gO 17 (.ext (.s 12) 2), gO 1 (.mv (.s 15)), gO 2 (.mv (.s 16)), gO 3 (.mv (.s 17))]) (.seq (.reg [gO 19 (.call 95 []), gO 20 (.call 96 []), gO 21 (.call 26 [.s 19, .s 20]), gO 18 (.mv (.s 21)), gO 22 (.ext (.s 18) 0), gO 23 (.ext (.s 18) 1), gO 4 (.new (.agg [(.lit (.int .i64 0)), (.lit (.int .i64 0)), (.lit (.int .i64 0)), (.lit (.int .i64 0))])), ⟨none, none, .st 4 (.s 4) (.s 22)⟩, gO 5 (.mv (.s 23))]) (.seq (.reg [gO 25 (.call 97 []), gO 26 (.call 62 [.s 25]), gO 24 (.mv (.s 26)), gO 27 (.ext (.s 24) 0), gO 28 (.ext (.s 24) 1), gO 6 (.mv (.s 27)), gO 7 (.mv (.s 28))]) (.seq (.reg [gO 30 (.call 94 []), gO 31 (.call 35 [.s 30, (cI 8)]), gO 29 (.mv (.s 31)), gO 32 (.ext (.s 29) 0), gO 33 (.ext (.s 29) 1), gO 8 (.new (.agg [(.lit (.int .i64 0)), (.lit (.int .i64 0))])), ⟨none, none, .st 2 (.s 8) (.s 32)⟩, gO 9 (.mv (.s 33))]) (.seq (.reg [gO 35 (.call 98 []), gO 36 (.call 49 [.s 35, (cI 355), (cI 10)]), gO 34 (.mv (.s 36)), gO 37 (.ext (.s 34) 0), gO 38 (.ext (.s 34) 1), gO 10 (.mv (.s 37)), gO 11 (.mv (.s 38))]) (.seq (.reg [gO 39 (.mv (.s 3)), gO 40 (.bin .eql (.s 39) (cI 0)), gO 41 (.mv (.s 40)), ⟨some (41, true), some 42, .mv (.s 2)⟩, ⟨some (41, true), some 43, .bin .eql (.s 42) (cI 16)⟩, gO 44 (.pick (.s 41) (.s 43) cF), gO 45 (.mv (.s 44)), ⟨some (45, true), some 46, .mv (.s 1)⟩, ⟨some (45, true), some 47, .bsl (.lit (.int .i64 0)) 1 2 [(0, (cI 0)), (1, (cI 2))]⟩, ⟨some (45, true), some 48, .call 24 [.s 46, .s 47]⟩, gO 49 (.pick (.s 45) (.s 48) cF), gO 50 (.mv (.s 49)), ⟨some (50, true), some 51, .mv (.s 5)⟩, ⟨some (50, true), some 52, .bin .eql (.s 51) (cI 0)⟩, gO 53 (.pick (.s 50) (.s 52) cF), gO 54 (.mv (.s 53)), ⟨some (54, true), some 55, .ld (some 4) (.s 4)⟩, ⟨some (54, true), some 56, .call 44 [(cI 80)]⟩, ⟨some (54, true), some 57, .call 87 [(cI 400), (cI 3)]⟩, ⟨some (54, true), some 58, .build [(.lit (.int .i64 0)), (.lit (.int .i64 0)), (.lit (.int .i64 0)), (.lit (.int .i64 0))] [(0, (2, (.s 56))), (2, (2, (.s 57)))]⟩, ⟨some (54, true), some 59, .eqa 4 false (.s 55) (.s 58)⟩, gO 60 (.pick (.s 54) (.s 59) cF), gO 61 (.mv (.s 60)), ⟨some (61, true), some 62, .mv (.s 7)⟩, ⟨some (61, true), some 63, .bin .eql (.s 62) (cI 0)⟩, gO 64 (.pick (.s 61) (.s 63) cF), gO 65 (.mv (.s 64)), ⟨some (65, true), some 66, .mv (.s 6)⟩, ⟨some (65, true), some 67, .bsl (.lit (.int .i64 0)) 1 2 [(0, (cI 1)), (1, (cI 3))]⟩, ⟨some (65, true), some 68, .call 24 [.s 66, .s 67]⟩, gO 69 (.pick (.s 65) (.s 68) cF), gO 70 (.mv (.s 69)), ⟨some (70, true), some 71, .mv (.s 9)⟩, ⟨some (70, true), some 72, .bin .eql (.s 71) (cI 0)⟩, gO 73 (.pick (.s 70) (.s 72) cF), gO 74 (.mv (.s 73)), ⟨some (74, true), some 75, .ld (some 2) (.s 8)⟩, ⟨some (74, true), some 76, .build [(.lit (.int .i64 0)), (.lit (.int .i64 0))] [(0, (1, (cI 7))), (1, (1, (cI 4)))]⟩, ⟨some (74, true), some 77, .eqa 2 false (.s 75) (.s 76)⟩, gO 78 (.pick (.s 74) (.s 77) cF), gO 79 (.mv (.s 78)), ⟨some (79, true), some 80, .mv (.s 11)⟩, ⟨some (79, true), some 81, .bin .eql (.s 80) (cI 0)⟩, gO 82 (.pick (.s 79) (.s 81) cF), gO 83 (.mv (.s 82)), ⟨some (83, true), some 84, .mv (.s 10)⟩, ⟨some (83, true), some 85, .bin .eql (.s 84) (cI 376)⟩, gO 86 (.pick (.s 83) (.s 85) cF), gO 0 (.mv (.s 86))]) .ret)))))))⟩ := by kernel_rfl
set_option maxHeartbeats 1000000 in
theorem awake_z : runZ MT (orA 13) (itA 13) 4000000 15 [] [] = some (Bo true, []) := by
 refine runZ_of mf_awake (by simp) ?_
 simp only [argsL]
 repeat (first | apply ef_seq | (apply ef_mv; exact rfl; exact rfl) | (apply ef_bin; (iterate 3 exact rfl); (exact cmp_t rfl (by first | exact rfl | (simp only [cmpP]; omega)))) | (apply ef_gy; exact rfl; (exact (rfl : true = true))) | (apply ef_pick; (iterate 3 exact rfl)) | (apply ef_ldp; (iterate 4 exact rfl); (exact rfl); (first | exact rd_2 rfl rfl | exact rd_4 rfl rfl rfl rfl)) | (apply ef_ext; (iterate 3 exact rfl)) | (apply ef_new; exact rfl) | (apply ef_build; exact rfl; (repeat (apply XVs.cons; exact rfl)); exact XVs.nil; exact rfl; exact rfl) | (apply ef_bsl; exact rfl; (repeat (apply XVs.cons; exact rfl)); exact XVs.nil; exact rfl) | (apply ef_eqa; (iterate 3 exact rfl); (exact rfl)) | (apply ef_st; (iterate 6 exact rfl); (exact rfl); exact rfl) | apply ef_nil | apply seqQ.normal | apply ef_ret | (apply ef_call; exact rfl; ((repeat (apply XVs.cons; exact rfl)); exact XVs.nil); (with_reducible first | exact items_c _ _ | exact cal_c _ _ | exact hole_c _ _ | exact layer_c _ _ | exact shadow_c _ _ | exact whole_c _ _ | exact low_c _ _ | exact bestX_c _ rfl | exact priceX_c _ rfl | exact earlyX_c _ rfl | exact cutsX_c _ | exact bodyX_c _ | exact bInts_c 12 [0, 2] [0, 2] _ (by simp) rfl rfl rfl | exact bInts_c 12 [1, 3] [1, 3] _ (by simp) rfl rfl rfl)))
 (refine fin1 rfl (by exact rfl) rfl ?_)
 rfl
theorem awake_c (h : MHeap) : orA 14 15 [] h = some (Bo true, h) := callL (args' := []) rfl rfl awake_z
end Go.Proofs.YtnmgpbihknjdjaaGreatDoor

/- TargetCuts: the walk. -/
namespace Go.Proofs.YtnmgpbihknjdjaaGreatDoor
open Go.RowKit
set_option linter.unusedVariables false
theorem eq2 (a b : Int) : litEqK (kindsOf 2) [I64 a, I64 b] [I64 a, I64 b] = some true := by
 show some (a == a && (b == b && true)) = some true
 simp
theorem eq4 (a b c d : Int) : litEqK (kindsOf 4) [I64 a, I64 b, I64 c, I64 d] [I64 a, I64 b, I64 c, I64 d] = some true := by
 show some (a == a && (b == b && (c == c && (d == d && true)))) = some true
 simp
theorem mf_law : MT.mf 4 = some ⟨108, [(.tmp 6)], (.seq (.reg [gO 3 (.box 3 (.s 0)), gO 4 (.box 5 (.s 1)), gO 5 (.box 2 (.s 2)), gO 6 (.mv cF)]) (.seq (.seq (.reg [gO 14 (.call 15 []), gO 15 (.un .not (.s 14))]) (.cond (.s 15) (.seq (.reg [gO 6 (.mv cF)]) .ret) .skip)) (.seq (.reg [gO 17 (.ld (some 3) (.s 3)), gO 18 (.fa 0 (.s 4)), gO 19 (.ld none (.s 18)), gO 20 (.ld (some 2) (.s 5)), gO 21 (.call 25 [.s 17, .s 19, .s 20]), gO 16 (.mv (.s 21)), gO 22 (.ext (.s 16) 0), gO 23 (.ext (.s 16) 1), gO 7 (.new (.agg [(.lit (.int .i64 0)), (.lit (.int .i64 0))])), ⟨none, none, .st 2 (.s 7) (.s 22)⟩, gO 8 (.mv (.s 23))]) (.seq (.reg [gO 25 (.ld (some 3) (.s 3)), gO 26 (.ld (some 5) (.s 4)), gO 27 (.call 26 [.s 25, .s 26]), gO 24 (.mv (.s 27)), gO 28 (.ext (.s 24) 0), gO 29 (.ext (.s 24) 1), gO 9 (.new (.agg [(.lit (.int .i64 0)), (.lit (.int .i64 0)), (.lit (.int .i64 0)), (.lit (.int .i64 0))])), ⟨none, none, .st 4 (.s 9) (.s 28)⟩, gO 10 (.mv (.s 29))]) (.seq (.reg [gO 30 (.ld (some 3) (.s 3)), gO 31 (.call 27 [.s 30]), gO 11 (.mv (.s 31))]) (.seq (.seq (.reg [gO 32 (.ld (some 3) (.s 3)), gO 33 (.call 28 [.s 32]), gO 34 (.mv (.s 11)), gO 35 (.bin .neq (.s 33) (.s 34))]) (.cond (.s 35) (.seq (.reg [gO 6 (.mv cF)]) .ret) .skip)) (.seq (.seq (.reg [gO 36 (.mv (.s 11)), gO 37 (.bin .neq (.s 36) (cI 0))]) (.cond (.s 37) (.seq (.reg [gO 38 (.mv (.s 8)), gO 39 (.mv (.s 11)), gO 40 (.bin .eql (.s 38) (.s 39)), gO 41 (.mv (.s 40)), ⟨some (41, true), some 42, .mv (.s 10)⟩, ⟨some (41, true), some 43, .mv (.s 11)⟩, ⟨some (41, true), some 44, .bin .eql (.s 42) (.s 43)⟩, gO 45 (.pick (.s 41) (.s 44) cF), gO 46 (.mv (.s 45)), ⟨some (46, true), some 47, .ld (some 2) (.s 7)⟩, ⟨some (46, true), some 48, .build [(.lit (.int .i64 0)), (.lit (.int .i64 0))] []⟩, ⟨some (46, true), some 49, .eqa 2 false (.s 47) (.s 48)⟩, gO 50 (.pick (.s 46) (.s 49) cF), gO 51 (.mv (.s 50)), ⟨some (51, true), some 52, .ld (some 4) (.s 9)⟩, ⟨some (51, true), some 53, .build [(.lit (.int .i64 0)), (.lit (.int .i64 0)), (.lit (.int .i64 0)), (.lit (.int .i64 0))] []⟩, ⟨some (51, true), some 54, .eqa 4 false (.s 52) (.s 53)⟩, gO 55 (.pick (.s 51) (.s 54) cF), gO 6 (.mv (.s 55))]) .ret) .skip)) (.seq (.reg [gO 56 (.fa 0 (.s 4)), gO 57 (.ld none (.s 56)), gO 58 (.call 29 [.s 57]), gO 11 (.mv (.s 58))]) (.seq (.seq (.reg [gO 59 (.mv (.s 11)), gO 60 (.bin .eql (.s 59) (cI 0))]) (.cond (.s 60) (.reg [gO 61 (.ld (some 2) (.s 5)), gO 62 (.call 30 [.s 61]), gO 11 (.mv (.s 62))]) .skip)) (.seq (.reg [gO 63 (.build [(.lit (.int .i64 0)), (.lit (.int .i64 0))] []), gO 12 (.new (.agg [(.lit (.int .i64 0)), (.lit (.int .i64 0))])), ⟨none, none, .st 2 (.s 12) (.s 63)⟩]) (.seq (.seq (.reg [gO 64 (.mv (.s 11)), gO 65 (.bin .eql (.s 64) (cI 0))]) (.cond (.s 65) (.reg [gO 67 (.ld (some 3) (.s 3)), gO 68 (.fa 0 (.s 4)), gO 69 (.ld none (.s 68)), gO 70 (.ld (some 2) (.s 5)), gO 71 (.call 31 [.s 67, .s 69, .s 70]), gO 66 (.mv (.s 71)), gO 72 (.ext (.s 66) 0), gO 73 (.ext (.s 66) 1), ⟨none, none, .st 2 (.s 12) (.s 72)⟩, gO 11 (.mv (.s 73))]) .skip)) (.seq (.seq (.reg [gO 74 (.mv (.s 8)), gO 75 (.mv (.s 11)), gO 76 (.bin .neq (.s 74) (.s 75)), gO 77 (.mv (.s 76)), ⟨some (77, false), some 78, .ld (some 2) (.s 7)⟩, ⟨some (77, false), some 79, .ld (some 2) (.s 12)⟩, ⟨some (77, false), some 80, .eqa 2 true (.s 78) (.s 79)⟩, gO 81 (.pick (.s 77) cT (.s 80))]) (.cond (.s 81) (.seq (.reg [gO 6 (.mv cF)]) .ret) .skip)) (.seq (.seq (.reg [gO 82 (.ld (some 5) (.s 4)), gO 83 (.call 32 [.s 82]), gO 11 (.mv (.s 83))]) (.seq (.reg [gO 84 (.mv (.s 11)), gO 85 (.bin .neq (.s 84) (cI 0))]) (.cond (.s 85) (.seq (.reg [gO 86 (.mv (.s 10)), gO 87 (.mv (.s 11)), gO 88 (.bin .eql (.s 86) (.s 87)), gO 89 (.mv (.s 88)), ⟨some (89, true), some 90, .ld (some 4) (.s 9)⟩, ⟨some (89, true), some 91, .build [(.lit (.int .i64 0)), (.lit (.int .i64 0)), (.lit (.int .i64 0)), (.lit (.int .i64 0))] []⟩, ⟨some (89, true), some 92, .eqa 4 false (.s 90) (.s 91)⟩, gO 93 (.pick (.s 89) (.s 92) cF), gO 6 (.mv (.s 93))]) .ret) .skip))) (.seq (.reg [gO 95 (.ld (some 3) (.s 3)), gO 96 (.ld (some 5) (.s 4)), gO 97 (.call 33 [.s 95, .s 96]), gO 94 (.mv (.s 97)), gO 98 (.ext (.s 94) 0), gO 99 (.ext (.s 94) 1), gO 13 (.new (.agg [(.lit (.int .i64 0)), (.lit (.int .i64 0)), (.lit (.int .i64 0)), (.lit (.int .i64 0))])), ⟨none, none, .st 4 (.s 13) (.s 98)⟩, gO 11 (.mv (.s 99))]) (.seq (.reg [gO 100 (.mv (.s 10)), gO 101 (.mv (.s 11)), gO 102 (.bin .eql (.s 100) (.s 101)), gO 103 (.mv (.s 102)), ⟨some (103, true), some 104, .ld (some 4) (.s 9)⟩, ⟨some (103, true), some 105, .ld (some 4) (.s 13)⟩, ⟨some (103, true), some 106, .eqa 4 false (.s 104) (.s 105)⟩, gO 107 (.pick (.s 103) (.s 106) cF), gO 6 (.mv (.s 107))]) .ret)))))))))))))))⟩ := by kernel_rfl
theorem lay_dep {x : Ly} (h : depE x.dp ≠ 0) : layE x ≠ 0 := fun h2 => by
 obtain ⟨b1, _⟩ := lay_ok h2
 apply h
 unfold depE
 rw [unl_zero (by decide), inB_iff]
 exact b1
set_option maxHeartbeats 4000000 in
theorem TargetCuts_z (o : Ho) (x : Ly) (p q : Int) (hb : x.b ≤ 9223372036854775807) (hd : x.d ≤ 9223372036854775807) (hq : q ≤ 9223372036854775807) :
  runZ MT (orA 14) (itA 14) 4000000 4 [encHo o, encLy x, encPt (p, q)] [] = some (Bo true, []) := by
 refine runZ_of mf_law (by simp) ?_
 simp only [argsL]
 have k1 := fun h => CutAt_c 7 o x.dp p q h hq
 have k2 := fun h => CutsOf_c 7 o x h hb hd
 have k3 := fun h => HoleErr_c 12 o h rfl
 have k4 := fun h => CheckHole_c 10 o h rfl
 have k5 := fun h => DepthErr_c 12 x.dp h rfl
 have k6 := fun h => SlopeErr_c 10 p q h hq rfl
 have k7 := fun h => LayerErr_c 9 x h hb hd
 have z2 := eq2 0 0
 have z4 := eq4 0 0 0 0
 by_cases e1 : holeE o = 0
 ·have r1 := fun h hd hs => rCut_c 10 o x.dp p q h e1 hd hs
  have r2 := fun h hx => rCuts_c 9 o x h e1 hx
  by_cases e4 : layE x = 0
  ·obtain ⟨b1, b2, b3, _⟩ := lay_ok e4
   have e2 : depE x.dp = 0 := Classical.byContradiction fun hn => lay_dep hn e4
   have hof : ofR o x = cutsQ o x := by
    unfold ofR
    rw [e1, e4]
    exact cuts_same e1 e4
   rw [hof] at k2
   replace r2 := fun h => r2 h e4
   generalize cutsQ o x = w at *
   have w4 := eq4 w.1 w.2.1 w.2.2.1 w.2.2.2.1
   by_cases e3 : slopeE p q = 0
   ·have hat : atR o x.dp p q = cutR o x.dp p q := by unfold atR; rw [e1, e2, e3]; rfl
    rw [hat] at k1
    replace r1 := fun h => r1 h b1 e3
    generalize cutR o x.dp p q = u at *
    have u2 := eq2 u.1 u.2.1
    repeat (first | apply ef_seq | (apply ef_mv; exact rfl; exact rfl) | (apply ef_bin; (iterate 3 exact rfl); (first | exact cmp_t rfl (by first | exact rfl | (simp only [cmpP]; omega)) | exact cmp_f rfl (by simp only [cmpP]; omega))) | (apply ef_gy; exact rfl; (first | exact (rfl : true = true) | exact (rfl : false = false))) | (apply ef_pick; (iterate 3 exact rfl)) | (apply ef_ldp; (iterate 4 exact rfl); (exact rfl); (first | exact rd_2 rfl rfl | exact rd_3 rfl rfl rfl | exact rd_4 rfl rfl rfl rfl | exact rd_5 rfl rfl rfl rfl rfl | exact rfl)) | (apply ef_fap; exact rfl; exact rfl) | (apply ef_notT; exact rfl; exact rfl) | (apply ef_ext; (iterate 3 exact rfl)) | (apply ef_box; (iterate 4 exact rfl)) | (apply ef_new; exact rfl) | (apply ef_build; exact rfl; (repeat (apply XVs.cons; exact rfl)); exact XVs.nil; exact rfl; exact rfl) | (apply ef_eqa; (iterate 3 exact rfl); (assumption)) | (apply ef_st; (iterate 6 exact rfl); (exact rfl); exact rfl) | apply ef_nil | apply seqQ.normal | apply ef_ret | apply ef_skip | (apply ef_condt; exact rfl; (exact (rfl : true = true))) | (apply ef_condf; exact rfl; (exact (rfl : false = false))) | (apply ef_call; exact rfl; ((repeat (apply XVs.cons; exact rfl)); exact XVs.nil); (with_reducible first | exact awake_c _ | exact k1 _ | exact k2 _ | exact k3 _ | exact k4 _ | exact k5 _ | exact k6 _ | exact k7 _ | exact r1 _ | exact r2 _)))
    (refine fin1 rfl (by exact rfl) rfl ?_)
    rfl
   ·have hat : atR o x.dp p q = (0, 0, slopeE p q) := by unfold atR; rw [e1, e2]; simp [firstE, e3]
    rw [hat] at k1
    repeat (first | apply ef_seq | (apply ef_mv; exact rfl; exact rfl) | (apply ef_bin; (iterate 3 exact rfl); (first | exact cmp_t rfl (by first | exact rfl | (simp only [cmpP]; omega)) | exact cmp_f rfl (by simp only [cmpP]; omega))) | (apply ef_gy; exact rfl; (first | exact (rfl : true = true) | exact (rfl : false = false))) | (apply ef_pick; (iterate 3 exact rfl)) | (apply ef_ldp; (iterate 4 exact rfl); (exact rfl); (first | exact rd_2 rfl rfl | exact rd_3 rfl rfl rfl | exact rd_4 rfl rfl rfl rfl | exact rd_5 rfl rfl rfl rfl rfl | exact rfl)) | (apply ef_fap; exact rfl; exact rfl) | (apply ef_notT; exact rfl; exact rfl) | (apply ef_ext; (iterate 3 exact rfl)) | (apply ef_box; (iterate 4 exact rfl)) | (apply ef_new; exact rfl) | (apply ef_build; exact rfl; (repeat (apply XVs.cons; exact rfl)); exact XVs.nil; exact rfl; exact rfl) | (apply ef_eqa; (iterate 3 exact rfl); (assumption)) | (apply ef_st; (iterate 6 exact rfl); (exact rfl); exact rfl) | apply ef_nil | apply seqQ.normal | apply ef_ret | apply ef_skip | (apply ef_condt; exact rfl; (exact (rfl : true = true))) | (apply ef_condf; exact rfl; (exact (rfl : false = false))) | (apply ef_call; exact rfl; ((repeat (apply XVs.cons; exact rfl)); exact XVs.nil); (with_reducible first | exact awake_c _ | exact k1 _ | exact k2 _ | exact k3 _ | exact k4 _ | exact k5 _ | exact k6 _ | exact k7 _ | exact r2 _)))
    (refine fin1 rfl (by exact rfl) rfl ?_)
    rfl
  ·have hof : ofR o x = (0, 0, 0, 0, layE x) := by unfold ofR; rw [e1]; simp [firstE, e4]
   rw [hof] at k2
   by_cases e2 : depE x.dp = 0
   ·by_cases e3 : slopeE p q = 0
    ·have hat : atR o x.dp p q = cutR o x.dp p q := by unfold atR; rw [e1, e2, e3]; rfl
     rw [hat] at k1
     replace r1 := fun h => r1 h (by unfold depE at e2; rw [unl_zero (by decide), inB_iff] at e2; exact e2) e3
     generalize cutR o x.dp p q = u at *
     have u2 := eq2 u.1 u.2.1
     repeat (first | apply ef_seq | (apply ef_mv; exact rfl; exact rfl) | (apply ef_bin; (iterate 3 exact rfl); (first | exact cmp_t rfl (by first | exact rfl | (simp only [cmpP]; omega)) | exact cmp_f rfl (by simp only [cmpP]; omega))) | (apply ef_gy; exact rfl; (first | exact (rfl : true = true) | exact (rfl : false = false))) | (apply ef_pick; (iterate 3 exact rfl)) | (apply ef_ldp; (iterate 4 exact rfl); (exact rfl); (first | exact rd_2 rfl rfl | exact rd_3 rfl rfl rfl | exact rd_4 rfl rfl rfl rfl | exact rd_5 rfl rfl rfl rfl rfl | exact rfl)) | (apply ef_fap; exact rfl; exact rfl) | (apply ef_notT; exact rfl; exact rfl) | (apply ef_ext; (iterate 3 exact rfl)) | (apply ef_box; (iterate 4 exact rfl)) | (apply ef_new; exact rfl) | (apply ef_build; exact rfl; (repeat (apply XVs.cons; exact rfl)); exact XVs.nil; exact rfl; exact rfl) | (apply ef_eqa; (iterate 3 exact rfl); (assumption)) | (apply ef_st; (iterate 6 exact rfl); (exact rfl); exact rfl) | apply ef_nil | apply seqQ.normal | apply ef_ret | apply seqQ.ret | apply ef_skip | (apply ef_condt; exact rfl; (exact (rfl : true = true))) | (apply ef_condf; exact rfl; (exact (rfl : false = false))) | (apply ef_call; exact rfl; ((repeat (apply XVs.cons; exact rfl)); exact XVs.nil); (with_reducible first | exact awake_c _ | exact k1 _ | exact k2 _ | exact k3 _ | exact k4 _ | exact k5 _ | exact k6 _ | exact k7 _ | exact r1 _)))
     (refine fin1 rfl (by exact rfl) rfl ?_)
     rfl
    ·have hat : atR o x.dp p q = (0, 0, slopeE p q) := by unfold atR; rw [e1, e2]; simp [firstE, e3]
     rw [hat] at k1
     repeat (first | apply ef_seq | (apply ef_mv; exact rfl; exact rfl) | (apply ef_bin; (iterate 3 exact rfl); (first | exact cmp_t rfl (by first | exact rfl | (simp only [cmpP]; omega)) | exact cmp_f rfl (by simp only [cmpP]; omega))) | (apply ef_gy; exact rfl; (first | exact (rfl : true = true) | exact (rfl : false = false))) | (apply ef_pick; (iterate 3 exact rfl)) | (apply ef_ldp; (iterate 4 exact rfl); (exact rfl); (first | exact rd_2 rfl rfl | exact rd_3 rfl rfl rfl | exact rd_4 rfl rfl rfl rfl | exact rd_5 rfl rfl rfl rfl rfl | exact rfl)) | (apply ef_fap; exact rfl; exact rfl) | (apply ef_notT; exact rfl; exact rfl) | (apply ef_ext; (iterate 3 exact rfl)) | (apply ef_box; (iterate 4 exact rfl)) | (apply ef_new; exact rfl) | (apply ef_build; exact rfl; (repeat (apply XVs.cons; exact rfl)); exact XVs.nil; exact rfl; exact rfl) | (apply ef_eqa; (iterate 3 exact rfl); (assumption)) | (apply ef_st; (iterate 6 exact rfl); (exact rfl); exact rfl) | apply ef_nil | apply seqQ.normal | apply ef_ret | apply seqQ.ret | apply ef_skip | (apply ef_condt; exact rfl; (exact (rfl : true = true))) | (apply ef_condf; exact rfl; (exact (rfl : false = false))) | (apply ef_call; exact rfl; ((repeat (apply XVs.cons; exact rfl)); exact XVs.nil); (with_reducible first | exact awake_c _ | exact k1 _ | exact k2 _ | exact k3 _ | exact k4 _ | exact k5 _ | exact k6 _ | exact k7 _)))
     (refine fin1 rfl (by exact rfl) rfl ?_)
     rfl
   ·have hat : atR o x.dp p q = (0, 0, depE x.dp) := by unfold atR; rw [e1]; simp [firstE, e2]
    rw [hat] at k1
    repeat (first | apply ef_seq | (apply ef_mv; exact rfl; exact rfl) | (apply ef_bin; (iterate 3 exact rfl); (first | exact cmp_t rfl (by first | exact rfl | (simp only [cmpP]; omega)) | exact cmp_f rfl (by simp only [cmpP]; omega))) | (apply ef_gy; exact rfl; (first | exact (rfl : true = true) | exact (rfl : false = false))) | (apply ef_pick; (iterate 3 exact rfl)) | (apply ef_ldp; (iterate 4 exact rfl); (exact rfl); (first | exact rd_2 rfl rfl | exact rd_3 rfl rfl rfl | exact rd_4 rfl rfl rfl rfl | exact rd_5 rfl rfl rfl rfl rfl | exact rfl)) | (apply ef_fap; exact rfl; exact rfl) | (apply ef_notT; exact rfl; exact rfl) | (apply ef_ext; (iterate 3 exact rfl)) | (apply ef_box; (iterate 4 exact rfl)) | (apply ef_new; exact rfl) | (apply ef_build; exact rfl; (repeat (apply XVs.cons; exact rfl)); exact XVs.nil; exact rfl; exact rfl) | (apply ef_eqa; (iterate 3 exact rfl); (assumption)) | (apply ef_st; (iterate 6 exact rfl); (exact rfl); exact rfl) | apply ef_nil | apply seqQ.normal | apply ef_ret | apply seqQ.ret | apply ef_skip | (apply ef_condt; exact rfl; (exact (rfl : true = true))) | (apply ef_condf; exact rfl; (exact (rfl : false = false))) | (apply ef_call; exact rfl; ((repeat (apply XVs.cons; exact rfl)); exact XVs.nil); (with_reducible first | exact awake_c _ | exact k1 _ | exact k2 _ | exact k3 _ | exact k4 _ | exact k5 _ | exact k7 _)))
    (refine fin1 rfl (by exact rfl) rfl ?_)
    rfl
 ·have hat : atR o x.dp p q = (0, 0, holeE o) := by unfold atR; simp [firstE, e1]
  have hof : ofR o x = (0, 0, 0, 0, holeE o) := by unfold ofR; simp [firstE, e1]
  rw [hat] at k1
  rw [hof] at k2
  repeat (first | apply ef_seq | (apply ef_mv; exact rfl; exact rfl) | (apply ef_bin; (iterate 3 exact rfl); (first | exact cmp_t rfl (by first | exact rfl | (simp only [cmpP]; omega)) | exact cmp_f rfl (by simp only [cmpP]; omega))) | (apply ef_gy; exact rfl; (exact (rfl : true = true))) | (apply ef_pick; (iterate 3 exact rfl)) | (apply ef_ldp; (iterate 4 exact rfl); (exact rfl); (first | exact rd_2 rfl rfl | exact rd_3 rfl rfl rfl | exact rd_4 rfl rfl rfl rfl | exact rd_5 rfl rfl rfl rfl rfl | exact rfl)) | (apply ef_fap; exact rfl; exact rfl) | (apply ef_notT; exact rfl; exact rfl) | (apply ef_ext; (iterate 3 exact rfl)) | (apply ef_box; (iterate 4 exact rfl)) | (apply ef_new; exact rfl) | (apply ef_build; exact rfl; (repeat (apply XVs.cons; exact rfl)); exact XVs.nil; exact rfl; exact rfl) | (apply ef_eqa; (iterate 3 exact rfl); (assumption)) | (apply ef_st; (iterate 6 exact rfl); (exact rfl); exact rfl) | apply ef_nil | apply seqQ.normal | apply ef_ret | apply seqQ.ret | apply ef_skip | (apply ef_condt; exact rfl; (exact (rfl : true = true))) | (apply ef_condf; exact rfl; (exact (rfl : false = false))) | (apply ef_call; exact rfl; ((repeat (apply XVs.cons; exact rfl)); exact XVs.nil); (with_reducible first | exact awake_c _ | exact k1 _ | exact k2 _ | exact k3 _ | exact k4 _)))
  (refine fin1 rfl (by exact rfl) rfl ?_)
  rfl
end Go.Proofs.YtnmgpbihknjdjaaGreatDoor

/- The law TargetCuts: for every hole, layer and slope it returns true; the arguments read as before; where the listed tables lie as the program's text lays them. -/
namespace Go.Proofs.YtnmgpbihknjdjaaGreatDoor
open Go.ChangeShapes Go.WideShapes Go.ChangeAt Go.RowKit
theorem fits_i64r {m : MV} (h : Fits i64Sh m) : ∃ n : Int, m = I64 n ∧ n ≤ 9223372036854775807 := by
 obtain ⟨n, rfl, hw⟩ := fits_int h
 refine ⟨n, rfl, ?_⟩
 simp [Lit.wf] at hw
 omega
def holeSh : Sh := .agg [i64Sh, i64Sh, i64Sh]
def frSh : Sh := .agg [i64Sh, i64Sh]
def laySh : Sh := .agg [i64Sh, .agg [frSh, frSh]]
theorem fits_hole {m : MV} (h : Fits holeSh m) : ∃ o : Ho, m = encHo o := by
 obtain ⟨ms, h', rfl⟩ := fits_agg h
 obtain ⟨m1, r1, rfl, h1, h⟩ := fitsL_cons h'
 obtain ⟨m2, r2, rfl, h2, h⟩ := fitsL_cons h
 obtain ⟨m3, r3, rfl, h3, h⟩ := fitsL_cons h
 obtain rfl := fitsL_nil h
 obtain ⟨a, rfl, -⟩ := fits_i64r h1
 obtain ⟨b, rfl, -⟩ := fits_i64r h2
 obtain ⟨c, rfl, -⟩ := fits_i64r h3
 exact ⟨⟨a, b, c⟩, rfl⟩
theorem fits_fr {m : MV} (h : Fits frSh m) : ∃ p q : Int, m = encPt (p, q) ∧ q ≤ 9223372036854775807 := by
 obtain ⟨ms, h', rfl⟩ := fits_agg h
 obtain ⟨m1, r1, rfl, h1, h⟩ := fitsL_cons h'
 obtain ⟨m2, r2, rfl, h2, h⟩ := fitsL_cons h
 obtain rfl := fitsL_nil h
 obtain ⟨a, rfl, -⟩ := fits_i64r h1
 obtain ⟨b, rfl, q1⟩ := fits_i64r h2
 exact ⟨a, b, rfl, q1⟩
theorem fits_lay {m : MV} (h : Fits laySh m) : ∃ x : Ly, m = encLy x ∧ x.b ≤ 9223372036854775807 ∧ x.d ≤ 9223372036854775807 := by
 obtain ⟨ms, h', rfl⟩ := fits_agg h
 obtain ⟨m1, r1, rfl, h1, h⟩ := fitsL_cons h'
 obtain ⟨m2, r2, rfl, h2, h⟩ := fitsL_cons h
 obtain rfl := fitsL_nil h
 obtain ⟨a, rfl, -⟩ := fits_i64r h1
 obtain ⟨ns, h2', rfl⟩ := fits_agg h2
 obtain ⟨n1, s1, rfl, h3, h⟩ := fitsL_cons h2'
 obtain ⟨n2, s2, rfl, h4, h⟩ := fitsL_cons h
 obtain rfl := fitsL_nil h
 obtain ⟨p, q, rfl, q1⟩ := fits_fr h3
 obtain ⟨p', q', rfl, q2⟩ := fits_fr h4
 exact ⟨⟨a, p, q, p', q'⟩, rfl, q1, q2⟩
def cutsShs : List Sh := [holeSh, laySh, frSh]
theorem cuts_runs (ms : List MV) (h : FitsL cutsShs ms) : runZ MT (orA 14) (itA 14) 4000000 4 ms [] = some (.lit (.bool true), []) := by
 obtain ⟨m1, r1, rfl, h1, h⟩ := fitsL_cons h
 obtain ⟨m2, r2, rfl, h2, h⟩ := fitsL_cons h
 obtain ⟨m3, r3, rfl, h3, h⟩ := fitsL_cons h
 obtain rfl := fitsL_nil h
 obtain ⟨o, rfl⟩ := fits_hole h1
 obtain ⟨x, rfl, q1, q2⟩ := fits_lay h2
 obtain ⟨p, q, rfl, q3⟩ := fits_fr h3
 exact TargetCuts_z o x p q q1 q2 q3
set_option maxRecDepth 100000 in
theorem cuts_lifted (os : Os) (started : os.Started) (H : Type) (enc : TypeId × Value → H) :
  ReturnsInHanded {} Tryz.checked os 4 .any (fun w args => (Rows.targetCutsSpec.pre enc Tryz.prog Tryz.f4 [] false w args ∧ laidMetH Tryz.prog Rows.targetCutsRow.laid w) ∧ sizedMet enc Tryz.prog Tryz.f4 (OpenSpec.ofChange Rows.targetCutsSpec) false w args)
   (Rows.targetCutsSpec.post enc Tryz.prog Tryz.f4 false true false false) := by
 refine returnsInHanded_of_change_and (C := Tryz.checked) (X := fun w _ => laidMetH Tryz.prog Rows.targetCutsRow.laid w) (fun _ _ _ hh h => h.of_heap hh) Tryz.own started (by kernel_rfl) Tryz.func4
  (ChangeSpec.witness_shaped (enc := enc) (C := Tryz.checked) (os := os) (X := fun w _ => laidMetH Tryz.prog Rows.targetCutsRow.laid w) false (World.doorLaid Tryz.prog 200 os) #[.agg #[.int .i64 0, .int .i64 0, .int .i64 0], .agg #[.int .i64 0, .int .i64 0, .int .i64 0, .int .i64 0, .int .i64 0], .agg #[.int .i64 0, .int .i64 0]] 8 rfl (World.shaped_of_RefB (by kernel_rfl) (by kernel_rfl)) (by kernel_rfl) (by kernel_rfl) (by kernel_rfl)
   (laidMetH_of_parts3 (fuel := 8) (laidMet_of_run' 8 (by kernel_rfl) (by kernel_rfl)) (by kernel_rfl) (by kernel_rfl))) ?_
 intro W base args ds gs before hval hW _ _ hL _
 exact law_contractT (orZ_ok (by kernel_rfl) (tabOf_ok Tryz.prog) tA_ok (tI_ok) 14) cutsShs (by kernel_rfl) (by kernel_rfl) rfl rfl (fun ds h => by match ds, h with | [_, _, _], _ => exact ⟨rfl, rfl, rfl⟩) cuts_runs W base args ds gs before hval hW
  (tabs_laid hL (List.mem_cons_of_mem _ (List.mem_cons_self ..)))
end Go.Proofs.YtnmgpbihknjdjaaGreatDoor

/- Facts of the whole program that each row asks for. -/
namespace Go.Proofs.YtnmgpbihknjdjaaGreatDoor
open Go
theorem jfA : laidOutB Tryz.pinned.checked.prog = true := by kernel_rfl
theorem jfB : mapsRowed Tryz.pinned.checked.prog = true := by kernel_rfl
theorem jfC : (Tryz.pinned.checked.prog.stops == []) = true := by kernel_rfl
theorem jfD : (Tryz.pinned.checked.prog.stopKnobs == []) = true := by kernel_rfl
theorem jfE : Tryz.pinned.checked.prog.stopsHeard = true := by kernel_rfl
theorem jfF : Tryz.pinned.checked.prog.mayEnter = true := by kernel_rfl
theorem jfG : (false == Tryz.pinned.checked.prog.plainKeys) = true := by kernel_rfl
theorem and_t {a b : Bool} (h : a = true) (g : b = true) : (a && b) = true := by rw [h, g]; rfl
end Go.Proofs.YtnmgpbihknjdjaaGreatDoor

/- The row of TargetCuts. -/
namespace Go.Proofs.YtnmgpbihknjdjaaGreatDoor
open Go Go.ChangeShapes Go.WideShapes Go.ChangeAt Go.RowKit
set_option linter.unusedVariables false
theorem jfcuts_0 : Rows.targetCutsRow.wf (OpenSpec.ofChange Rows.targetCutsSpec) = true := by kernel_rfl
theorem jfcuts_3 : Tryz.f4.params.all (Tryz.pinned.checked.prog.readableRec ·) = true := by kernel_rfl
theorem jfcuts_4 : namedTie Tryz.pinned.checked.prog Rows.targetCutsRow.named Rows.targetCutsSpec.vars = true := by kernel_rfl
theorem jfcuts_5 : (Rows.targetCutsRow.stops == []) = true := by kernel_rfl
theorem jfcuts_7 : (Rows.targetCutsRow.knobs == []) = true := by kernel_rfl
theorem jfcuts_9 : (Rows.targetCutsRow.inPlace == Tryz.pinned.checked.prog.inPlace 4) = true := by kernel_rfl
theorem jfcuts_10 : (Rows.targetCutsRow.unfollowed == Tryz.pinned.checked.prog.unfollowed 4) = true := by kernel_rfl
theorem jfcuts_11 : (Rows.targetCutsRow.recurses == Tryz.pinned.checked.prog.recurses 4) = true := by kernel_rfl
theorem jfcuts_12 : (Rows.targetCutsRow.named == Tryz.pinned.checked.prog.varsNamed 4) = true := by kernel_rfl
theorem jfcuts_13 : (Rows.targetCutsRow.maps == (Tryz.f4.params.toList ++ Rows.targetCutsSpec.plain.varTypes Tryz.pinned.checked.prog).any (Tryz.pinned.checked.prog.mapsRec ·)) = true := by kernel_rfl
theorem jfcuts_14 : (Rows.targetCutsRow.ifaces == (Tryz.f4.params.toList ++ Rows.targetCutsSpec.plain.varTypes Tryz.pinned.checked.prog).any (Tryz.pinned.checked.prog.ifacesRec ·)) = true := by kernel_rfl
theorem jfcuts_15 : (Rows.targetCutsRow.mapsOut == Tryz.pinned.checked.prog.mapsAmong Tryz.f4.resultTypes.toList) = true := by kernel_rfl
theorem jfcuts_16 : (Rows.targetCutsRow.loops == (Tryz.f4.params.toList ++ Rows.targetCutsSpec.plain.varTypes Tryz.pinned.checked.prog).any (Tryz.pinned.checked.prog.loopsFrom ·)) = true := by kernel_rfl
theorem jfcuts_17 : (Rows.targetCutsRow.wideKeys == (Tryz.f4.params.toList ++ Rows.targetCutsSpec.plain.varTypes Tryz.pinned.checked.prog ++ Tryz.f4.resultTypes.toList).any (Tryz.pinned.checked.prog.wideKeysFrom ·)) = true := by kernel_rfl
theorem jfcuts_18 : Rows.targetCutsSpec.vars.all (Tryz.pinned.checked.prog.varReadable ·) = true := by kernel_rfl
theorem jfcuts_19 : Tryz.f4.resultTypes.all (fun t => Tryz.pinned.checked.prog.readableRec t && decide (t < Tryz.pinned.checked.prog.types.size)) = true := by kernel_rfl
theorem jfcuts_20 : (Rows.targetCutsRow.ifacesOut == Tryz.f4.resultTypes.toList.any (Tryz.pinned.checked.prog.ifacesRec ·)) = true := by kernel_rfl
theorem jfcuts_21 : (Rows.targetCutsRow.loopsOut == Tryz.f4.resultTypes.toList.any (Tryz.pinned.checked.prog.loopsFrom ·)) = true := by kernel_rfl
theorem jfcuts_23 : Rows.targetCutsRow.shortTexts.isNone = true := by kernel_rfl
theorem jfcuts_26 : (Rows.targetCutsRow.lifted == Tryz.pinned.checked.prog.liftsFinal) = true := by kernel_rfl
theorem jfcuts_27 : (Tryz.pinned.checked.prog.make == some Rows.targetCutsRow.make) = true := by kernel_rfl
theorem jfcuts_29 : (Rows.targetCutsRow.pinned == Rows.targetCutsRow.pinnedBy) = true := by kernel_rfl
theorem jfcuts_30 : (Rows.targetCutsRow.veiled == (Tryz.f4.params.toList ++ Rows.targetCutsSpec.plain.varTypes Tryz.pinned.checked.prog ++ Tryz.f4.resultTypes.toList).any (Tryz.pinned.checked.prog.veiledRec ·)) = true := by kernel_rfl
theorem jfcuts_31 : Rows.targetCutsRow.veiledFits Tryz.pinned.checked.prog Tryz.f4.params.toList (Tryz.f4.params.toList ++ Rows.targetCutsSpec.plain.varTypes Tryz.pinned.checked.prog ++ Tryz.f4.resultTypes.toList) = true := by kernel_rfl
theorem jfcuts : joinedFacts Tryz.pinned.checked.prog 4 Tryz.f4 Rows.targetCutsSpec Rows.targetCutsRow = true := by
 unfold joinedFacts
 refine and_t (and_t (and_t (and_t (and_t (and_t (and_t (and_t (and_t (and_t (and_t (and_t (and_t (and_t (and_t (and_t (and_t (and_t (and_t (and_t (and_t (and_t (and_t (and_t (and_t (and_t (and_t (and_t (and_t (and_t (and_t jfcuts_0 jfA) jfB) jfcuts_3) jfcuts_4) jfcuts_5) jfC) jfcuts_7) jfD) jfcuts_9) jfcuts_10) jfcuts_11) jfcuts_12) jfcuts_13) jfcuts_14) jfcuts_15) jfcuts_16) jfcuts_17) jfcuts_18) jfcuts_19) jfcuts_20) jfcuts_21) jfG) jfcuts_23) jfE) jfF) jfcuts_26) jfcuts_27) (by kernel_rfl)) jfcuts_29) jfcuts_30) jfcuts_31
theorem targetCuts_row : Rows.targetCutsRow.holds Tryz.pinned (OpenSpec.ofChange Rows.targetCutsSpec) :=
 OpenClaim.holds_of_wide 4 Tryz.f4 rfl rfl rfl rfl rfl rfl rfl ⟨rfl, rfl, rfl, rfl, rfl⟩ rfl rfl rfl rfl rfl (by kernel_rfl) Tryz.func4 jfcuts
  (of_decide_eq_true (by kernel_rfl)) (by unfold Func.isWrapper; rw [if_neg (of_decide_eq_false (by kernel_rfl))]; exact ⟨rfl, rfl⟩)
  (fun os started H enc _ => cuts_lifted os started H enc)
end Go.Proofs.YtnmgpbihknjdjaaGreatDoor
