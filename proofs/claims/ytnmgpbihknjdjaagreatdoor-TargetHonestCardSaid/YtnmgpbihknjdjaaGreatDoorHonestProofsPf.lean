/- The row of TargetHonest. -/
import Derived.Laws.Bits64b
import Derived.Test.YtnmgpbihknjdjaaGreatDoorProg
import Derived.Test.YtnmgpbihknjdjaaGreatDoorChecked
import Derived.Test.YtnmgpbihknjdjaaGreatDoorRows
import Derived.SevenTiedAt
import Derived.LaidMore
import Derived.LaidOnce
import Derived.Stop.Joined
import Derived.Test.YtnmgpbihknjdjaaGreatDoorHonestProofsPe
set_option linter.unusedVariables false
set_option linter.unusedSimpArgs false
/- The first item that is not valid (plain). -/
namespace Go.Proofs.YtnmgpbihknjdjaaGreatDoor
set_option linter.unusedVariables false
def firG {α : Type} (G : Nat → α → Int) : Nat → List α → Int × Int
 | _, [] => (0, 0)
 | i, c :: l => if G i c = 0 then firG G (i + 1) l else (i, G i c)
theorem firD_G {α : Type} (g : α → Int) : ∀ (l : List α) (i : Nat), firD g i l = firG (fun _ => g) i l
 | [], _ => rfl
 | c :: l, i => by rw [firD, firG, firD_G g l]
end Go.Proofs.YtnmgpbihknjdjaaGreatDoor

/- Small helpers about memory. -/
namespace Go.Proofs.YtnmgpbihknjdjaaGreatDoor
open Go.RowKit
set_option linter.unusedVariables false
structure Bx (p : Prop) : Prop where
 out : p
end Go.Proofs.YtnmgpbihknjdjaaGreatDoor

/- Contracts: the numbers of a set; the program. -/
namespace Go.Proofs.YtnmgpbihknjdjaaGreatDoor
open Go.RowKit Go.Lib
set_option linter.unusedVariables false
set_option linter.unusedSimpArgs false
theorem frz_row {h : MHeap} {id k g : Nat} {o : MObj} {es : List MV} (ho : h[id]? = some o) (hg : o.g = g) (hk : k = es.length) (hl : ltL 0 es = true) (he : o.es = es) : frz 0 [] h 8 (.arr id 0 k g) = some (.sl es) := by
 subst he hk
 exact frz_arr ho hg (by simp) hl (by simp)
end Go.Proofs.YtnmgpbihknjdjaaGreatDoor

/- Contracts: losses. -/
namespace Go.Proofs.YtnmgpbihknjdjaaGreatDoor
open Go.RowKit
set_option linter.unusedVariables false
abbrev encPd (x : Pd) : MV := .agg [I64 x.p, Bo x.w]
theorem ltL_Pd (n : Nat) (zs : List Pd) : ltL n (zs.map encPd) = true := ltL_lits (fun _ => rfl) zs
theorem pureL_Pd (l : List Pd) : pureL (l.map encPd) = true := pureL_lits (fun _ => rfl) l
theorem mf_loss : MT.mf 167 = some ⟨13, [(.tmp 2)], (.seq (.reg [gO 1 (.box 2 (.s 0)), gO 2 (.mv (cI 0))]) (.seq (.reg [gO 4 (.fa 0 (.s 1)), gO 5 (.ld none (.s 4)), gO 3 (.mv (.s 5))]) (.seq (.seq (.reg [gO 6 (.fa 1 (.s 1)), gO 7 (.ld none (.s 6))]) (.cond (.s 7) (.reg [gO 8 (.mv (.s 3)), gO 9 (.bin .sub (cI 100) (.s 8)), gO 3 (.mv (.s 9))]) .skip)) (.seq (.reg [gO 10 (.mv (.s 3)), gO 11 (.mv (.s 3)), gO 12 (.bin .mul (.s 10) (.s 11)), gO 2 (.mv (.s 12))]) .ret))))⟩ := by kernel_rfl
theorem loss_c (k : Nat) (p : Int) (w : Bool) (h : MHeap) (hp : 0 ≤ p ∧ p ≤ 100) {v : Int} (hv : lossP ⟨p, w⟩ = v) : orA (k + 1) 167 [.agg [I64 p, Bo w]] h = some (I64 v, h) := by
 subst hv
 refine callL (args' := [.agg [I64 p, Bo w]]) (frzL_lt rfl) rfl (runZ_of mf_loss (by simp) ?_)
 simp only [argsL]
 obtain ⟨a1, a2⟩ := sq_bd (n := 100 - p) (by omega) (by omega)
 obtain ⟨b1, b2⟩ := sq_bd hp.1 hp.2
 unfold lossP
 cases w
 ·generalize hq : p * p = q at *
  have w1 : IntKind.i64.wrap (p * p) = q := by rw [hq]; exact wrap_of (by omega) (by omega)
  clear hq
  repeat (first | apply ef_seq | (apply ef_mv; exact rfl; exact rfl) | (apply ef_bin; (iterate 3 exact rfl); (first | ((with_reducible refine bin_sub (wrap_of ?_ ?_)) <;> omega) | ((with_reducible refine bin_mul (wrap_of ?_ ?_)) <;> omega) | with_reducible exact bin_sub (by assumption) | with_reducible exact bin_mul (by assumption) | exact rfl)) | (apply ef_ldr; exact rfl; exact rfl; (first | exact rfl)) | (apply ef_ldp; exact rfl; exact rfl; (first | exact rfl | assumption); exact rfl; (first | exact rfl | assumption); (first | exact rfl)) | (apply ef_fap; exact rfl; exact rfl) | (apply ef_far; exact rfl; exact rfl) | (apply ef_box; (iterate 4 exact rfl)) | apply ef_nil | apply seqQ.normal | apply ef_ret | apply seqQ.ret | apply ef_skip | (apply ef_condt; exact rfl; (first | exact (rfl : true = true) | assumption | exact decide_eq_true (by omega))) | (apply ef_condf; exact rfl; (first | exact (rfl : false = false) | assumption | exact decide_eq_false (by omega))))
  (refine fin1 rfl (by exact rfl) rfl ?_)
  rfl
 ·generalize hq : (100 - p) * (100 - p) = q at *
  have w1 : IntKind.i64.wrap ((100 - p) * (100 - p)) = q := by rw [hq]; exact wrap_of (by omega) (by omega)
  clear hq
  repeat (first | apply ef_seq | (apply ef_mv; exact rfl; exact rfl) | (apply ef_bin; (iterate 3 exact rfl); (first | ((with_reducible refine bin_sub (wrap_of ?_ ?_)) <;> omega) | ((with_reducible refine bin_mul (wrap_of ?_ ?_)) <;> omega) | with_reducible exact bin_sub (by assumption) | with_reducible exact bin_mul (by assumption) | exact rfl)) | (apply ef_ldr; exact rfl; exact rfl; (first | exact rfl)) | (apply ef_ldp; exact rfl; exact rfl; (first | exact rfl | assumption); exact rfl; (first | exact rfl | assumption); (first | exact rfl)) | (apply ef_fap; exact rfl; exact rfl) | (apply ef_far; exact rfl; exact rfl) | (apply ef_box; (iterate 4 exact rfl)) | apply ef_nil | apply seqQ.normal | apply ef_ret | apply seqQ.ret | apply ef_skip | (apply ef_condt; exact rfl; (first | exact (rfl : true = true) | assumption | exact decide_eq_true (by omega))) | (apply ef_condf; exact rfl; (first | exact (rfl : false = false) | assumption | exact decide_eq_false (by omega))))
  (refine fin1 rfl (by exact rfl) rfl ?_)
  rfl
theorem mf_isPercent : MT.mf 201 = some ⟨5, [(.tmp 2)], (.seq (.reg [gO 2 (.mv cF)]) (.seq (.reg [gO 3 (.mv (.s 0)), gO 4 (.call 103 [.s 3, (cI 0), (cI 100)]), gO 2 (.mv (.s 4))]) .ret))⟩ := by kernel_rfl
theorem isPercent_c (k : Nat) (n : Int) (h : MHeap) {t : Bool} (ht : inB n 0 100 = t) : orA (k + 2) 201 [I64 n] h = some (Bo t, h) := by
 refine callL (args' := [I64 n]) (frz_lits [.int .i64 n]) rfl (runZ_of mf_isPercent (by simp) ?_)
 simp only [argsL]
 repeat (first | first | apply ef_seq | (apply ef_mv; exact rfl; exact rfl) | apply ef_nil | apply seqQ.normal | apply ef_ret | apply seqQ.ret | (apply ef_call; exact rfl; ((repeat (apply XVs.cons; exact rfl)); exact XVs.nil); (with_reducible first | exact within_c k _ _ _ _ ht)))
 (refine fin1 rfl (by exact rfl) rfl ?_)
 rfl
theorem mf_percentErr : MT.mf 166 = some ⟨6, [(.tmp 2)], (.seq (.reg [gO 2 (.mv (cI 0))]) (.seq (.reg [gO 3 (.mv (.s 0)), gO 4 (.call 201 [.s 3]), gO 5 (.call 105 [.s 4, (cI 2)]), gO 2 (.mv (.s 5))]) .ret))⟩ := by kernel_rfl
theorem percentErr_c (k : Nat) (n : Int) (h : MHeap) {e : Int} (he : percE n = e) : orA (k + 3) 166 [I64 n] h = some (I64 e, h) := by
 refine callL (args' := [I64 n]) (frz_lits [.int .i64 n]) rfl (runZ_of mf_percentErr (by simp) ?_)
 simp only [argsL]
 unfold percE at he
 repeat (first | first | apply ef_seq | (apply ef_mv; exact rfl; exact rfl) | apply ef_nil | apply seqQ.normal | apply ef_ret | apply seqQ.ret | (apply ef_call; exact rfl; ((repeat (apply XVs.cons; exact rfl)); exact XVs.nil); (with_reducible first | exact isPercent_c k _ _ rfl | exact unless_c (k + 1) _ _ _ he)))
 (refine fin1 rfl (by exact rfl) rfl ?_)
 rfl
theorem mf_rPercentErr : MT.mf 81 = some ⟨6, [(.tmp 2)], (.seq (.reg [gO 2 (.mv (cI 0))]) (.seq (.seq (.reg [gO 3 (.mv (.s 0)), gO 4 (.call 53 [.s 3, (cI 0), (cI 100)]), gO 5 (.un .not (.s 4))]) (.cond (.s 5) (.seq (.reg [gO 2 (.mv (cI 2))]) .ret) .skip)) (.seq (.reg [gO 2 (.mv (cI 0))]) .ret)))⟩ := by kernel_rfl
theorem rPercentErr_c (k : Nat) (n : Int) (h : MHeap) {e : Int} (he : percE n = e) : orA (k + 2) 81 [I64 n] h = some (I64 e, h) := by
 refine callL (args' := [I64 n]) (frz_lits [.int .i64 n]) rfl (runZ_of mf_rPercentErr (by simp) ?_)
 simp only [argsL]
 subst he
 unfold percE
 cases h1 : inB n 0 100
 all_goals repeat (first | first | apply ef_seq | (apply ef_mv; exact rfl; exact rfl) | (apply ef_notT; exact rfl; exact rfl) | (apply ef_notF; exact rfl; exact rfl) | (apply ef_not; (iterate 3 exact rfl)) | apply ef_nil | apply seqQ.normal | apply ef_ret | apply seqQ.ret | apply ef_skip | (apply ef_condt; exact rfl; (first | exact (rfl : true = true) | assumption | exact decide_eq_true (by omega))) | (apply ef_condf; exact rfl; (first | exact (rfl : false = false) | assumption | exact decide_eq_false (by omega))) | (apply ef_call; exact rfl; ((repeat (apply XVs.cons; exact rfl)); exact XVs.nil); (with_reducible first | exact Within_c k _ _ _ _ h1)))
 all_goals ((refine fin1 rfl (by exact rfl) rfl ?_); rfl)
theorem mf_LossOf : MT.mf 76 = some ⟨13, [(.tmp 2), (.tmp 3)], (.seq (.reg [gO 1 (.box 2 (.s 0)), gO 2 (.mv (cI 0)), gO 3 (.mv (cI 0))]) (.seq (.seq (.reg [gO 5 (.fa 0 (.s 1)), gO 6 (.ld none (.s 5)), gO 7 (.call 166 [.s 6]), gO 4 (.mv (.s 7))]) (.seq (.reg [gO 8 (.mv (.s 4)), gO 9 (.bin .neq (.s 8) (cI 0))]) (.cond (.s 9) (.seq (.reg [gO 10 (.mv (.s 4)), gO 2 (.mv (cI 0)), gO 3 (.mv (.s 10))]) .ret) .skip))) (.seq (.reg [gO 11 (.ld (some 2) (.s 1)), gO 12 (.call 167 [.s 11]), gO 2 (.mv (.s 12)), gO 3 (.mv (cI 0))]) .ret)))⟩ := by kernel_rfl
def lossA (x : Pd) : Int × Int := if percE x.p = 0 then (lossP x, 0) else (0, percE x.p)
theorem perc_ok {n : Int} (h : percE n = 0) : 0 ≤ n ∧ n ≤ 100 := by
 unfold percE at h
 rw [unl_zero (by decide), inB_iff] at h
 exact h
theorem LossOf_c (k : Nat) (p : Int) (w : Bool) (h : MHeap) {r : Int × Int} (hr : lossA ⟨p, w⟩ = r) : orA (k + 4) 76 [.agg [I64 p, Bo w]] h = some (.tup [I64 r.1, I64 r.2], h) := by
 subst hr
 refine callTT (args' := [.agg [I64 p, Bo w]]) (frzL_lt rfl) rfl (runZ_of mf_LossOf (by simp) ?_)
 simp only [argsL]
 have h1 := fun h => percentErr_c k p h rfl
 have HA := Lib.hid (show lossA ⟨p, w⟩ = if percE p = 0 then (lossP ⟨p, w⟩, 0) else (0, percE p) from rfl)
 by_cases h0 : percE p = 0
 ·have h2 := fun h => loss_c (k + 2) p w h (perc_ok h0) rfl
  repeat (first | first | apply ef_seq | (apply ef_mv; exact rfl; exact rfl) | (apply ef_bin; (iterate 3 exact rfl); (first | exact cmp_t rfl (by first | exact rfl | (simp only [cmpP]; omega)) | exact cmp_f rfl (by simp only [cmpP]; omega) | exact rfl)) | (apply ef_ldr; exact rfl; exact rfl; (first | exact rd_2 rfl rfl | exact rfl)) | (apply ef_ldp; exact rfl; exact rfl; (first | exact rfl | assumption); exact rfl; (first | exact rfl | assumption); (first | exact rd_2 rfl rfl | exact rfl)) | (apply ef_fap; exact rfl; exact rfl) | (apply ef_far; exact rfl; exact rfl) | (apply ef_box; (iterate 4 exact rfl)) | apply ef_nil | apply seqQ.normal | apply ef_ret | apply seqQ.ret | apply ef_skip | (apply ef_condt; exact rfl; (first | exact (rfl : true = true) | assumption | exact decide_eq_true (by omega))) | (apply ef_condf; exact rfl; (first | exact (rfl : false = false) | assumption | exact decide_eq_false (by omega))) | (apply ef_call; exact rfl; ((repeat (apply XVs.cons; exact rfl)); exact XVs.nil); (with_reducible first | exact h1 _ | exact h2 _)))
  (refine fin2 rfl (by exact rfl) (by exact rfl) ?_)
  rw [HA.out, if_pos h0]
 ·repeat (first | first | apply ef_seq | (apply ef_mv; exact rfl; exact rfl) | (apply ef_bin; (iterate 3 exact rfl); (first | exact cmp_t rfl (by first | exact rfl | (simp only [cmpP]; omega)) | exact cmp_f rfl (by simp only [cmpP]; omega) | exact rfl)) | (apply ef_ldr; exact rfl; exact rfl; (first | exact rd_2 rfl rfl | exact rfl)) | (apply ef_ldp; exact rfl; exact rfl; (first | exact rfl | assumption); exact rfl; (first | exact rfl | assumption); (first | exact rd_2 rfl rfl | exact rfl)) | (apply ef_fap; exact rfl; exact rfl) | (apply ef_far; exact rfl; exact rfl) | (apply ef_box; (iterate 4 exact rfl)) | apply ef_nil | apply seqQ.normal | apply ef_ret | apply seqQ.ret | apply ef_skip | (apply ef_condt; exact rfl; (first | exact (rfl : true = true) | assumption | exact decide_eq_true (by omega))) | (apply ef_condf; exact rfl; (first | exact (rfl : false = false) | assumption | exact decide_eq_false (by omega))) | (apply ef_call; exact rfl; ((repeat (apply XVs.cons; exact rfl)); exact XVs.nil); (with_reducible first | exact h1 _)))
  (refine fin2 rfl (by exact rfl) (by exact rfl) ?_)
  rw [HA.out, if_neg h0]
def expA (p t : Int) : Int × Int := if firstE [percE p, percE t] = 0 then (expE p t, 0) else (0, firstE [percE p, percE t])
theorem mf_ExpectedOf : MT.mf 77 = some ⟨28, [(.tmp 4), (.tmp 5)], (.seq (.reg [gO 4 (.mv (cI 0)), gO 5 (.mv (cI 0))]) (.seq (.seq (.reg [gO 7 (.mv (.s 0)), gO 8 (.call 166 [.s 7]), gO 9 (.mv (.s 1)), gO 10 (.call 166 [.s 9]), gO 11 (.bsl (.lit (.int .i64 0)) 1 2 [(0, (.s 8)), (1, (.s 10))]), gO 12 (.call 104 [.s 11]), gO 6 (.mv (.s 12))]) (.seq (.reg [gO 13 (.mv (.s 6)), gO 14 (.bin .neq (.s 13) (cI 0))]) (.cond (.s 14) (.seq (.reg [gO 15 (.mv (.s 6)), gO 4 (.mv (cI 0)), gO 5 (.mv (.s 15))]) .ret) .skip))) (.seq (.reg [gO 16 (.mv (.s 1)), gO 17 (.mv (.s 0)), gO 18 (.build [(.lit (.int .i64 0)), (.lit (.bool false))] [(0, (1, (.s 17))), (1, (1, cT))]), gO 19 (.call 167 [.s 18]), gO 20 (.bin .mul (.s 16) (.s 19)), gO 21 (.mv (.s 1)), gO 22 (.bin .sub (cI 100) (.s 21)), gO 23 (.mv (.s 0)), gO 24 (.build [(.lit (.int .i64 0)), (.lit (.bool false))] [(0, (1, (.s 23)))]), gO 25 (.call 167 [.s 24]), gO 26 (.bin .mul (.s 22) (.s 25)), gO 27 (.bin .add (.s 20) (.s 26)), gO 4 (.mv (.s 27)), gO 5 (.mv (cI 0))]) .ret)))⟩ := by kernel_rfl
theorem exp_parts {p t : Int} (hp : 0 ≤ p ∧ p ≤ 100) (ht : 0 ≤ t ∧ t ≤ 100) : expE p t = t * lossP ⟨p, true⟩ + (100 - t) * lossP ⟨p, false⟩ ∧ (0 ≤ t * lossP ⟨p, true⟩ ∧ t * lossP ⟨p, true⟩ ≤ 1000000) ∧ (0 ≤ (100 - t) * lossP ⟨p, false⟩ ∧ (100 - t) * lossP ⟨p, false⟩ ≤ 1000000) := by
 obtain ⟨a1, a2⟩ := loss_bd (x := ⟨p, true⟩) hp
 obtain ⟨b1, b2⟩ := loss_bd (x := ⟨p, false⟩) hp
 have e1 := Int.mul_nonneg ht.1 a1
 have e2 := Int.mul_nonneg (show 0 ≤ 100 - t by omega) b1
 have e3 := Int.mul_le_mul ht.2 a2 a1 (by decide)
 have e4 := Int.mul_le_mul (show 100 - t ≤ 100 by omega) b2 b1 (by decide)
 exact ⟨rfl, ⟨e1, by omega⟩, ⟨e2, by omega⟩⟩
theorem ExpectedOf_c (k : Nat) (p t : Int) (h : MHeap) {r : Int × Int} (hr : expA p t = r) : orA (k + 4) 77 [I64 p, I64 t] h = some (.tup [I64 r.1, I64 r.2], h) := by
 subst hr
 refine callTT (args' := [I64 p, I64 t]) (frz_lits [.int .i64 p, .int .i64 t]) rfl (runZ_of mf_ExpectedOf (by simp) ?_)
 simp only [argsL]
 have h1 := fun h => percentErr_c k p h rfl
 have h2 := fun h => percentErr_c k t h rfl
 have HA := Lib.hid (show expA p t = if firstE [percE p, percE t] = 0 then (expE p t, 0) else (0, firstE [percE p, percE t]) from rfl)
 by_cases h0 : firstE [percE p, percE t] = 0
 ·obtain ⟨q1, q2⟩ := firstE_nil h0
  obtain ⟨q2, _⟩ := firstE_nil q2
  obtain ⟨e0, ⟨e1, e2⟩, e3, e4⟩ := exp_parts (perc_ok q1) (perc_ok q2)
  have ht := perc_ok q2
  have h3 := fun h => loss_c (k + 2) p true h (perc_ok q1) rfl
  have h4 := fun h => loss_c (k + 2) p false h (perc_ok q1) rfl
  have E0 := Lib.hid e0
  clear e0 q1 q2
  generalize lossP ⟨p, true⟩ = A at *
  generalize lossP ⟨p, false⟩ = B at *
  generalize hA : t * A = P at *
  generalize hB : (100 - t) * B = Q at *
  have w1 : IntKind.i64.wrap (t * A) = P := by rw [hA]; exact wrap_of (by omega) (by omega)
  have w2 : IntKind.i64.wrap ((100 - t) * B) = Q := by rw [hB]; exact wrap_of (by omega) (by omega)
  clear hA hB
  repeat (first | first | apply ef_seq | (apply ef_mv; exact rfl; exact rfl) | (apply ef_bin; (iterate 3 exact rfl); (first | exact cmp_t rfl (by first | exact rfl | (simp only [cmpP]; omega)) | exact cmp_f rfl (by simp only [cmpP]; omega) | ((with_reducible refine bin_add (wrap_of ?_ ?_)) <;> omega) | ((with_reducible refine bin_sub (wrap_of ?_ ?_)) <;> omega) | ((with_reducible refine bin_mul (wrap_of ?_ ?_)) <;> omega) | with_reducible exact bin_add (by assumption) | with_reducible exact bin_sub (by assumption) | with_reducible exact bin_mul (by assumption) | exact rfl)) | (apply ef_build; exact rfl; (repeat (apply XVs.cons; exact rfl)); exact XVs.nil; exact rfl; exact rfl) | (apply ef_bsl; exact rfl; (repeat (apply XVs.cons; exact rfl)); exact XVs.nil; exact rfl) | apply ef_nil | apply seqQ.normal | apply ef_ret | apply seqQ.ret | apply ef_skip | (apply ef_condt; exact rfl; (first | exact (rfl : true = true) | assumption | exact decide_eq_true (by omega))) | (apply ef_condf; exact rfl; (first | exact (rfl : false = false) | assumption | exact decide_eq_false (by omega))) | (apply ef_call; exact rfl; ((repeat (apply XVs.cons; exact rfl)); exact XVs.nil); (with_reducible first | exact h1 _ | exact h2 _)) | (apply ef_call; exact rfl; ((repeat (apply XVs.cons; exact rfl)); exact XVs.nil); (with_reducible apply first2_c); (iterate 3 exact rfl); (first | assumption | exact rfl)))
  (apply ef_call; (· exact rfl); (· ((repeat (apply XVs.cons; exact rfl)); exact XVs.nil)); · exact h3 _)
  repeat (first | apply ef_seq | (apply ef_mv; exact rfl; exact rfl) | (apply ef_bin; (iterate 3 exact rfl); (first | exact cmp_t rfl (by first | exact rfl | (simp only [cmpP]; omega)) | exact cmp_f rfl (by simp only [cmpP]; omega) | ((with_reducible refine bin_add (wrap_of ?_ ?_)) <;> omega) | ((with_reducible refine bin_sub (wrap_of ?_ ?_)) <;> omega) | ((with_reducible refine bin_mul (wrap_of ?_ ?_)) <;> omega) | with_reducible exact bin_add (by assumption) | with_reducible exact bin_sub (by assumption) | with_reducible exact bin_mul (by assumption) | exact rfl)) | (apply ef_build; exact rfl; (repeat (apply XVs.cons; exact rfl)); exact XVs.nil; exact rfl; exact rfl) | (apply ef_bsl; exact rfl; (repeat (apply XVs.cons; exact rfl)); exact XVs.nil; exact rfl) | apply ef_nil | apply seqQ.normal | apply ef_ret | apply seqQ.ret | apply ef_skip | (apply ef_condt; exact rfl; (first | exact (rfl : true = true) | assumption | exact decide_eq_true (by omega))) | (apply ef_condf; exact rfl; (first | exact (rfl : false = false) | assumption | exact decide_eq_false (by omega))))
  (apply ef_call; (· exact rfl); (· ((repeat (apply XVs.cons; exact rfl)); exact XVs.nil)); · exact h4 _)
  repeat (first | apply ef_seq | (apply ef_mv; exact rfl; exact rfl) | (apply ef_bin; (iterate 3 exact rfl); (first | exact cmp_t rfl (by first | exact rfl | (simp only [cmpP]; omega)) | exact cmp_f rfl (by simp only [cmpP]; omega) | ((with_reducible refine bin_add (wrap_of ?_ ?_)) <;> omega) | ((with_reducible refine bin_sub (wrap_of ?_ ?_)) <;> omega) | ((with_reducible refine bin_mul (wrap_of ?_ ?_)) <;> omega) | with_reducible exact bin_add (by assumption) | with_reducible exact bin_sub (by assumption) | with_reducible exact bin_mul (by assumption) | exact rfl)) | (apply ef_build; exact rfl; (repeat (apply XVs.cons; exact rfl)); exact XVs.nil; exact rfl; exact rfl) | (apply ef_bsl; exact rfl; (repeat (apply XVs.cons; exact rfl)); exact XVs.nil; exact rfl) | apply ef_nil | apply seqQ.normal | apply ef_ret | apply seqQ.ret | apply ef_skip | (apply ef_condt; exact rfl; (first | exact (rfl : true = true) | assumption | exact decide_eq_true (by omega))) | (apply ef_condf; exact rfl; (first | exact (rfl : false = false) | assumption | exact decide_eq_false (by omega))))
  (refine fin2 rfl (by exact rfl) (by exact rfl) ?_)
  rw [HA.out, if_pos h0, E0.out]
 ·repeat (first | first | apply ef_seq | (apply ef_mv; exact rfl; exact rfl) | (apply ef_bin; (iterate 3 exact rfl); (first | exact cmp_t rfl (by first | exact rfl | (simp only [cmpP]; omega)) | exact cmp_f rfl (by simp only [cmpP]; omega) | ((with_reducible refine bin_add (wrap_of ?_ ?_)) <;> omega) | ((with_reducible refine bin_sub (wrap_of ?_ ?_)) <;> omega) | ((with_reducible refine bin_mul (wrap_of ?_ ?_)) <;> omega) | with_reducible exact bin_add (by assumption) | with_reducible exact bin_sub (by assumption) | with_reducible exact bin_mul (by assumption) | exact rfl)) | (apply ef_build; exact rfl; (repeat (apply XVs.cons; exact rfl)); exact XVs.nil; exact rfl; exact rfl) | (apply ef_bsl; exact rfl; (repeat (apply XVs.cons; exact rfl)); exact XVs.nil; exact rfl) | apply ef_nil | apply seqQ.normal | apply ef_ret | apply seqQ.ret | apply ef_skip | (apply ef_condt; exact rfl; (first | exact (rfl : true = true) | assumption | exact decide_eq_true (by omega))) | (apply ef_condf; exact rfl; (first | exact (rfl : false = false) | assumption | exact decide_eq_false (by omega))) | (apply ef_call; exact rfl; ((repeat (apply XVs.cons; exact rfl)); exact XVs.nil); (with_reducible first | exact h1 _ | exact h2 _)) | (apply ef_call; exact rfl; ((repeat (apply XVs.cons; exact rfl)); exact XVs.nil); (with_reducible apply first2_c); (iterate 3 exact rfl); (first | assumption | exact rfl)))
  (refine fin2 rfl (by exact rfl) (by exact rfl) ?_)
  rw [HA.out, if_neg h0]
end Go.Proofs.YtnmgpbihknjdjaaGreatDoor

/- Shapes of predictions. -/
namespace Go.Proofs.YtnmgpbihknjdjaaGreatDoor
open Go.ChangeShapes Go.WideShapes Go.ChangeAt Go.RowKit
def pdSh : Sh := .agg [i64Sh, .bool]
theorem fits_pd {m : MV} (h : Fits pdSh m) : ∃ x : Pd, m = encPd x := by
 obtain ⟨ms, h', rfl⟩ := fits_agg h
 obtain ⟨m1, r1, rfl, h1, h⟩ := fitsL_cons h'
 obtain ⟨m2, r2, rfl, h2, h⟩ := fitsL_cons h
 obtain rfl := fitsL_nil h
 obtain ⟨a, rfl, -⟩ := fits_i64r h1
 unfold Fits at h2
 obtain ⟨b, rfl⟩ := h2
 exact ⟨⟨a, b⟩, rfl⟩
end Go.Proofs.YtnmgpbihknjdjaaGreatDoor

/- Contracts: predictions. -/
namespace Go.Proofs.YtnmgpbihknjdjaaGreatDoor
open Go.RowKit
set_option linter.unusedVariables false
theorem mf_eachPd : MT.mf 202 = some ⟨25, [(.tmp 4), (.tmp 5)], (.seq (.reg [gO 4 (.mv (cI 0)), gO 5 (.mv (cI 0))]) (.seq (.seq (.reg [gO 9 (.mv (.s 0)), gO 10 (.len (.s 9)), gO 11 (.mv (cI 0))]) (.block 0 (.loop [11, 10, 9, 1] (.seq (.reg [gO 12 (.bin .lss (.s 11) (.s 10))]) (.seq (.cond (.s 12) .skip (.exit 0)) (.seq (.block 1 (.seq (.reg [gO 13 (.mv (.s 11)), gO 14 (.ia 2 (.s 9) (.s 11)), gO 15 (.ld (some 2) (.s 14)), gO 7 (.new (.agg [(.lit (.int .i64 0)), (.lit (.bool false))])), gO 6 (.mv (.s 13)), ⟨none, none, .st 2 (.s 7) (.s 15)⟩]) (.seq (.reg [gO 16 (.mv (.s 1)), gO 17 (.mv (.s 6)), gO 18 (.ld (some 2) (.s 7)), gO 19 (.callv (.s 16) [.s 17, .s 18]), gO 8 (.mv (.s 19))]) (.seq (.reg [gO 20 (.mv (.s 8)), gO 21 (.bin .neq (.s 20) (cI 0))]) (.cond (.s 21) (.seq (.reg [gO 22 (.mv (.s 6)), gO 23 (.mv (.s 8)), gO 4 (.mv (.s 22)), gO 5 (.mv (.s 23))]) .ret) .skip))))) (.reg [gO 24 (.bin .add (.s 11) (cI 1)), gO 11 (.mv (.s 24))]))))))) (.seq (.reg [gO 4 (.mv (cI 0)), gO 5 (.mv (cI 0))]) .ret)))⟩ := by kernel_rfl
theorem eachPd_z (k g : Nat) (caps : List MV) (G : Nat → Pd → Int) (zs : List Pd) (hx : zs.length ≤ 1000) (hcl : ltL 0 caps = true) (hg : ∀ (i : Nat) (hi : i < zs.length) h, orA k g (I64 (i : Int) :: encPd zs[i] :: caps) h = some (I64 (G i zs[i]), h)) :
  runZ MT (orA k) (itA k) 4000000 202 [.sl (zs.map encPd), .fn g 0 caps] [] = some (.tup [I64 (firG G 0 zs).1, I64 (firG G 0 zs).2], []) := by
 have hl : (MV.sl (zs.map encPd)).slen = some zs.length := by simp [MV.slen]
 refine runZ_of mf_eachPd (by simp) ?_
 simp only [argsL]
 repeat (first | apply ef_seq | (apply ef_mv; exact rfl; exact rfl) | (apply ef_bin; (iterate 3 exact rfl); (first | exact cmp_t rfl (by first | exact rfl | (simp only [cmpP]; omega)) | exact cmp_f rfl (by simp only [cmpP]; omega) | ((with_reducible refine bin_add (wrap_of ?_ ?_)) <;> omega) | with_reducible exact bin_add (by assumption) | exact rfl)) | (apply ef_len; exact rfl; exact rfl; (first | assumption | exact rfl)) | (apply ef_ldr; exact rfl; exact rfl; (first | exact rd_2 rfl rfl | exact rfl)) | (apply ef_ldp; exact rfl; exact rfl; (first | exact rfl | assumption); exact rfl; (first | exact rfl | assumption); (first | exact rd_2 rfl rfl | exact rfl)) | (apply ef_ias; (iterate 3 exact rfl); (first | omega | assumption); assumption; exact rfl) | (apply ef_iaa; (iterate 3 exact rfl); (first | omega | assumption); (first | omega | assumption); (first | exact rfl | assumption | exact ok_of rfl rfl rfl)) | (apply ef_newst; (iterate 3 exact rfl); (first | exact rfl | assumption); exact rfl) | (apply ef_new; exact rfl) | (apply ef_st; (iterate 6 exact rfl); (first | exact rfl | assumption); exact rfl) | apply ef_nil | apply seqQ.normal | apply loopQ.ret | apply loopQ.exit | apply ef_ret | apply seqQ.ret | apply ef_exit | apply seqQ.exit | apply blockQ.normal | apply blockQ.ret | apply blockQ.here | (apply blockQ_there; exact rfl) | apply ef_block | apply ef_skip | (apply ef_condt; exact rfl; (first | exact (rfl : true = true) | assumption | exact decide_eq_true (by omega))) | (apply ef_condf; exact rfl; (first | exact (rfl : false = false) | assumption | exact decide_eq_false (by omega))))
 refine ef_loopf (α := Nat) (fun i => i ≤ zs.length ∧ firG G 0 zs = firG G i (zs.drop i)) (fun i => [(11, I64 (i : Int))]) [(10, I64 (zs.length : Int)), (9, .sl (zs.map encPd)), (1, .fn g 0 caps)] (fun _ => []) (fun i => zs.length - i) 0 [11] (fun _ => rfl) (by ((repeat (refine Hold.cons (by exact rfl) ?_)); exact Hold.nil)) (by ((repeat (refine Hold.cons (by exact rfl) ?_)); exact Hold.nil)) rfl rfl ⟨by omega, rfl⟩ (by simp; omega) ?_
 rintro i ⟨hi, hz⟩
 by_cases hlt : i < zs.length
 ·have e1 := at_map encPd zs i hlt
  have HD := Lib.hid (drop_at zs i hlt)
  have HZ := Lib.hid hz
  have hg1 := hg i hlt
  clear hz
  generalize zs[i] = z at e1 HD hg1
  obtain ⟨t, ht⟩ : ∃ t, G i z = t := ⟨_, rfl⟩
  have HT := Lib.hid ht
  rw [ht] at hg1
  clear ht
  have hlz : (encPd z).lt 0 = true := by rfl
  by_cases h0 : t = 0
  ·subst h0
   repeat (first | apply ef_seq | (apply ef_mv; exact rfl; exact rfl) | (apply ef_bin; (iterate 3 exact rfl); (first | exact cmp_t rfl (by first | exact rfl | (simp only [cmpP]; omega)) | exact cmp_f rfl (by simp only [cmpP]; omega) | ((with_reducible refine bin_add (wrap_of ?_ ?_)) <;> omega) | with_reducible exact bin_add (by assumption) | exact rfl)) | (apply ef_len; exact rfl; exact rfl; (first | assumption | exact rfl)) | (apply ef_ldr; exact rfl; exact rfl; (first | exact rd_2 rfl rfl | exact rfl)) | (apply ef_ldp; exact rfl; exact rfl; (first | exact rfl | assumption); exact rfl; (first | exact rfl | assumption); (first | exact rd_2 rfl rfl | exact rfl)) | (apply ef_ias; (iterate 3 exact rfl); (first | omega | assumption); assumption; exact rfl) | (apply ef_iaa; (iterate 3 exact rfl); (first | omega | assumption); (first | omega | assumption); (first | exact rfl | assumption | exact ok_of rfl rfl rfl)) | (apply ef_newst; (iterate 3 exact rfl); (first | exact rfl | assumption); exact rfl) | (apply ef_new; exact rfl) | (apply ef_st; (iterate 6 exact rfl); (first | exact rfl | assumption); exact rfl) | apply ef_nil | apply seqQ.normal | apply loopQ.ret | apply loopQ.exit | apply ef_ret | apply seqQ.ret | apply ef_exit | apply seqQ.exit | apply blockQ.normal | apply blockQ.ret | apply blockQ.here | (apply blockQ_there; exact rfl) | apply ef_block | apply ef_skip | (apply ef_condt; exact rfl; (first | exact (rfl : true = true) | assumption | exact decide_eq_true (by omega))) | (apply ef_condf; exact rfl; (first | exact (rfl : false = false) | assumption | exact decide_eq_false (by omega))))
   (apply ef_callv; (· exact rfl); (· exact rfl); (· ((repeat (apply XVs.cons; exact rfl)); exact XVs.nil)); (· exact rfl); (· exact hg1 _))
   repeat (first | apply ef_seq | (apply ef_mv; exact rfl; exact rfl) | (apply ef_bin; (iterate 3 exact rfl); (first | exact cmp_t rfl (by first | exact rfl | (simp only [cmpP]; omega)) | exact cmp_f rfl (by simp only [cmpP]; omega) | ((with_reducible refine bin_add (wrap_of ?_ ?_)) <;> omega) | with_reducible exact bin_add (by assumption) | exact rfl)) | (apply ef_len; exact rfl; exact rfl; (first | assumption | exact rfl)) | (apply ef_ldr; exact rfl; exact rfl; (first | exact rd_2 rfl rfl | exact rfl)) | (apply ef_ldp; exact rfl; exact rfl; (first | exact rfl | assumption); exact rfl; (first | exact rfl | assumption); (first | exact rd_2 rfl rfl | exact rfl)) | (apply ef_ias; (iterate 3 exact rfl); (first | omega | assumption); assumption; exact rfl) | (apply ef_iaa; (iterate 3 exact rfl); (first | omega | assumption); (first | omega | assumption); (first | exact rfl | assumption | exact ok_of rfl rfl rfl)) | (apply ef_newst; (iterate 3 exact rfl); (first | exact rfl | assumption); exact rfl) | (apply ef_new; exact rfl) | (apply ef_st; (iterate 6 exact rfl); (first | exact rfl | assumption); exact rfl) | apply ef_nil | apply seqQ.normal | apply loopQ.ret | apply loopQ.exit | apply ef_ret | apply seqQ.ret | apply ef_exit | apply seqQ.exit | apply blockQ.normal | apply blockQ.ret | apply blockQ.here | (apply blockQ_there; exact rfl) | apply ef_block | apply ef_skip | (apply ef_condt; exact rfl; (first | exact (rfl : true = true) | assumption | exact decide_eq_true (by omega))) | (apply ef_condf; exact rfl; (first | exact (rfl : false = false) | assumption | exact decide_eq_false (by omega))))
   (refine loopQ.normal _ _ ⟨i + 1, ⟨hlt, by rw [HZ.out, HD.out, firG, if_pos HT.out]⟩, (by first | (simp only; omega) | omega), ⟨by ((repeat (refine Hold.cons (by exact rfl) ?_)); exact Hold.nil), by ((repeat (refine Hold.cons (by exact rfl) ?_)); exact Hold.nil)⟩, .inr ⟨by ((repeat (refine hdl_cons rfl (by first | rfl | (simp [MV.lt, ltL, ltL_Pd, hcl])) ?_)); exact hdl_nil), by first | rfl | (simp [hltL, ltL, MV.lt, ltL, ltL_Pd, hcl])⟩, by first | exact rfl | (simp only [List.map_append, List.map_set]; exact rfl)⟩)
  ·repeat (first | apply ef_seq | (apply ef_mv; exact rfl; exact rfl) | (apply ef_bin; (iterate 3 exact rfl); (first | exact cmp_t rfl (by first | exact rfl | (simp only [cmpP]; omega)) | exact cmp_f rfl (by simp only [cmpP]; omega) | ((with_reducible refine bin_add (wrap_of ?_ ?_)) <;> omega) | with_reducible exact bin_add (by assumption) | exact rfl)) | (apply ef_len; exact rfl; exact rfl; (first | assumption | exact rfl)) | (apply ef_ldr; exact rfl; exact rfl; (first | exact rd_2 rfl rfl | exact rfl)) | (apply ef_ldp; exact rfl; exact rfl; (first | exact rfl | assumption); exact rfl; (first | exact rfl | assumption); (first | exact rd_2 rfl rfl | exact rfl)) | (apply ef_ias; (iterate 3 exact rfl); (first | omega | assumption); assumption; exact rfl) | (apply ef_iaa; (iterate 3 exact rfl); (first | omega | assumption); (first | omega | assumption); (first | exact rfl | assumption | exact ok_of rfl rfl rfl)) | (apply ef_newst; (iterate 3 exact rfl); (first | exact rfl | assumption); exact rfl) | (apply ef_new; exact rfl) | (apply ef_st; (iterate 6 exact rfl); (first | exact rfl | assumption); exact rfl) | apply ef_nil | apply seqQ.normal | apply loopQ.ret | apply loopQ.exit | apply ef_ret | apply seqQ.ret | apply ef_exit | apply seqQ.exit | apply blockQ.normal | apply blockQ.ret | apply blockQ.here | (apply blockQ_there; exact rfl) | apply ef_block | apply ef_skip | (apply ef_condt; exact rfl; (first | exact (rfl : true = true) | assumption | exact decide_eq_true (by omega))) | (apply ef_condf; exact rfl; (first | exact (rfl : false = false) | assumption | exact decide_eq_false (by omega))))
   (apply ef_callv; (· exact rfl); (· exact rfl); (· ((repeat (apply XVs.cons; exact rfl)); exact XVs.nil)); (· exact rfl); (· exact hg1 _))
   repeat (first | apply ef_seq | (apply ef_mv; exact rfl; exact rfl) | (apply ef_bin; (iterate 3 exact rfl); (first | exact cmp_t rfl (by first | exact rfl | (simp only [cmpP]; omega)) | exact cmp_f rfl (by simp only [cmpP]; omega) | ((with_reducible refine bin_add (wrap_of ?_ ?_)) <;> omega) | with_reducible exact bin_add (by assumption) | exact rfl)) | (apply ef_len; exact rfl; exact rfl; (first | assumption | exact rfl)) | (apply ef_ldr; exact rfl; exact rfl; (first | exact rd_2 rfl rfl | exact rfl)) | (apply ef_ldp; exact rfl; exact rfl; (first | exact rfl | assumption); exact rfl; (first | exact rfl | assumption); (first | exact rd_2 rfl rfl | exact rfl)) | (apply ef_ias; (iterate 3 exact rfl); (first | omega | assumption); assumption; exact rfl) | (apply ef_iaa; (iterate 3 exact rfl); (first | omega | assumption); (first | omega | assumption); (first | exact rfl | assumption | exact ok_of rfl rfl rfl)) | (apply ef_newst; (iterate 3 exact rfl); (first | exact rfl | assumption); exact rfl) | (apply ef_new; exact rfl) | (apply ef_st; (iterate 6 exact rfl); (first | exact rfl | assumption); exact rfl) | apply ef_nil | apply seqQ.normal | apply loopQ.ret | apply loopQ.exit | apply ef_ret | apply seqQ.ret | apply ef_exit | apply seqQ.exit | apply blockQ.normal | apply blockQ.ret | apply blockQ.here | (apply blockQ_there; exact rfl) | apply ef_block | apply ef_skip | (apply ef_condt; exact rfl; (first | exact (rfl : true = true) | assumption | exact decide_eq_true (by omega))) | (apply ef_condf; exact rfl; (first | exact (rfl : false = false) | assumption | exact decide_eq_false (by omega))))
   (refine fin2 rfl (by exact rfl) (by exact rfl) ?_)
   rw [HZ.out, HD.out, firG, HT.out, if_neg h0]
 ·repeat (first | apply ef_seq | (apply ef_mv; exact rfl; exact rfl) | (apply ef_bin; (iterate 3 exact rfl); (first | exact cmp_t rfl (by first | exact rfl | (simp only [cmpP]; omega)) | exact cmp_f rfl (by simp only [cmpP]; omega) | ((with_reducible refine bin_add (wrap_of ?_ ?_)) <;> omega) | with_reducible exact bin_add (by assumption) | exact rfl)) | (apply ef_len; exact rfl; exact rfl; (first | assumption | exact rfl)) | (apply ef_ldr; exact rfl; exact rfl; (first | exact rd_2 rfl rfl | exact rfl)) | (apply ef_ldp; exact rfl; exact rfl; (first | exact rfl | assumption); exact rfl; (first | exact rfl | assumption); (first | exact rd_2 rfl rfl | exact rfl)) | (apply ef_ias; (iterate 3 exact rfl); (first | omega | assumption); assumption; exact rfl) | (apply ef_iaa; (iterate 3 exact rfl); (first | omega | assumption); (first | omega | assumption); (first | exact rfl | assumption | exact ok_of rfl rfl rfl)) | (apply ef_newst; (iterate 3 exact rfl); (first | exact rfl | assumption); exact rfl) | (apply ef_new; exact rfl) | (apply ef_st; (iterate 6 exact rfl); (first | exact rfl | assumption); exact rfl) | apply ef_nil | apply seqQ.normal | apply loopQ.ret | apply loopQ.exit | apply ef_ret | apply seqQ.ret | apply ef_exit | apply seqQ.exit | apply blockQ.normal | apply blockQ.ret | apply blockQ.here | (apply blockQ_there; exact rfl) | apply ef_block | apply ef_skip | (apply ef_condt; exact rfl; (first | exact (rfl : true = true) | assumption | exact decide_eq_true (by omega))) | (apply ef_condf; exact rfl; (first | exact (rfl : false = false) | assumption | exact decide_eq_false (by omega))))
  (refine fin2 rfl (by exact rfl) (by exact rfl) ?_)
  rw [hz, List.drop_eq_nil_of_le (by omega)]; rfl
theorem eachPd_c (k g : Nat) (caps : List MV) (G : Nat → Pd → Int) (zs : List Pd) (h : MHeap) {v fv : MV} (hx : zs.length ≤ 1000) (hcl : ltL 0 caps = true) (hg : ∀ (i : Nat) (hi : i < zs.length) h, orA k g (I64 (i : Int) :: encPd zs[i] :: caps) h = some (I64 (G i zs[i]), h)) (hv : frz 0 [] h 8 v = some (.sl (zs.map encPd))) (hf : frz 0 [] h 8 fv = some (.fn g 0 caps)) :
  orA (k + 1) 202 [v, fv] h = some (.tup [I64 (firG G 0 zs).1, I64 (firG G 0 zs).2], h) :=
 callTT (args' := [.sl (zs.map encPd), .fn g 0 caps]) (by simp [List.mapM_cons, hv, hf]) rfl (eachPd_z k g caps G zs hx hcl hg)
theorem mf_cE1 : MT.mf 203 = some ⟨8, [(.tmp 4)], (.seq (.reg [gO 3 (.box 2 (.s 1)), gO 4 (.mv (cI 0))]) (.seq (.reg [gO 5 (.fa 0 (.s 3)), gO 6 (.ld none (.s 5)), gO 7 (.call 166 [.s 6]), gO 4 (.mv (.s 7))]) .ret))⟩ := by kernel_rfl
theorem cE1_c (k : Nat) (i : Nat) (x : Pd) (h : MHeap) : orA (k + 4) 203 [I64 (i : Int), encPd x] h = some (I64 (percE x.p), h) := by
 refine callL (args' := [I64 (i : Int), encPd x]) (frzL_lt rfl) rfl (runZ_of mf_cE1 (by simp) ?_)
 simp only [argsL]
 repeat (first | first | apply ef_seq | (apply ef_mv; exact rfl; exact rfl) | (apply ef_ldr; exact rfl; exact rfl; (first | exact rfl)) | (apply ef_ldp; exact rfl; exact rfl; (first | exact rfl | assumption); exact rfl; (first | exact rfl | assumption); (first | exact rfl)) | (apply ef_fap; exact rfl; exact rfl) | (apply ef_far; exact rfl; exact rfl) | (apply ef_box; (iterate 4 exact rfl)) | apply ef_nil | apply seqQ.normal | apply ef_ret | apply seqQ.ret | (apply ef_call; exact rfl; ((repeat (apply XVs.cons; exact rfl)); exact XVs.nil); (with_reducible first | exact percentErr_c k _ _ rfl)))
 (refine fin1 rfl (by exact rfl) rfl ?_)
 rfl
theorem firC_D : ∀ (l : List Pd) (i : Nat), firC l = (firD (fun x => percE x.p) i l).2
 | [], _ => rfl
 | x :: l, i => by rw [firC, firD]; split; exact firC_D l (i + 1); rfl
theorem mf_callsErr : MT.mf 168 = some ⟨17, [(.tmp 2)], (.seq (.reg [gO 2 (.mv (cI 0))]) (.seq (.reg [gO 6 (.mv (.s 0)), gO 7 (.call 202 [.s 6, (.c (.fn 203 0 []))]), gO 5 (.mv (.s 7)), gO 8 (.ext (.s 5) 0), gO 9 (.ext (.s 5) 1), gO 3 (.mv (.s 8)), gO 4 (.mv (.s 9))]) (.seq (.reg [gO 10 (.mv (.s 0)), gO 11 (.len (.s 10)), gO 12 (.bin .leq (.s 11) (cI 60)), gO 13 (.call 105 [.s 12, (cI 8)]), gO 14 (.mv (.s 4)), gO 15 (.bsl (.lit (.int .i64 0)) 1 2 [(0, (.s 13)), (1, (.s 14))]), gO 16 (.call 104 [.s 15]), gO 2 (.mv (.s 16))]) .ret)))⟩ := by kernel_rfl
theorem callsErr_c (k : Nat) (l : List Pd) (h : MHeap) {v : MV} (hx : l.length ≤ 100) (hv : frz 0 [] h 8 v = some (.sl (l.map encPd))) {e : Int} (he : callE l = e) : orA (k + 6) 168 [v] h = some (I64 e, h) := by
 subst he
 refine callL (args' := [.sl (l.map encPd)]) (by simp [List.mapM_cons, hv]) rfl (runZ_of mf_callsErr (by simp) ?_)
 simp only [argsL]
 have hs : (MV.sl (l.map encPd)).slen = some l.length := by simp [MV.slen]
 have h1 := fun h => eachPd_c (k + 4) 203 [] (fun _ x => percE x.p) l h (v := .sl (l.map encPd)) (fv := .fn 203 0 []) (by omega) rfl (fun i hi h => cE1_c k i l[i] h) (frz_sl (ltL_Pd 0 l)) (by simp [frz, MV.lt, ltL])
 rw [← firD_G (fun x : Pd => percE x.p)] at h1
 have HE := Lib.hid (show callE l = if 60 < l.length then 8 else (firD (fun x : Pd => percE x.p) 0 l).2 by unfold callE; rw [firC_D l 0])
 generalize firD (fun x : Pd => percE x.p) 0 l = q at *
 by_cases hb : 60 < l.length
 ·have hu := fun h => unless_c (k + 4) false 8 h rfl
  repeat (first | first | apply ef_seq | (apply ef_mv; exact rfl; exact rfl) | (apply ef_bin; (iterate 3 exact rfl); (first | exact cmp_t rfl (by first | exact rfl | (simp only [cmpP]; omega)) | exact cmp_f rfl (by simp only [cmpP]; omega) | exact rfl)) | (apply ef_len; exact rfl; exact rfl; (first | assumption | exact rfl)) | (apply ef_ext; (iterate 3 exact rfl)) | (apply ef_bsl; exact rfl; (repeat (apply XVs.cons; exact rfl)); exact XVs.nil; exact rfl) | apply ef_nil | apply seqQ.normal | apply ef_ret | apply seqQ.ret | (apply ef_call; exact rfl; ((repeat (apply XVs.cons; exact rfl)); exact XVs.nil); (with_reducible first | exact h1 _ | exact hu _)) | (apply ef_call; exact rfl; ((repeat (apply XVs.cons; exact rfl)); exact XVs.nil); (with_reducible apply first2_c); (iterate 3 exact rfl); (first | assumption | exact rfl)))
  (refine fin1 rfl (by exact rfl) rfl ?_)
  rw [HE.out, if_pos hb]; rfl
 ·have hu := fun h => unless_c (k + 4) true 8 h rfl
  repeat (first | first | apply ef_seq | (apply ef_mv; exact rfl; exact rfl) | (apply ef_bin; (iterate 3 exact rfl); (first | exact cmp_t rfl (by first | exact rfl | (simp only [cmpP]; omega)) | exact cmp_f rfl (by simp only [cmpP]; omega) | exact rfl)) | (apply ef_len; exact rfl; exact rfl; (first | assumption | exact rfl)) | (apply ef_ext; (iterate 3 exact rfl)) | (apply ef_bsl; exact rfl; (repeat (apply XVs.cons; exact rfl)); exact XVs.nil; exact rfl) | apply ef_nil | apply seqQ.normal | apply ef_ret | apply seqQ.ret | (apply ef_call; exact rfl; ((repeat (apply XVs.cons; exact rfl)); exact XVs.nil); (with_reducible first | exact h1 _ | exact hu _)) | (apply ef_call; exact rfl; ((repeat (apply XVs.cons; exact rfl)); exact XVs.nil); (with_reducible apply first2_c); (iterate 3 exact rfl); (first | assumption | exact rfl)))
  (refine fin1 rfl (by exact rfl) rfl ?_)
  rw [HE.out, if_neg hb]
  by_cases h0 : q.2 = 0
  ·simp [firstE, h0, unl]
  ·simp [firstE, h0, unl]
theorem mf_rCallsErr : MT.mf 84 = some ⟨23, [(.tmp 2)], (.seq (.reg [gO 2 (.mv (cI 0))]) (.seq (.seq (.reg [gO 5 (.mv (.s 0)), gO 6 (.len (.s 5)), gO 7 (.bin .gtr (.s 6) (cI 60))]) (.cond (.s 7) (.seq (.reg [gO 2 (.mv (cI 8))]) .ret) .skip)) (.seq (.seq (.reg [gO 3 (.mv (cI 0))]) (.block 0 (.loop [3, 0] (.seq (.seq (.reg [gO 8 (.mv (.s 3)), gO 9 (.mv (.s 0)), gO 10 (.len (.s 9)), gO 11 (.bin .lss (.s 8) (.s 10))]) (.cond (.s 11) .skip (.exit 0))) (.seq (.block 1 (.seq (.reg [gO 14 (.mv (.s 0)), gO 15 (.mv (.s 3)), gO 16 (.ia 2 (.s 14) (.s 15)), gO 17 (.fa 0 (.s 16)), gO 18 (.ld none (.s 17)), gO 19 (.call 81 [.s 18]), gO 4 (.mv (.s 19))]) (.seq (.reg [gO 20 (.mv (.s 4)), gO 21 (.bin .neq (.s 20) (cI 0))]) (.cond (.s 21) (.seq (.reg [gO 22 (.mv (.s 4)), gO 2 (.mv (.s 22))]) .ret) .skip)))) (.reg [gO 12 (.mv (.s 3)), gO 13 (.bin .add (.s 12) (cI 1)), gO 3 (.mv (.s 13))])))))) (.seq (.reg [gO 2 (.mv (cI 0))]) .ret))))⟩ := by kernel_rfl
theorem rCallsErr_c (k : Nat) (l : List Pd) (h : MHeap) {v : MV} (hx : (l.length : Int) ≤ 9223372036854775807) (hv : frz 0 [] h 8 v = some (.sl (l.map encPd))) {e : Int} (he : callE l = e) : orA (k + 3) 84 [v] h = some (I64 e, h) := by
 subst he
 refine callL (args' := [.sl (l.map encPd)]) (by simp [List.mapM_cons, hv]) rfl (runZ_of mf_rCallsErr (by simp) ?_)
 simp only [argsL]
 have hs : (MV.sl (l.map encPd)).slen = some l.length := by simp [MV.slen]
 have HE := Lib.hid (show callE l = if 60 < l.length then 8 else firC l from rfl)
 by_cases hb : 60 < l.length
 ·repeat (first | apply ef_seq | (apply ef_mv; exact rfl; exact rfl) | (apply ef_bin; (iterate 3 exact rfl); (first | exact cmp_t rfl (by first | exact rfl | (simp only [cmpP]; omega)) | exact cmp_f rfl (by simp only [cmpP]; omega) | ((with_reducible refine bin_add (wrap_of ?_ ?_)) <;> omega) | with_reducible exact bin_add (by assumption) | exact rfl)) | (apply ef_len; exact rfl; exact rfl; (first | assumption | exact rfl)) | (apply ef_ldr; exact rfl; exact rfl; (first | exact rfl)) | (apply ef_ldp; exact rfl; exact rfl; (first | exact rfl | assumption); exact rfl; (first | exact rfl | assumption); (first | exact rfl)) | (apply ef_ias; (iterate 3 exact rfl); (first | omega | assumption); assumption; exact rfl) | (apply ef_iaa; (iterate 3 exact rfl); (first | omega | assumption); (first | omega | assumption); (first | exact rfl | assumption | exact ok_of rfl rfl rfl)) | (apply ef_fap; exact rfl; exact rfl) | (apply ef_far; exact rfl; exact rfl) | apply ef_nil | apply seqQ.normal | apply loopQ.ret | apply loopQ.exit | apply ef_ret | apply seqQ.ret | apply ef_exit | apply seqQ.exit | apply blockQ.normal | apply blockQ.ret | apply blockQ.here | (apply blockQ_there; exact rfl) | apply ef_block | apply ef_skip | (apply ef_condt; exact rfl; (first | exact (rfl : true = true) | assumption | exact decide_eq_true (by omega))) | (apply ef_condf; exact rfl; (first | exact (rfl : false = false) | assumption | exact decide_eq_false (by omega))))
  (refine fin1 rfl (by exact rfl) rfl ?_)
  rw [HE.out, if_pos hb]
 ·repeat (first | apply ef_seq | (apply ef_mv; exact rfl; exact rfl) | (apply ef_bin; (iterate 3 exact rfl); (first | exact cmp_t rfl (by first | exact rfl | (simp only [cmpP]; omega)) | exact cmp_f rfl (by simp only [cmpP]; omega) | ((with_reducible refine bin_add (wrap_of ?_ ?_)) <;> omega) | with_reducible exact bin_add (by assumption) | exact rfl)) | (apply ef_len; exact rfl; exact rfl; (first | assumption | exact rfl)) | (apply ef_ldr; exact rfl; exact rfl; (first | exact rfl)) | (apply ef_ldp; exact rfl; exact rfl; (first | exact rfl | assumption); exact rfl; (first | exact rfl | assumption); (first | exact rfl)) | (apply ef_ias; (iterate 3 exact rfl); (first | omega | assumption); assumption; exact rfl) | (apply ef_iaa; (iterate 3 exact rfl); (first | omega | assumption); (first | omega | assumption); (first | exact rfl | assumption | exact ok_of rfl rfl rfl)) | (apply ef_fap; exact rfl; exact rfl) | (apply ef_far; exact rfl; exact rfl) | apply ef_nil | apply seqQ.normal | apply loopQ.ret | apply loopQ.exit | apply ef_ret | apply seqQ.ret | apply ef_exit | apply seqQ.exit | apply blockQ.normal | apply blockQ.ret | apply blockQ.here | (apply blockQ_there; exact rfl) | apply ef_block | apply ef_skip | (apply ef_condt; exact rfl; (first | exact (rfl : true = true) | assumption | exact decide_eq_true (by omega))) | (apply ef_condf; exact rfl; (first | exact (rfl : false = false) | assumption | exact decide_eq_false (by omega))))
  refine ef_loopf (α := Nat) (fun i => i ≤ l.length ∧ firC l = firC (l.drop i)) (fun i => [(3, I64 (i : Int))]) [(0, .sl (l.map encPd))] (fun _ => []) (fun i => l.length - i) 0 [3] (fun _ => rfl) (by ((repeat (refine Hold.cons (by exact rfl) ?_)); exact Hold.nil)) (by ((repeat (refine Hold.cons (by exact rfl) ?_)); exact Hold.nil)) rfl rfl ⟨by omega, rfl⟩ (by simp; omega) ?_
  rintro i ⟨hi, hz⟩
  by_cases hlt : i < l.length
  ·have e1 := at_map encPd l i hlt
   have HD := Lib.hid (drop_at l i hlt)
   have HZ := Lib.hid hz
   clear hz
   generalize l[i] = c at e1 HD
   have hp := fun h => rPercentErr_c k c.p h rfl
   obtain ⟨e, he⟩ : ∃ e, percE c.p = e := ⟨_, rfl⟩
   have HP := Lib.hid he
   rw [he] at hp
   clear he
   by_cases h0 : e = 0
   ·repeat (first | first | apply ef_seq | (apply ef_mv; exact rfl; exact rfl) | (apply ef_bin; (iterate 3 exact rfl); (first | exact cmp_t rfl (by first | exact rfl | (simp only [cmpP]; omega)) | exact cmp_f rfl (by simp only [cmpP]; omega) | ((with_reducible refine bin_add (wrap_of ?_ ?_)) <;> omega) | with_reducible exact bin_add (by assumption) | exact rfl)) | (apply ef_len; exact rfl; exact rfl; (first | assumption | exact rfl)) | (apply ef_ldr; exact rfl; exact rfl; (first | exact rfl)) | (apply ef_ldp; exact rfl; exact rfl; (first | exact rfl | assumption); exact rfl; (first | exact rfl | assumption); (first | exact rfl)) | (apply ef_ias; (iterate 3 exact rfl); (first | omega | assumption); assumption; exact rfl) | (apply ef_iaa; (iterate 3 exact rfl); (first | omega | assumption); (first | omega | assumption); (first | exact rfl | assumption | exact ok_of rfl rfl rfl)) | (apply ef_fap; exact rfl; exact rfl) | (apply ef_far; exact rfl; exact rfl) | apply ef_nil | apply seqQ.normal | apply loopQ.ret | apply loopQ.exit | apply ef_ret | apply seqQ.ret | apply ef_exit | apply seqQ.exit | apply blockQ.normal | apply blockQ.ret | apply blockQ.here | (apply blockQ_there; exact rfl) | apply ef_block | apply ef_skip | (apply ef_condt; exact rfl; (first | exact (rfl : true = true) | assumption | exact decide_eq_true (by omega))) | (apply ef_condf; exact rfl; (first | exact (rfl : false = false) | assumption | exact decide_eq_false (by omega))) | (apply ef_call; exact rfl; ((repeat (apply XVs.cons; exact rfl)); exact XVs.nil); (with_reducible first | exact hp _)))
    (refine loopQ.normal _ _ ⟨i + 1, ⟨hlt, by rw [HZ.out, HD.out, firC, HP.out, if_pos h0]⟩, (by first | (simp only; omega) | omega), ⟨by ((repeat (refine Hold.cons (by exact rfl) ?_)); exact Hold.nil), by ((repeat (refine Hold.cons (by exact rfl) ?_)); exact Hold.nil)⟩, .inl (Nat.le_refl _), (by first | exact List.take_length | exact rfl | exact takeF rfl rfl)⟩)
   ·repeat (first | first | apply ef_seq | (apply ef_mv; exact rfl; exact rfl) | (apply ef_bin; (iterate 3 exact rfl); (first | exact cmp_t rfl (by first | exact rfl | (simp only [cmpP]; omega)) | exact cmp_f rfl (by simp only [cmpP]; omega) | ((with_reducible refine bin_add (wrap_of ?_ ?_)) <;> omega) | with_reducible exact bin_add (by assumption) | exact rfl)) | (apply ef_len; exact rfl; exact rfl; (first | assumption | exact rfl)) | (apply ef_ldr; exact rfl; exact rfl; (first | exact rfl)) | (apply ef_ldp; exact rfl; exact rfl; (first | exact rfl | assumption); exact rfl; (first | exact rfl | assumption); (first | exact rfl)) | (apply ef_ias; (iterate 3 exact rfl); (first | omega | assumption); assumption; exact rfl) | (apply ef_iaa; (iterate 3 exact rfl); (first | omega | assumption); (first | omega | assumption); (first | exact rfl | assumption | exact ok_of rfl rfl rfl)) | (apply ef_fap; exact rfl; exact rfl) | (apply ef_far; exact rfl; exact rfl) | apply ef_nil | apply seqQ.normal | apply loopQ.ret | apply loopQ.exit | apply ef_ret | apply seqQ.ret | apply ef_exit | apply seqQ.exit | apply blockQ.normal | apply blockQ.ret | apply blockQ.here | (apply blockQ_there; exact rfl) | apply ef_block | apply ef_skip | (apply ef_condt; exact rfl; (first | exact (rfl : true = true) | assumption | exact decide_eq_true (by omega))) | (apply ef_condf; exact rfl; (first | exact (rfl : false = false) | assumption | exact decide_eq_false (by omega))) | (apply ef_call; exact rfl; ((repeat (apply XVs.cons; exact rfl)); exact XVs.nil); (with_reducible first | exact hp _)))
    (refine fin1 rfl (by exact rfl) rfl ?_)
    rw [HE.out, if_neg hb, HZ.out, HD.out, firC, HP.out, if_neg h0]
  ·repeat (first | apply ef_seq | (apply ef_mv; exact rfl; exact rfl) | (apply ef_bin; (iterate 3 exact rfl); (first | exact cmp_t rfl (by first | exact rfl | (simp only [cmpP]; omega)) | exact cmp_f rfl (by simp only [cmpP]; omega) | ((with_reducible refine bin_add (wrap_of ?_ ?_)) <;> omega) | with_reducible exact bin_add (by assumption) | exact rfl)) | (apply ef_len; exact rfl; exact rfl; (first | assumption | exact rfl)) | (apply ef_ldr; exact rfl; exact rfl; (first | exact rfl)) | (apply ef_ldp; exact rfl; exact rfl; (first | exact rfl | assumption); exact rfl; (first | exact rfl | assumption); (first | exact rfl)) | (apply ef_ias; (iterate 3 exact rfl); (first | omega | assumption); assumption; exact rfl) | (apply ef_iaa; (iterate 3 exact rfl); (first | omega | assumption); (first | omega | assumption); (first | exact rfl | assumption | exact ok_of rfl rfl rfl)) | (apply ef_fap; exact rfl; exact rfl) | (apply ef_far; exact rfl; exact rfl) | apply ef_nil | apply seqQ.normal | apply loopQ.ret | apply loopQ.exit | apply ef_ret | apply seqQ.ret | apply ef_exit | apply seqQ.exit | apply blockQ.normal | apply blockQ.ret | apply blockQ.here | (apply blockQ_there; exact rfl) | apply ef_block | apply ef_skip | (apply ef_condt; exact rfl; (first | exact (rfl : true = true) | assumption | exact decide_eq_true (by omega))) | (apply ef_condf; exact rfl; (first | exact (rfl : false = false) | assumption | exact decide_eq_false (by omega))))
   (refine fin1 rfl (by exact rfl) rfl ?_)
   rw [HE.out, if_neg hb, hz, List.drop_eq_nil_of_le (by omega)]; rfl
theorem mf_CopyCalls : MT.mf 79 = some ⟨6, [(.tmp 2)], (.seq (.reg [gO 2 (.nil0 2)]) (.seq (.reg [gO 3 (.bsl (.agg [(.lit (.int .i64 0)), (.lit (.bool false))]) 2 0 []), gO 4 (.mv (.s 0)), gO 5 (.app 2 (.s 3) (.s 4)), gO 2 (.mv (.s 5))]) .ret))⟩ := by kernel_rfl
theorem CopyCalls_z (k : Nat) (l : List Pd) (hx : l.length ≤ 1000) : runZ MT (orA k) (itA k) 4000000 79 [.sl (l.map encPd)] [] = some (.arr 0 0 l.length 0, [⟨0, false, 2, l.map encPd⟩]) := by
 refine runZ_of mf_CopyCalls (by simp) ?_
 simp only [argsL]
 cases l with
 | nil =>
  repeat (first | apply ef_seq | (apply ef_mv; exact rfl; exact rfl) | (apply ef_nil0; exact rfl) | (apply ef_bsl; exact rfl; (repeat (apply XVs.cons; exact rfl)); exact XVs.nil; exact rfl) | apply ef_nil | apply seqQ.normal | apply ef_ret | apply seqQ.ret)
  (apply ef_app0; (iterate 8 exact rfl))
  repeat (first | apply ef_seq | (apply ef_mv; exact rfl; exact rfl) | (apply ef_nil0; exact rfl) | (apply ef_bsl; exact rfl; (repeat (apply XVs.cons; exact rfl)); exact XVs.nil; exact rfl) | apply ef_nil | apply seqQ.normal | apply ef_ret | apply seqQ.ret)
  (apply fin_arr; (· exact rfl); (· exact rfl); (· exact rfl); (· exact rfl); (· (exact Nat.le_refl _)); (· (exact rfl)); (· (exact rfl)); (· exact rfl); (· exact rfl); (· (exact rfl)))
 | cons z zs =>
  have hs : ((z :: zs).map encPd).all (MV.sOk 2) = true := by
   rw [List.all_eq_true]
   intro m hm
   obtain ⟨_, _, rfl⟩ := List.mem_map.1 hm
   rfl
  repeat (first | apply ef_seq | (apply ef_mv; exact rfl; exact rfl) | (apply ef_nil0; exact rfl) | (apply ef_bsl; exact rfl; (repeat (apply XVs.cons; exact rfl)); exact XVs.nil; exact rfl) | apply ef_nil | apply seqQ.normal | apply ef_ret | apply seqQ.ret)
  (apply ef_app; (· exact rfl); (· exact rfl); (· exact rfl); (· exact rfl); (· exact rfl); (· exact rfl); (· exact rfl); (· exact rfl); (· (simp at hx ⊢; omega)); (· exact hs); (· exact rfl))
  repeat (first | apply ef_seq | (apply ef_mv; exact rfl; exact rfl) | (apply ef_nil0; exact rfl) | (apply ef_bsl; exact rfl; (repeat (apply XVs.cons; exact rfl)); exact XVs.nil; exact rfl) | apply ef_nil | apply seqQ.normal | apply ef_ret | apply seqQ.ret)
  (apply fin_arr; (· exact rfl); (· exact rfl); (· exact rfl); (· exact rfl); (· simp); (· (exact ltL_Pd 0 (z :: zs))); (· (simp; rw [List.take_of_length_le (by simp)])); (· exact rfl); (· exact rfl); (· (simp)))
theorem CopyCalls_c (k : Nat) (l : List Pd) (h : MHeap) (hx : l.length ≤ 1000) : orA (k + 1) 79 [.sl (l.map encPd)] h = some (.arr h.length 0 l.length 0, h ++ [⟨0, false, 2, l.map encPd⟩]) := by
 have := callA (k := k) (h := h) (args := [.sl (l.map encPd)]) (args' := [.sl (l.map encPd)]) (frzL_lt (by simp [ltL, MV.lt, ltL_Pd])) rfl (CopyCalls_z k l hx) (by simp [okV, ok1, MV.lt, MV.pure]) (by simp [okH, ltL_Pd, pureL_Pd])
 simpa [shV, sh1] using this
def meanE (l : List Pd) : Int := firstE [callE l, unl (decide (0 < l.length)) 10]
def meanA (l : List Pd) : Int × Int × Int := if meanE l = 0 then lowR (sumLs l) l.length else (0, 0, meanE l)
theorem mf_MeanOf : MT.mf 78 = some ⟨37, [(.cell 2 (some 2)), (.tmp 3)], (.seq (.reg [gO 2 (.new (.agg [(.lit (.int .i64 0)), (.lit (.int .i64 0))])), gO 3 (.mv (cI 0))]) (.seq (.seq (.reg [gO 8 (.mv (.s 0)), gO 9 (.call 168 [.s 8]), gO 10 (.mv (.s 0)), gO 11 (.len (.s 10)), gO 12 (.bin .gtr (.s 11) (cI 0)), gO 13 (.call 105 [.s 12, (cI 10)]), gO 14 (.bsl (.lit (.int .i64 0)) 1 2 [(0, (.s 9)), (1, (.s 13))]), gO 15 (.call 104 [.s 14]), gO 4 (.mv (.s 15))]) (.seq (.reg [gO 16 (.mv (.s 4)), gO 17 (.bin .neq (.s 16) (cI 0))]) (.cond (.s 17) (.seq (.reg [gO 18 (.build [(.lit (.int .i64 0)), (.lit (.int .i64 0))] []), gO 19 (.mv (.s 4)), ⟨none, none, .st 2 (.s 2) (.s 18)⟩, gO 3 (.mv (.s 19))]) .ret) .skip))) (.seq (.reg [gO 5 (.mv (cI 0))]) (.seq (.seq (.reg [gO 20 (.mv (.s 0)), gO 21 (.len (.s 20)), gO 22 (.mv (cI 0))]) (.block 0 (.loop [22, 21, 20, 5, 0, 2] (.seq (.reg [gO 23 (.bin .lss (.s 22) (.s 21))]) (.seq (.cond (.s 23) .skip (.exit 0)) (.seq (.block 1 (.seq (.reg [gO 24 (.ia 2 (.s 20) (.s 22)), gO 25 (.ld (some 2) (.s 24)), gO 7 (.new (.agg [(.lit (.int .i64 0)), (.lit (.bool false))])), ⟨none, none, .st 2 (.s 7) (.s 25)⟩]) (.reg [gO 26 (.mv (.s 5)), gO 27 (.ld (some 2) (.s 7)), gO 28 (.call 167 [.s 27]), gO 29 (.bin .add (.s 26) (.s 28)), gO 5 (.mv (.s 29))]))) (.reg [gO 30 (.bin .add (.s 22) (cI 1)), gO 22 (.mv (.s 30))]))))))) (.seq (.reg [gO 31 (.mv (.s 5)), gO 32 (.mv (.s 0)), gO 33 (.len (.s 32)), gO 34 (.call 117 [.s 31, .s 33]), gO 35 (.ext (.s 34) 0), gO 36 (.ext (.s 34) 1), ⟨none, none, .st 2 (.s 2) (.s 35)⟩, gO 3 (.mv (.s 36))]) .ret)))))⟩ := by kernel_rfl
theorem callE_ok {l : List Pd} (h : callE l = 0) : l.length ≤ 60 ∧ ∀ x ∈ l, okP x := by
 unfold callE at h
 split at h
 ·cases h
 ·exact ⟨by omega, firC_ok h⟩
set_option maxHeartbeats 1000000 in
theorem MeanOf_c (k : Nat) (l : List Pd) (h : MHeap) {v : MV} (hx : l.length ≤ 100) (hv : frz 0 [] h 8 v = some (.sl (l.map encPd))) {r : Int × Int × Int} (hr : meanA l = r) : orA (k + 7) 78 [v] h = some (.tup [encPt (r.1, r.2.1), I64 r.2.2], h) := by
 subst hr
 refine callTP (p := ((meanA l).1, (meanA l).2.1)) (args' := [.sl (l.map encPd)]) (by simp [List.mapM_cons, hv]) rfl (runZ_of mf_MeanOf (by simp) ?_)
 simp only [argsL]
 have hs : (MV.sl (l.map encPd)).slen = some l.length := by simp [MV.slen]
 have h1 := fun h => callsErr_c k l h (v := .sl (l.map encPd)) hx (frz_sl (ltL_Pd 0 l)) rfl
 have HA := Lib.hid (show meanA l = if meanE l = 0 then lowR (sumLs l) l.length else (0, 0, meanE l) from rfl)
 have HE := Lib.hid (show meanE l = firstE [callE l, unl (decide (0 < l.length)) 10] from rfl)
 by_cases h0 : meanE l = 0
 ·have h0' := h0
  rw [HE.out] at h0'
  obtain ⟨a1, a2⟩ := firstE_nil h0'
  obtain ⟨a2, _⟩ := firstE_nil a2
  rw [unl_zero (by decide), decide_eq_true_eq] at a2
  obtain ⟨b1, b2⟩ := callE_ok a1
  have hu := fun h => unless_c (k + 5) true 10 h rfl
  rw [a1] at h1
  have hsb := sumLs_bd l b2
  have hlo := fun h => lowest_c (k + 2) (sumLs l) l.length h (by omega) (by omega) (by omega) (by omega)
  have HA2 := Lib.hid (show meanA l = lowR (sumLs l) l.length by rw [HA.out, if_pos h0])
  rw [HA2.out]
  repeat (first | first | apply ef_seq | (apply ef_mv; exact rfl; exact rfl) | (apply ef_bin; (iterate 3 exact rfl); (first | exact cmp_t rfl (by first | exact rfl | (simp only [cmpP]; omega)) | exact cmp_f rfl (by simp only [cmpP]; omega) | ((with_reducible refine bin_add (wrap_of ?_ ?_)) <;> omega) | with_reducible exact bin_add (by assumption) | exact rfl)) | (apply ef_len; exact rfl; exact rfl; (first | assumption | exact rfl)) | (apply ef_ldr; exact rfl; exact rfl; (first | exact rd_2 rfl rfl | exact rfl)) | (apply ef_ldp; exact rfl; exact rfl; (first | exact rfl | assumption); exact rfl; (first | exact rfl | assumption); (first | exact rd_2 rfl rfl | exact rfl)) | (apply ef_ias; (iterate 3 exact rfl); (first | omega | assumption); assumption; exact rfl) | (apply ef_iaa; (iterate 3 exact rfl); (first | omega | assumption); (first | omega | assumption); (first | exact rfl | assumption | exact ok_of rfl rfl rfl)) | (apply ef_ext; (iterate 3 exact rfl)) | (apply ef_newst; (iterate 3 exact rfl); (first | exact rfl | assumption); exact rfl) | (apply ef_new; exact rfl) | (apply ef_build; exact rfl; (repeat (apply XVs.cons; exact rfl)); exact XVs.nil; exact rfl; exact rfl) | (apply ef_bsl; exact rfl; (repeat (apply XVs.cons; exact rfl)); exact XVs.nil; exact rfl) | (apply ef_st; (iterate 6 exact rfl); (first | exact rfl | assumption); exact rfl) | apply ef_nil | apply seqQ.normal | apply loopQ.ret | apply loopQ.exit | apply ef_ret | apply seqQ.ret | apply ef_exit | apply seqQ.exit | apply blockQ.normal | apply blockQ.ret | apply blockQ.here | (apply blockQ_there; exact rfl) | apply ef_block | apply ef_skip | (apply ef_condt; exact rfl; (first | exact (rfl : true = true) | assumption | exact decide_eq_true (by omega))) | (apply ef_condf; exact rfl; (first | exact (rfl : false = false) | assumption | exact decide_eq_false (by omega))) | (apply ef_call; exact rfl; ((repeat (apply XVs.cons; exact rfl)); exact XVs.nil); (with_reducible first | exact h1 _ | exact hu _)) | (apply ef_call; exact rfl; ((repeat (apply XVs.cons; exact rfl)); exact XVs.nil); (with_reducible apply first2_c); (iterate 3 exact rfl); (first | assumption | exact rfl)))
  refine ef_loopf (α := Nat × Int) (fun p => p.1 ≤ l.length ∧ p.2 = sumLs (l.take p.1) ∧ 0 ≤ p.2 ∧ p.2 ≤ 10000 * p.1) (fun p => [(22, I64 (p.1 : Int)), (5, I64 p.2)]) [(21, I64 (l.length : Int)), (20, .sl (l.map encPd)), (0, .sl (l.map encPd)), (2, .ptr 0 0 0 0)] (fun _ => [⟨0, false, 2, [.agg [I64 0, I64 0]]⟩, _]) (fun p => l.length - p.1) (0, 0) [22, 5] (fun _ => rfl) (by ((repeat (refine Hold.cons (by exact rfl) ?_)); exact Hold.nil)) (by ((repeat (refine Hold.cons (by exact rfl) ?_)); exact Hold.nil)) rfl rfl ⟨by omega, by simp [sumLs], by simp, by simp⟩ (by simp; omega) ?_
  rintro ⟨i, s⟩ ⟨hi, hz, hs1, hs2⟩
  try simp only at hi hz hs1 hs2 ⊢
  by_cases hlt : i < l.length
  ·have e1 := at_map encPd l i hlt
   have HN := Lib.hid (sumLs_next l hlt)
   have HZ := Lib.hid hz
   have hc := b2 l[i] (List.getElem_mem hlt)
   clear hz
   generalize l[i] = c at e1 HN hc
   obtain ⟨g1, g2⟩ := loss_bd hc
   have hl := fun h => loss_c (k + 5) c.p c.w h hc rfl
   generalize hq : lossP c = q at *
   have hq' : lossP ⟨c.p, c.w⟩ = q := hq
   try rw [hq'] at hl
   clear hq hq'
   repeat (first | first | apply ef_seq | (apply ef_mv; exact rfl; exact rfl) | (apply ef_bin; (iterate 3 exact rfl); (first | exact cmp_t rfl (by first | exact rfl | (simp only [cmpP]; omega)) | exact cmp_f rfl (by simp only [cmpP]; omega) | ((with_reducible refine bin_add (wrap_of ?_ ?_)) <;> omega) | with_reducible exact bin_add (by assumption) | exact rfl)) | (apply ef_len; exact rfl; exact rfl; (first | assumption | exact rfl)) | (apply ef_ldr; exact rfl; exact rfl; (first | exact rd_2 rfl rfl | exact rfl)) | (apply ef_ldp; exact rfl; exact rfl; (first | exact rfl | assumption); exact rfl; (first | exact rfl | assumption); (first | exact rd_2 rfl rfl | exact rfl)) | (apply ef_ias; (iterate 3 exact rfl); (first | omega | assumption); assumption; exact rfl) | (apply ef_iaa; (iterate 3 exact rfl); (first | omega | assumption); (first | omega | assumption); (first | exact rfl | assumption | exact ok_of rfl rfl rfl)) | (apply ef_ext; (iterate 3 exact rfl)) | (apply ef_newst; (iterate 3 exact rfl); (first | exact rfl | assumption); exact rfl) | (apply ef_new; exact rfl) | (apply ef_build; exact rfl; (repeat (apply XVs.cons; exact rfl)); exact XVs.nil; exact rfl; exact rfl) | (apply ef_bsl; exact rfl; (repeat (apply XVs.cons; exact rfl)); exact XVs.nil; exact rfl) | (apply ef_st; (iterate 6 exact rfl); (first | exact rfl | assumption); exact rfl) | apply ef_nil | apply seqQ.normal | apply loopQ.ret | apply loopQ.exit | apply ef_ret | apply seqQ.ret | apply ef_exit | apply seqQ.exit | apply blockQ.normal | apply blockQ.ret | apply blockQ.here | (apply blockQ_there; exact rfl) | apply ef_block | apply ef_skip | (apply ef_condt; exact rfl; (first | exact (rfl : true = true) | assumption | exact decide_eq_true (by omega))) | (apply ef_condf; exact rfl; (first | exact (rfl : false = false) | assumption | exact decide_eq_false (by omega))) | (apply ef_call; exact rfl; ((repeat (apply XVs.cons; exact rfl)); exact XVs.nil); (with_reducible first | exact hl _)))
   (refine loopQ.normal _ _ ⟨(i + 1, s + q), ⟨hlt, by rw [HN.out, ← HZ.out], by simp only; omega, by simp only; omega⟩, (by show l.length - (i + 1) < l.length - i; omega), ⟨by ((repeat (refine Hold.cons (by exact rfl) ?_)); exact Hold.nil), by ((repeat (refine Hold.cons (by exact rfl) ?_)); exact Hold.nil)⟩, .inr ⟨by ((repeat (refine hdl_cons rfl (by first | rfl | (simp [MV.lt, ltL, ltL_Pd])) ?_)); exact hdl_nil), by first | rfl | (simp [hltL, ltL, MV.lt, ltL, ltL_Pd])⟩, by first | exact rfl | (simp only [List.map_append, List.map_set]; exact rfl)⟩)
  ·rw [List.take_of_length_le (by omega)] at hz
   subst hz
   repeat (first | first | apply ef_seq | (apply ef_mv; exact rfl; exact rfl) | (apply ef_bin; (iterate 3 exact rfl); (first | exact cmp_t rfl (by first | exact rfl | (simp only [cmpP]; omega)) | exact cmp_f rfl (by simp only [cmpP]; omega) | ((with_reducible refine bin_add (wrap_of ?_ ?_)) <;> omega) | with_reducible exact bin_add (by assumption) | exact rfl)) | (apply ef_len; exact rfl; exact rfl; (first | assumption | exact rfl)) | (apply ef_ldr; exact rfl; exact rfl; (first | exact rd_2 rfl rfl | exact rfl)) | (apply ef_ldp; exact rfl; exact rfl; (first | exact rfl | assumption); exact rfl; (first | exact rfl | assumption); (first | exact rd_2 rfl rfl | exact rfl)) | (apply ef_ias; (iterate 3 exact rfl); (first | omega | assumption); assumption; exact rfl) | (apply ef_iaa; (iterate 3 exact rfl); (first | omega | assumption); (first | omega | assumption); (first | exact rfl | assumption | exact ok_of rfl rfl rfl)) | (apply ef_ext; (iterate 3 exact rfl)) | (apply ef_newst; (iterate 3 exact rfl); (first | exact rfl | assumption); exact rfl) | (apply ef_new; exact rfl) | (apply ef_build; exact rfl; (repeat (apply XVs.cons; exact rfl)); exact XVs.nil; exact rfl; exact rfl) | (apply ef_bsl; exact rfl; (repeat (apply XVs.cons; exact rfl)); exact XVs.nil; exact rfl) | (apply ef_st; (iterate 6 exact rfl); (first | exact rfl | assumption); exact rfl) | apply ef_nil | apply seqQ.normal | apply loopQ.ret | apply loopQ.exit | apply ef_ret | apply seqQ.ret | apply ef_exit | apply seqQ.exit | apply blockQ.normal | apply blockQ.ret | apply blockQ.here | (apply blockQ_there; exact rfl) | apply ef_block | apply ef_skip | (apply ef_condt; exact rfl; (first | exact (rfl : true = true) | assumption | exact decide_eq_true (by omega))) | (apply ef_condf; exact rfl; (first | exact (rfl : false = false) | assumption | exact decide_eq_false (by omega))) | (apply ef_call; exact rfl; ((repeat (apply XVs.cons; exact rfl)); exact XVs.nil); (with_reducible first | exact hlo _)))
   refine finR2 (v := encPt ((lowR (sumLs l) l.length).1, (lowR (sumLs l) l.length).2.1)) (w := I64 (lowR (sumLs l) l.length).2.2) rfl ?_ (by exact rfl) rfl rfl rfl
   apply resC <;> exact rfl
 ·have HA2 := Lib.hid (show meanA l = (0, 0, meanE l) by rw [HA.out, if_neg h0])
  rw [HA2.out]
  by_cases hpos : 0 < l.length
  ·have hu := fun h => unless_c (k + 5) true 10 h rfl
   rw [decide_eq_true hpos] at HE
   rw [HE.out] at h0 ⊢
   repeat (first | first | apply ef_seq | (apply ef_mv; exact rfl; exact rfl) | (apply ef_bin; (iterate 3 exact rfl); (first | exact cmp_t rfl (by first | exact rfl | (simp only [cmpP]; omega)) | exact cmp_f rfl (by simp only [cmpP]; omega) | ((with_reducible refine bin_add (wrap_of ?_ ?_)) <;> omega) | with_reducible exact bin_add (by assumption) | exact rfl)) | (apply ef_len; exact rfl; exact rfl; (first | assumption | exact rfl)) | (apply ef_ldr; exact rfl; exact rfl; (first | exact rd_2 rfl rfl | exact rfl)) | (apply ef_ldp; exact rfl; exact rfl; (first | exact rfl | assumption); exact rfl; (first | exact rfl | assumption); (first | exact rd_2 rfl rfl | exact rfl)) | (apply ef_ias; (iterate 3 exact rfl); (first | omega | assumption); assumption; exact rfl) | (apply ef_iaa; (iterate 3 exact rfl); (first | omega | assumption); (first | omega | assumption); (first | exact rfl | assumption | exact ok_of rfl rfl rfl)) | (apply ef_ext; (iterate 3 exact rfl)) | (apply ef_newst; (iterate 3 exact rfl); (first | exact rfl | assumption); exact rfl) | (apply ef_new; exact rfl) | (apply ef_build; exact rfl; (repeat (apply XVs.cons; exact rfl)); exact XVs.nil; exact rfl; exact rfl) | (apply ef_bsl; exact rfl; (repeat (apply XVs.cons; exact rfl)); exact XVs.nil; exact rfl) | (apply ef_st; (iterate 6 exact rfl); (first | exact rfl | assumption); exact rfl) | apply ef_nil | apply seqQ.normal | apply loopQ.ret | apply loopQ.exit | apply ef_ret | apply seqQ.ret | apply ef_exit | apply seqQ.exit | apply blockQ.normal | apply blockQ.ret | apply blockQ.here | (apply blockQ_there; exact rfl) | apply ef_block | apply ef_skip | (apply ef_condt; exact rfl; (first | exact (rfl : true = true) | assumption | exact decide_eq_true (by omega))) | (apply ef_condf; exact rfl; (first | exact (rfl : false = false) | assumption | exact decide_eq_false (by omega))) | (apply ef_call; exact rfl; ((repeat (apply XVs.cons; exact rfl)); exact XVs.nil); (with_reducible first | exact h1 _ | exact hu _)) | (apply ef_call; exact rfl; ((repeat (apply XVs.cons; exact rfl)); exact XVs.nil); (with_reducible apply first2_c); (iterate 3 exact rfl); (first | assumption | exact rfl)))
   refine finR2 (v := encPt (0, 0)) (w := I64 (firstE [callE l, unl true 10])) rfl ?_ (by exact rfl) rfl rfl rfl
   apply resC <;> exact rfl
  ·have hu := fun h => unless_c (k + 5) false 10 h rfl
   rw [decide_eq_false hpos] at HE
   rw [HE.out] at h0 ⊢
   repeat (first | first | apply ef_seq | (apply ef_mv; exact rfl; exact rfl) | (apply ef_bin; (iterate 3 exact rfl); (first | exact cmp_t rfl (by first | exact rfl | (simp only [cmpP]; omega)) | exact cmp_f rfl (by simp only [cmpP]; omega) | ((with_reducible refine bin_add (wrap_of ?_ ?_)) <;> omega) | with_reducible exact bin_add (by assumption) | exact rfl)) | (apply ef_len; exact rfl; exact rfl; (first | assumption | exact rfl)) | (apply ef_ldr; exact rfl; exact rfl; (first | exact rd_2 rfl rfl | exact rfl)) | (apply ef_ldp; exact rfl; exact rfl; (first | exact rfl | assumption); exact rfl; (first | exact rfl | assumption); (first | exact rd_2 rfl rfl | exact rfl)) | (apply ef_ias; (iterate 3 exact rfl); (first | omega | assumption); assumption; exact rfl) | (apply ef_iaa; (iterate 3 exact rfl); (first | omega | assumption); (first | omega | assumption); (first | exact rfl | assumption | exact ok_of rfl rfl rfl)) | (apply ef_ext; (iterate 3 exact rfl)) | (apply ef_newst; (iterate 3 exact rfl); (first | exact rfl | assumption); exact rfl) | (apply ef_new; exact rfl) | (apply ef_build; exact rfl; (repeat (apply XVs.cons; exact rfl)); exact XVs.nil; exact rfl; exact rfl) | (apply ef_bsl; exact rfl; (repeat (apply XVs.cons; exact rfl)); exact XVs.nil; exact rfl) | (apply ef_st; (iterate 6 exact rfl); (first | exact rfl | assumption); exact rfl) | apply ef_nil | apply seqQ.normal | apply loopQ.ret | apply loopQ.exit | apply ef_ret | apply seqQ.ret | apply ef_exit | apply seqQ.exit | apply blockQ.normal | apply blockQ.ret | apply blockQ.here | (apply blockQ_there; exact rfl) | apply ef_block | apply ef_skip | (apply ef_condt; exact rfl; (first | exact (rfl : true = true) | assumption | exact decide_eq_true (by omega))) | (apply ef_condf; exact rfl; (first | exact (rfl : false = false) | assumption | exact decide_eq_false (by omega))) | (apply ef_call; exact rfl; ((repeat (apply XVs.cons; exact rfl)); exact XVs.nil); (with_reducible first | exact h1 _ | exact hu _)) | (apply ef_call; exact rfl; ((repeat (apply XVs.cons; exact rfl)); exact XVs.nil); (with_reducible apply first2_c); (iterate 3 exact rfl); (first | assumption | exact rfl)))
   refine finR2 (v := encPt (0, 0)) (w := I64 (firstE [callE l, unl false 10])) rfl ?_ (by exact rfl) rfl rfl rfl
   apply resC <;> exact rfl
end Go.Proofs.YtnmgpbihknjdjaaGreatDoor

/- Contracts: bins. -/
namespace Go.Proofs.YtnmgpbihknjdjaaGreatDoor
open Go.RowKit
set_option linter.unusedVariables false
set_option linter.unusedSimpArgs false
abbrev b0 : Bn := ⟨0, 0, 0⟩
def flatB : List Bn → List MV
 | [] => []
 | x :: b => I64 x.n :: I64 x.c :: I64 x.s :: flatB b
abbrev encBn (x : Bn) : MV := .agg [I64 x.n, I64 x.c, I64 x.s]
theorem ltL_Bn (n : Nat) (zs : List Bn) : ltL n (zs.map encBn) = true := ltL_lits (fun _ => rfl) zs
theorem pureL_Bn (l : List Bn) : pureL (l.map encBn) = true := pureL_lits (fun _ => rfl) l
theorem flatB_len : ∀ b : List Bn, (flatB b).length = 3 * b.length
 | [] => rfl
 | x :: b => by simp only [flatB, List.length_cons, flatB_len b]; omega
theorem ltL_flatB (n : Nat) : ∀ b : List Bn, ltL n (flatB b) = true
 | [] => rfl
 | x :: b => by simp [flatB, ltL, MV.lt, ltL_flatB n b]
theorem flatB_get : ∀ (b : List Bn) (k : Nat), k < b.length → (flatB b)[k * 3]? = some (I64 (b.getD k b0).n) ∧ (flatB b)[k * 3 + 1]? = some (I64 (b.getD k b0).c) ∧ (flatB b)[k * 3 + 2]? = some (I64 (b.getD k b0).s)
 | [], k, h => absurd h (Nat.not_lt_zero _)
 | x :: b, 0, h => ⟨rfl, rfl, rfl⟩
 | x :: b, k + 1, h => by
  obtain ⟨h1, h2, h3⟩ := flatB_get b k (by simpa using h)
  rw [show (k + 1) * 3 = k * 3 + 3 by omega]
  exact ⟨h1, h2, h3⟩
theorem splice3 (a b c : MV) (l : List MV) (m : Nat) (vs : List MV) : splice (a :: b :: c :: l) (m + 3) vs = a :: b :: c :: splice l m vs := by
 unfold splice
 rw [show m + 3 + vs.length = (m + vs.length) + 3 by omega]; rfl
theorem flatB_set : ∀ (b : List Bn) (k : Nat) (v : Int), k < b.length → splice (flatB b) (k * 3) [I64 v] = flatB (b.set k ⟨v, (b.getD k b0).c, (b.getD k b0).s⟩) ∧ splice (flatB b) (k * 3 + 1) [I64 v] = flatB (b.set k ⟨(b.getD k b0).n, v, (b.getD k b0).s⟩) ∧ splice (flatB b) (k * 3 + 2) [I64 v] = flatB (b.set k ⟨(b.getD k b0).n, (b.getD k b0).c, v⟩)
 | [], k, v, h => absurd h (Nat.not_lt_zero _)
 | x :: b, 0, v, h => ⟨rfl, rfl, rfl⟩
 | x :: b, k + 1, v, h => by
  obtain ⟨h1, h2, h3⟩ := flatB_set b k v (by simpa using h)
  rw [show (k + 1) * 3 = k * 3 + 3 by omega, show k * 3 + 3 + 1 = k * 3 + 1 + 3 by omega, show k * 3 + 3 + 2 = k * 3 + 2 + 3 by omega]
  simp only [flatB, splice3, h1, h2, h3, List.set_cons_succ, List.getD_cons_succ, and_self]
theorem wr_flat {b : List Bn} {k : Nat} (hk : k < b.length) {off : Nat} (ho : off < 3) {v : Int} {cs : List MV} (h : splice (flatB b) (k * 3 + off) [I64 v] = cs) : wrElem (.agg (flatB b)) (0 + k * 3 + off) (I64 v) = some (.agg cs) := by
 unfold wrElem
 have hl := flatB_len b
 rw [if_pos (by show 0 + k * 3 + off + 1 ≤ (flatB b).length; omega), Nat.zero_add]
 show some (MV.agg (splice (flatB b) (k * 3 + off) [I64 v])) = _
 rw [h]
theorem chunk_flatB : ∀ b : List Bn, chunkM 3 b.length (flatB b) = b.map encBn
 | [] => rfl
 | x :: b => by
  show MV.agg [I64 x.n, I64 x.c, I64 x.s] :: chunkM 3 b.length (flatB b) = _
  rw [chunk_flatB b]; rfl
theorem binMn {x : Pd} (h : okP x) : mn (x.p / 10) 9 = (binK x : Int) := by
 obtain ⟨h1, h2⟩ := h
 unfold mn binK
 split <;> omega
theorem getD_setB (b : List Bn) {k : Nat} (h : k < b.length) (v : Bn) : (b.set k v).getD k b0 = v := by
 rw [getD_set b k k v h, if_pos rfl]
theorem bins_sz {l : List Pd} {b : List Bn} (h : BinsS l b) (hl : l.length ≤ 100) {k : Nat} (hk : k < 10) : (0 ≤ (b.getD k b0).n ∧ (b.getD k b0).n ≤ 100) ∧ (0 ≤ (b.getD k b0).c ∧ (b.getD k b0).c ≤ 100) ∧ 0 ≤ (b.getD k b0).s ∧ (b.getD k b0).s ≤ 10000 := by
 obtain ⟨a1, a2, a3, a4, a5⟩ := h.each k hk
 generalize b.getD k ⟨0, 0, 0⟩ = y at *
 have e1 : 10 * (k : Int) * y.n ≤ 90 * y.n := Int.mul_le_mul_of_nonneg_right (by omega) (by omega)
 have e2 : 0 ≤ 10 * (k : Int) * y.n := Int.mul_nonneg (by omega) (by omega)
 omega
theorem mf_BinsOf : MT.mf 80 = some ⟨53, [(.tmp 2), (.tmp 3)], (.seq (.reg [gO 2 (.nil0 3), gO 3 (.mv (cI 0))]) (.seq (.seq (.reg [gO 9 (.mv (.s 0)), gO 10 (.call 168 [.s 9]), gO 4 (.mv (.s 10))]) (.seq (.reg [gO 11 (.mv (.s 4)), gO 12 (.bin .neq (.s 11) (cI 0))]) (.cond (.s 12) (.seq (.reg [gO 13 (.mv (.s 4)), gO 2 (.nil0 3), gO 3 (.mv (.s 13))]) .ret) .skip))) (.seq (.reg [gO 5 (.new (.agg [(.lit (.int .i64 0)), (.lit (.int .i64 0)), (.lit (.int .i64 0)), (.lit (.int .i64 0)), (.lit (.int .i64 0)), (.lit (.int .i64 0)), (.lit (.int .i64 0)), (.lit (.int .i64 0)), (.lit (.int .i64 0)), (.lit (.int .i64 0)), (.lit (.int .i64 0)), (.lit (.int .i64 0)), (.lit (.int .i64 0)), (.lit (.int .i64 0)), (.lit (.int .i64 0)), (.lit (.int .i64 0)), (.lit (.int .i64 0)), (.lit (.int .i64 0)), (.lit (.int .i64 0)), (.lit (.int .i64 0)), (.lit (.int .i64 0)), (.lit (.int .i64 0)), (.lit (.int .i64 0)), (.lit (.int .i64 0)), (.lit (.int .i64 0)), (.lit (.int .i64 0)), (.lit (.int .i64 0)), (.lit (.int .i64 0)), (.lit (.int .i64 0)), (.lit (.int .i64 0))]))]) (.seq (.seq (.reg [gO 14 (.mv (.s 0)), gO 15 (.len (.s 14)), gO 16 (.mv (cI 0))]) (.block 0 (.loop [16, 15, 14, 5] (.seq (.reg [gO 17 (.bin .lss (.s 16) (.s 15))]) (.seq (.cond (.s 17) .skip (.exit 0)) (.seq (.block 1 (.seq (.reg [gO 18 (.ia 2 (.s 14) (.s 16)), gO 19 (.ld (some 2) (.s 18)), gO 7 (.new (.agg [(.lit (.int .i64 0)), (.lit (.bool false))])), ⟨none, none, .st 2 (.s 7) (.s 19)⟩]) (.seq (.reg [gO 20 (.fa 0 (.s 7)), gO 21 (.ld none (.s 20)), gO 22 (.bin .mul (.s 21) (cI 10)), gO 23 (.bin .quo (.s 22) (cI 100)), gO 24 (.mn (.s 23) (cI 9)), gO 25 (.iaa 3 10 (.s 5) (.s 24)), gO 8 (.mv (.s 25))]) (.seq (.reg [gO 26 (.mv (.s 8)), gO 27 (.nilck (.s 26)), gO 28 (.fa 0 (.s 27)), gO 29 (.ld none (.s 28)), gO 30 (.bin .add (.s 29) (cI 1)), gO 31 (.nilck (.s 26)), gO 32 (.fa 0 (.s 31)), ⟨none, none, .st 1 (.s 32) (.s 30)⟩]) (.seq (.reg [gO 33 (.mv (.s 8)), gO 34 (.nilck (.s 33)), gO 35 (.fa 2 (.s 34)), gO 36 (.ld none (.s 35)), gO 37 (.fa 0 (.s 7)), gO 38 (.ld none (.s 37)), gO 39 (.bin .add (.s 36) (.s 38)), gO 40 (.nilck (.s 33)), gO 41 (.fa 2 (.s 40)), ⟨none, none, .st 1 (.s 41) (.s 39)⟩]) (.seq (.reg [gO 42 (.fa 1 (.s 7)), gO 43 (.ld none (.s 42))]) (.cond (.s 43) (.reg [gO 44 (.mv (.s 8)), gO 45 (.nilck (.s 44)), gO 46 (.fa 1 (.s 45)), gO 47 (.ld none (.s 46)), gO 48 (.bin .add (.s 47) (cI 1)), gO 49 (.nilck (.s 44)), gO 50 (.fa 1 (.s 49)), ⟨none, none, .st 1 (.s 50) (.s 48)⟩]) .skip))))))) (.reg [gO 51 (.bin .add (.s 16) (cI 1)), gO 16 (.mv (.s 51))]))))))) (.seq (.reg [gO 52 (.sla 3 10 (.s 5)), gO 2 (.mv (.s 52)), gO 3 (.mv (cI 0))]) .ret)))))⟩ := by kernel_rfl
set_option maxHeartbeats 2000000 in
theorem BinsOf_z (k : Nat) (l : List Pd) (hx : l.length ≤ 100) (he : callE l = 0) : runZ MT (orA (k + 6)) (itA (k + 6)) 4000000 80 [.sl (l.map encPd)] [] = some (.tup [.arr 0 0 10 0, I64 0], [⟨0, false, 3, (binsL l).map encBn⟩]) := by
 have hs : (MV.sl (l.map encPd)).slen = some l.length := by simp [MV.slen]
 refine runZ_of mf_BinsOf (by simp) ?_
 simp only [argsL]
 have h1 := fun h => callsErr_c k l h (v := .sl (l.map encPd)) hx (frz_sl (ltL_Pd 0 l)) he
 obtain ⟨b1, b2⟩ := callE_ok he
 repeat (first | first | apply ef_seq | (apply ef_mv; exact rfl; exact rfl) | (apply ef_bin; (iterate 3 exact rfl); (first | assumption | exact cmp_t rfl (by first | exact rfl | (simp only [cmpP]; omega)) | exact cmp_f rfl (by simp only [cmpP]; omega) | ((with_reducible refine bin_add (wrap_of ?_ ?_)) <;> omega) | ((with_reducible refine bin_mul (wrap_of ?_ ?_)) <;> omega) | with_reducible exact bin_add (by assumption) | with_reducible exact bin_mul (by assumption) | exact rfl)) | (apply ef_len; exact rfl; exact rfl; (first | assumption | exact rfl)) | (apply ef_ldr; exact rfl; exact rfl; (first | assumption | exact rd_2 rfl rfl | exact rfl)) | (apply ef_ldp; exact rfl; exact rfl; (first | exact rfl | assumption); exact rfl; (first | exact rfl | assumption); (first | assumption | exact rd_2 rfl rfl | exact rfl)) | (apply ef_ias; (iterate 3 exact rfl); (first | omega | assumption); assumption; exact rfl) | (apply ef_iaa; (iterate 3 exact rfl); (first | omega | assumption); (first | omega | assumption); (first | exact rfl | assumption | exact ok_of rfl rfl rfl)) | (apply ef_iaap; (iterate 3 exact rfl); (first | omega | assumption); (first | omega | assumption)) | (apply ef_iaar; (iterate 3 exact rfl); (first | omega | assumption); (first | omega | assumption)) | (apply ef_fap; exact rfl; exact rfl) | (apply ef_far; exact rfl; exact rfl) | (apply ef_mn; (iterate 3 exact rfl)) | (apply ef_newst; (iterate 3 exact rfl); (first | exact rfl | assumption); exact rfl) | (apply ef_new; exact rfl) | (apply ef_nil0; exact rfl) | (apply ef_nilck; (iterate 3 exact rfl)) | (apply ef_st; (iterate 6 exact rfl); (first | exact rfl | assumption); (first | assumption | exact rfl)) | apply ef_nil | apply seqQ.normal | apply loopQ.ret | apply loopQ.exit | apply ef_ret | apply seqQ.ret | apply ef_exit | apply seqQ.exit | apply blockQ.normal | apply blockQ.ret | apply blockQ.here | (apply blockQ_there; exact rfl) | apply ef_block | apply ef_skip | (apply ef_condt; exact rfl; (first | exact (rfl : true = true) | assumption | exact decide_eq_true (by omega))) | (apply ef_condf; exact rfl; (first | exact (rfl : false = false) | assumption | exact decide_eq_false (by omega))) | (apply ef_call; exact rfl; ((repeat (apply XVs.cons; exact rfl)); exact XVs.nil); (with_reducible first | exact h1 _)))
 refine ef_loopf (α := Nat × List Bn) (fun p => p.1 ≤ l.length ∧ p.2 = binsL (l.take p.1)) (fun p => [(16, I64 (p.1 : Int))]) [(15, I64 (l.length : Int)), (14, .sl (l.map encPd)), (5, .ptr 1 0 0 0)] (fun p => [⟨0, true, 3, []⟩, ⟨0, false, 30, [.agg (flatB p.2)]⟩]) (fun p => l.length - p.1) (0, List.replicate 10 ⟨0, 0, 0⟩) [16] (fun _ => rfl) (by ((repeat (refine Hold.cons (by exact rfl) ?_)); exact Hold.nil)) (by ((repeat (refine Hold.cons (by exact rfl) ?_)); exact Hold.nil)) rfl rfl ⟨by omega, rfl⟩ (by simp; omega) ?_
 rintro ⟨i, b⟩ ⟨hi, hz⟩
 try simp only at hi hz ⊢
 have hS := binsS_ok (l.take i) (fun x hx => b2 x (List.mem_of_mem_take hx))
 rw [← hz] at hS
 have hlb := hS.len
 by_cases hlt : i < l.length
 ·have e1 := at_map encPd l i hlt
  have HN := Lib.hid (binsL_next l hlt)
  have HZ := Lib.hid hz
  have hc := b2 l[i] (List.getElem_mem hlt)
  clear hz
  generalize l[i] = c at e1 HN hc
  have hK := binMn hc
  obtain ⟨k1, k2, k3⟩ := binK_lt hc
  have hst : ∀ b', stepBn b c = b' → b' = binsL (l.take (i + 1)) := fun b' h => by rw [HN.out, ← HZ.out, h]
  replace hst := Lib.hid hst
  have hsz := bins_sz hS (by rw [List.length_take]; omega) k1
  obtain ⟨c1, c2⟩ := hc
  have HD : stepBn b c = b.set (binK c) (putB c (b.getD (binK c) b0)) := rfl
  replace HD := Lib.hid HD
  generalize binK c = K at *
  obtain ⟨⟨n1, n2⟩, ⟨m1, m2⟩, s1, s2⟩ := hsz
  have R0 := (flatB_get b K (by omega)).1
  have W0 := (flatB_set b K ((b.getD K b0).n + 1) (by omega)).1
  obtain ⟨y, hy⟩ : ∃ y, y = b.getD K b0 := ⟨_, rfl⟩
  rw [← hy] at R0 W0 n1 n2 m1 m2 s1 s2 HD
  obtain ⟨bb1, hb1⟩ : ∃ q, q = b.set K ⟨y.n + 1, y.c, y.s⟩ := ⟨_, rfl⟩
  have l1 : bb1.length = 10 := by rw [hb1, List.length_set, hlb]
  have y1 : bb1.getD K b0 = ⟨y.n + 1, y.c, y.s⟩ := by rw [hb1]; exact getD_setB b (by omega) _
  rw [← hb1] at W0
  have R2 := (flatB_get bb1 K (by omega)).2.2
  have W2 := (flatB_set bb1 K (y.s + c.p) (by omega)).2.2
  rw [y1] at R2 W2
  obtain ⟨bb2, hb2⟩ : ∃ q, q = bb1.set K ⟨y.n + 1, y.c, y.s + c.p⟩ := ⟨_, rfl⟩
  have l2 : bb2.length = 10 := by rw [hb2, List.length_set, l1]
  have y2 : bb2.getD K b0 = ⟨y.n + 1, y.c, y.s + c.p⟩ := by rw [hb2]; exact getD_setB bb1 (by omega) _
  have e2 : bb2 = b.set K ⟨y.n + 1, y.c, y.s + c.p⟩ := by rw [hb2, hb1, List.set_set]
  rw [show (⟨(⟨y.n + 1, y.c, y.s⟩ : Bn).n, (⟨y.n + 1, y.c, y.s⟩ : Bn).c, y.s + c.p⟩ : Bn) = ⟨y.n + 1, y.c, y.s + c.p⟩ from rfl, ← hb2] at W2
  have R1 := (flatB_get bb2 K (by omega)).2.1
  have W1 := (flatB_set bb2 K (y.c + 1) (by omega)).2.1
  rw [y2] at R1 W1
  have W0' := wr_flat (b := b) (k := K) (off := 0) (by omega) (by decide) W0
  have W2' := wr_flat (b := bb1) (k := K) (off := 2) (by omega) (by decide) W2
  have W1' := wr_flat (b := bb2) (k := K) (off := 1) (by omega) (by decide) W1
  have R0' : rdCells (MV.agg (flatB b)).cells (0 + K * 3 + 0) none = some (I64 y.n) := by rw [Nat.zero_add]; exact R0
  have R2' : rdCells (MV.agg (flatB bb1)).cells (0 + K * 3 + 2) none = some (I64 y.s) := by rw [Nat.zero_add]; exact R2
  have R1' : rdCells (MV.agg (flatB bb2)).cells (0 + K * 3 + 1) none = some (I64 y.c) := by rw [Nat.zero_add]; exact R1
  clear R0 R1 R2 W0 W1 W2 y1 y2 hb1 hb2 hy
  have hq : binI .quo .i64 (c.p * 10) 100 = some (.int .i64 (c.p / 10)) := by
   rw [quo_eq (by decide) (by omega) (by omega)]
   rw [Int.tdiv_eq_ediv_of_nonneg (by omega)]
   congr 2; omega
  cases hw : c.w
  ·have hfin := Lib.hid (hst.out bb2 (by rw [HD.out, e2]; unfold putB; rw [hw]; rfl))
   repeat (first | apply ef_seq | (apply ef_mv; exact rfl; exact rfl) | (apply ef_bin; (iterate 3 exact rfl); (first | assumption | exact cmp_t rfl (by first | exact rfl | (simp only [cmpP]; omega)) | exact cmp_f rfl (by simp only [cmpP]; omega) | ((with_reducible refine bin_add (wrap_of ?_ ?_)) <;> omega) | ((with_reducible refine bin_mul (wrap_of ?_ ?_)) <;> omega) | with_reducible exact bin_add (by assumption) | with_reducible exact bin_mul (by assumption) | exact rfl)) | (apply ef_len; exact rfl; exact rfl; (first | assumption | exact rfl)) | (apply ef_ldr; exact rfl; exact rfl; (first | assumption | exact rd_2 rfl rfl | exact rfl)) | (apply ef_ldp; exact rfl; exact rfl; (first | exact rfl | assumption); exact rfl; (first | exact rfl | assumption); (first | assumption | exact rd_2 rfl rfl | exact rfl)) | (apply ef_ias; (iterate 3 exact rfl); (first | omega | assumption); assumption; exact rfl) | (apply ef_iaa; (iterate 3 exact rfl); (first | omega | assumption); (first | omega | assumption); (first | exact rfl | assumption | exact ok_of rfl rfl rfl)) | (apply ef_iaap; (iterate 3 exact rfl); (first | omega | assumption); (first | omega | assumption)) | (apply ef_iaar; (iterate 3 exact rfl); (first | omega | assumption); (first | omega | assumption)) | (apply ef_fap; exact rfl; exact rfl) | (apply ef_far; exact rfl; exact rfl) | (apply ef_mn; (iterate 3 exact rfl)) | (apply ef_newst; (iterate 3 exact rfl); (first | exact rfl | assumption); exact rfl) | (apply ef_new; exact rfl) | (apply ef_nil0; exact rfl) | (apply ef_nilck; (iterate 3 exact rfl)) | (apply ef_st; (iterate 6 exact rfl); (first | exact rfl | assumption); (first | assumption | exact rfl)) | apply ef_nil | apply seqQ.normal | apply loopQ.ret | apply loopQ.exit | apply ef_ret | apply seqQ.ret | apply ef_exit | apply seqQ.exit | apply blockQ.normal | apply blockQ.ret | apply blockQ.here | (apply blockQ_there; exact rfl) | apply ef_block | apply ef_skip | (apply ef_condt; exact rfl; (first | exact (rfl : true = true) | assumption | exact decide_eq_true (by omega))) | (apply ef_condf; exact rfl; (first | exact (rfl : false = false) | assumption | exact decide_eq_false (by omega))))
   rw [hK, Int.toNat_natCast]
   repeat (first | apply ef_seq | (apply ef_mv; exact rfl; exact rfl) | (apply ef_bin; (iterate 3 exact rfl); (first | assumption | exact cmp_t rfl (by first | exact rfl | (simp only [cmpP]; omega)) | exact cmp_f rfl (by simp only [cmpP]; omega) | ((with_reducible refine bin_add (wrap_of ?_ ?_)) <;> omega) | ((with_reducible refine bin_mul (wrap_of ?_ ?_)) <;> omega) | with_reducible exact bin_add (by assumption) | with_reducible exact bin_mul (by assumption) | exact rfl)) | (apply ef_len; exact rfl; exact rfl; (first | assumption | exact rfl)) | (apply ef_ldr; exact rfl; exact rfl; (first | assumption | exact rd_2 rfl rfl | exact rfl)) | (apply ef_ldp; exact rfl; exact rfl; (first | exact rfl | assumption); exact rfl; (first | exact rfl | assumption); (first | assumption | exact rd_2 rfl rfl | exact rfl)) | (apply ef_ias; (iterate 3 exact rfl); (first | omega | assumption); assumption; exact rfl) | (apply ef_iaa; (iterate 3 exact rfl); (first | omega | assumption); (first | omega | assumption); (first | exact rfl | assumption | exact ok_of rfl rfl rfl)) | (apply ef_iaap; (iterate 3 exact rfl); (first | omega | assumption); (first | omega | assumption)) | (apply ef_iaar; (iterate 3 exact rfl); (first | omega | assumption); (first | omega | assumption)) | (apply ef_fap; exact rfl; exact rfl) | (apply ef_far; exact rfl; exact rfl) | (apply ef_mn; (iterate 3 exact rfl)) | (apply ef_newst; (iterate 3 exact rfl); (first | exact rfl | assumption); exact rfl) | (apply ef_new; exact rfl) | (apply ef_nil0; exact rfl) | (apply ef_nilck; (iterate 3 exact rfl)) | (apply ef_st; (iterate 6 exact rfl); (first | exact rfl | assumption); (first | assumption | exact rfl)) | apply ef_nil | apply seqQ.normal | apply loopQ.ret | apply loopQ.exit | apply ef_ret | apply seqQ.ret | apply ef_exit | apply seqQ.exit | apply blockQ.normal | apply blockQ.ret | apply blockQ.here | (apply blockQ_there; exact rfl) | apply ef_block | apply ef_skip | (apply ef_condt; exact rfl; (first | exact (rfl : true = true) | assumption | exact decide_eq_true (by omega))) | (apply ef_condf; exact rfl; (first | exact (rfl : false = false) | assumption | exact decide_eq_false (by omega))))
   (refine loopQ.normal _ _ ⟨(i + 1, bb2), ⟨hlt, hfin.out⟩, (by show l.length - (i + 1) < l.length - i; omega), ⟨by ((repeat (refine Hold.cons (by exact rfl) ?_)); exact Hold.nil), by ((repeat (refine Hold.cons (by exact rfl) ?_)); exact Hold.nil)⟩, .inr ⟨by ((repeat (refine hdl_cons rfl (by first | rfl | (simp [MV.lt, ltL, ltL_Pd, ltL_flatB])) ?_)); exact hdl_nil), by first | rfl | (simp [hltL, ltL, MV.lt, ltL, ltL_Pd, ltL_flatB])⟩, by first | exact rfl | (simp only [List.map_append, List.map_set]; exact rfl)⟩)
  ·obtain ⟨bb3, hb3⟩ : ∃ q, q = bb2.set K ⟨y.n + 1, y.c + 1, y.s + c.p⟩ := ⟨_, rfl⟩
   have hfin := Lib.hid (hst.out bb3 (by rw [HD.out, hb3, e2, List.set_set]; unfold putB; rw [hw]; rfl))
   rw [show (⟨(⟨y.n + 1, y.c, y.s + c.p⟩ : Bn).n, y.c + 1, (⟨y.n + 1, y.c, y.s + c.p⟩ : Bn).s⟩ : Bn) = ⟨y.n + 1, y.c + 1, y.s + c.p⟩ from rfl, ← hb3] at W1'
   clear hb3 e2
   repeat (first | apply ef_seq | (apply ef_mv; exact rfl; exact rfl) | (apply ef_bin; (iterate 3 exact rfl); (first | assumption | exact cmp_t rfl (by first | exact rfl | (simp only [cmpP]; omega)) | exact cmp_f rfl (by simp only [cmpP]; omega) | ((with_reducible refine bin_add (wrap_of ?_ ?_)) <;> omega) | ((with_reducible refine bin_mul (wrap_of ?_ ?_)) <;> omega) | with_reducible exact bin_add (by assumption) | with_reducible exact bin_mul (by assumption) | exact rfl)) | (apply ef_len; exact rfl; exact rfl; (first | assumption | exact rfl)) | (apply ef_ldr; exact rfl; exact rfl; (first | assumption | exact rd_2 rfl rfl | exact rfl)) | (apply ef_ldp; exact rfl; exact rfl; (first | exact rfl | assumption); exact rfl; (first | exact rfl | assumption); (first | assumption | exact rd_2 rfl rfl | exact rfl)) | (apply ef_ias; (iterate 3 exact rfl); (first | omega | assumption); assumption; exact rfl) | (apply ef_iaa; (iterate 3 exact rfl); (first | omega | assumption); (first | omega | assumption); (first | exact rfl | assumption | exact ok_of rfl rfl rfl)) | (apply ef_iaap; (iterate 3 exact rfl); (first | omega | assumption); (first | omega | assumption)) | (apply ef_iaar; (iterate 3 exact rfl); (first | omega | assumption); (first | omega | assumption)) | (apply ef_fap; exact rfl; exact rfl) | (apply ef_far; exact rfl; exact rfl) | (apply ef_mn; (iterate 3 exact rfl)) | (apply ef_newst; (iterate 3 exact rfl); (first | exact rfl | assumption); exact rfl) | (apply ef_new; exact rfl) | (apply ef_nil0; exact rfl) | (apply ef_nilck; (iterate 3 exact rfl)) | (apply ef_st; (iterate 6 exact rfl); (first | exact rfl | assumption); (first | assumption | exact rfl)) | apply ef_nil | apply seqQ.normal | apply loopQ.ret | apply loopQ.exit | apply ef_ret | apply seqQ.ret | apply ef_exit | apply seqQ.exit | apply blockQ.normal | apply blockQ.ret | apply blockQ.here | (apply blockQ_there; exact rfl) | apply ef_block | apply ef_skip | (apply ef_condt; exact rfl; (first | exact (rfl : true = true) | assumption | exact decide_eq_true (by omega))) | (apply ef_condf; exact rfl; (first | exact (rfl : false = false) | assumption | exact decide_eq_false (by omega))))
   rw [hK, Int.toNat_natCast]
   repeat (first | apply ef_seq | (apply ef_mv; exact rfl; exact rfl) | (apply ef_bin; (iterate 3 exact rfl); (first | assumption | exact cmp_t rfl (by first | exact rfl | (simp only [cmpP]; omega)) | exact cmp_f rfl (by simp only [cmpP]; omega) | ((with_reducible refine bin_add (wrap_of ?_ ?_)) <;> omega) | ((with_reducible refine bin_mul (wrap_of ?_ ?_)) <;> omega) | with_reducible exact bin_add (by assumption) | with_reducible exact bin_mul (by assumption) | exact rfl)) | (apply ef_len; exact rfl; exact rfl; (first | assumption | exact rfl)) | (apply ef_ldr; exact rfl; exact rfl; (first | assumption | exact rd_2 rfl rfl | exact rfl)) | (apply ef_ldp; exact rfl; exact rfl; (first | exact rfl | assumption); exact rfl; (first | exact rfl | assumption); (first | assumption | exact rd_2 rfl rfl | exact rfl)) | (apply ef_ias; (iterate 3 exact rfl); (first | omega | assumption); assumption; exact rfl) | (apply ef_iaa; (iterate 3 exact rfl); (first | omega | assumption); (first | omega | assumption); (first | exact rfl | assumption | exact ok_of rfl rfl rfl)) | (apply ef_iaap; (iterate 3 exact rfl); (first | omega | assumption); (first | omega | assumption)) | (apply ef_iaar; (iterate 3 exact rfl); (first | omega | assumption); (first | omega | assumption)) | (apply ef_fap; exact rfl; exact rfl) | (apply ef_far; exact rfl; exact rfl) | (apply ef_mn; (iterate 3 exact rfl)) | (apply ef_newst; (iterate 3 exact rfl); (first | exact rfl | assumption); exact rfl) | (apply ef_new; exact rfl) | (apply ef_nil0; exact rfl) | (apply ef_nilck; (iterate 3 exact rfl)) | (apply ef_st; (iterate 6 exact rfl); (first | exact rfl | assumption); (first | assumption | exact rfl)) | apply ef_nil | apply seqQ.normal | apply loopQ.ret | apply loopQ.exit | apply ef_ret | apply seqQ.ret | apply ef_exit | apply seqQ.exit | apply blockQ.normal | apply blockQ.ret | apply blockQ.here | (apply blockQ_there; exact rfl) | apply ef_block | apply ef_skip | (apply ef_condt; exact rfl; (first | exact (rfl : true = true) | assumption | exact decide_eq_true (by omega))) | (apply ef_condf; exact rfl; (first | exact (rfl : false = false) | assumption | exact decide_eq_false (by omega))))
   (refine loopQ.normal _ _ ⟨(i + 1, bb3), ⟨hlt, hfin.out⟩, (by show l.length - (i + 1) < l.length - i; omega), ⟨by ((repeat (refine Hold.cons (by exact rfl) ?_)); exact Hold.nil), by ((repeat (refine Hold.cons (by exact rfl) ?_)); exact Hold.nil)⟩, .inr ⟨by ((repeat (refine hdl_cons rfl (by first | rfl | (simp [MV.lt, ltL, ltL_Pd, ltL_flatB])) ?_)); exact hdl_nil), by first | rfl | (simp [hltL, ltL, MV.lt, ltL, ltL_Pd, ltL_flatB])⟩, by first | exact rfl | (simp only [List.map_append, List.map_set]; exact rfl)⟩)
 ·rw [List.take_of_length_le (by omega)] at hz
  subst hz
  have hch : chunkM 3 10 (flatB (binsL l)) = (binsL l).map encBn := by rw [← hlb]; exact chunk_flatB _
  repeat (first | apply ef_seq | (apply ef_mv; exact rfl; exact rfl) | (apply ef_bin; (iterate 3 exact rfl); (first | assumption | exact cmp_t rfl (by first | exact rfl | (simp only [cmpP]; omega)) | exact cmp_f rfl (by simp only [cmpP]; omega) | ((with_reducible refine bin_add (wrap_of ?_ ?_)) <;> omega) | ((with_reducible refine bin_mul (wrap_of ?_ ?_)) <;> omega) | with_reducible exact bin_add (by assumption) | with_reducible exact bin_mul (by assumption) | exact rfl)) | (apply ef_len; exact rfl; exact rfl; (first | assumption | exact rfl)) | (apply ef_ldr; exact rfl; exact rfl; (first | assumption | exact rd_2 rfl rfl | exact rfl)) | (apply ef_ldp; exact rfl; exact rfl; (first | exact rfl | assumption); exact rfl; (first | exact rfl | assumption); (first | assumption | exact rd_2 rfl rfl | exact rfl)) | (apply ef_ias; (iterate 3 exact rfl); (first | omega | assumption); assumption; exact rfl) | (apply ef_iaa; (iterate 3 exact rfl); (first | omega | assumption); (first | omega | assumption); (first | exact rfl | assumption | exact ok_of rfl rfl rfl)) | (apply ef_iaap; (iterate 3 exact rfl); (first | omega | assumption); (first | omega | assumption)) | (apply ef_iaar; (iterate 3 exact rfl); (first | omega | assumption); (first | omega | assumption)) | (apply ef_fap; exact rfl; exact rfl) | (apply ef_far; exact rfl; exact rfl) | (apply ef_mn; (iterate 3 exact rfl)) | (apply ef_newst; (iterate 3 exact rfl); (first | exact rfl | assumption); exact rfl) | (apply ef_new; exact rfl) | (apply ef_nil0; exact rfl) | (apply ef_nilck; (iterate 3 exact rfl)) | (apply ef_st; (iterate 6 exact rfl); (first | exact rfl | assumption); (first | assumption | exact rfl)) | apply ef_nil | apply seqQ.normal | apply loopQ.ret | apply loopQ.exit | apply ef_ret | apply seqQ.ret | apply ef_exit | apply seqQ.exit | apply blockQ.normal | apply blockQ.ret | apply blockQ.here | (apply blockQ_there; exact rfl) | apply ef_block | apply ef_skip | (apply ef_condt; exact rfl; (first | exact (rfl : true = true) | assumption | exact decide_eq_true (by omega))) | (apply ef_condf; exact rfl; (first | exact (rfl : false = false) | assumption | exact decide_eq_false (by omega))))
  (apply ef_sla; (· exact rfl); (· exact rfl); (· exact rfl); (· exact rfl); (· exact rfl); (· exact rfl); (· exact ⟨by decide, by decide⟩); (· show (flatB (binsL l)).length = 10 * 3; rw [flatB_len, hlb]); (· exact hch))
  repeat (first | apply ef_seq | (apply ef_mv; exact rfl; exact rfl) | (apply ef_bin; (iterate 3 exact rfl); (first | assumption | exact cmp_t rfl (by first | exact rfl | (simp only [cmpP]; omega)) | exact cmp_f rfl (by simp only [cmpP]; omega) | ((with_reducible refine bin_add (wrap_of ?_ ?_)) <;> omega) | ((with_reducible refine bin_mul (wrap_of ?_ ?_)) <;> omega) | with_reducible exact bin_add (by assumption) | with_reducible exact bin_mul (by assumption) | exact rfl)) | (apply ef_len; exact rfl; exact rfl; (first | assumption | exact rfl)) | (apply ef_ldr; exact rfl; exact rfl; (first | assumption | exact rd_2 rfl rfl | exact rfl)) | (apply ef_ldp; exact rfl; exact rfl; (first | exact rfl | assumption); exact rfl; (first | exact rfl | assumption); (first | assumption | exact rd_2 rfl rfl | exact rfl)) | (apply ef_ias; (iterate 3 exact rfl); (first | omega | assumption); assumption; exact rfl) | (apply ef_iaa; (iterate 3 exact rfl); (first | omega | assumption); (first | omega | assumption); (first | exact rfl | assumption | exact ok_of rfl rfl rfl)) | (apply ef_iaap; (iterate 3 exact rfl); (first | omega | assumption); (first | omega | assumption)) | (apply ef_iaar; (iterate 3 exact rfl); (first | omega | assumption); (first | omega | assumption)) | (apply ef_fap; exact rfl; exact rfl) | (apply ef_far; exact rfl; exact rfl) | (apply ef_mn; (iterate 3 exact rfl)) | (apply ef_newst; (iterate 3 exact rfl); (first | exact rfl | assumption); exact rfl) | (apply ef_new; exact rfl) | (apply ef_nil0; exact rfl) | (apply ef_nilck; (iterate 3 exact rfl)) | (apply ef_st; (iterate 6 exact rfl); (first | exact rfl | assumption); (first | assumption | exact rfl)) | apply ef_nil | apply seqQ.normal | apply loopQ.ret | apply loopQ.exit | apply ef_ret | apply seqQ.ret | apply ef_exit | apply seqQ.exit | apply blockQ.normal | apply blockQ.ret | apply blockQ.here | (apply blockQ_there; exact rfl) | apply ef_block | apply ef_skip | (apply ef_condt; exact rfl; (first | exact (rfl : true = true) | assumption | exact decide_eq_true (by omega))) | (apply ef_condf; exact rfl; (first | exact (rfl : false = false) | assumption | exact decide_eq_false (by omega))))
  (apply fin_al; (· exact rfl); (· exact rfl); (· exact rfl); (· exact rfl); (· exact rfl); (· (simp [hlb])); (· (exact ltL_Bn 0 _)); (· (exact rfl)); (· exact rfl); (· (exact rfl)))
theorem BinsOf_c (k : Nat) (l : List Pd) (h : MHeap) {v : MV} (hx : l.length ≤ 100) (hv : frz 0 [] h 8 v = some (.sl (l.map encPd))) (he : callE l = 0) : orA (k + 7) 80 [v] h = some (.tup [.arr h.length 0 10 0, I64 0], h ++ [⟨0, false, 3, (binsL l).map encBn⟩]) := by
 have := callA (k := k + 6) (h := h) (args := [v]) (args' := [.sl (l.map encPd)]) (by simp [List.mapM_cons, hv]) rfl (BinsOf_z k l hx he) (by simp [okV, ok1, MV.lt, MV.pure]) (by simp [okH, ltL_Bn, pureL_Bn])
 simpa [shV, sh1] using this
end Go.Proofs.YtnmgpbihknjdjaaGreatDoor

/- Contracts: the document's bins. -/
namespace Go.Proofs.YtnmgpbihknjdjaaGreatDoor
open Go.RowKit
set_option linter.unusedVariables false
end Go.Proofs.YtnmgpbihknjdjaaGreatDoor

/- Contracts: the cut for a slope. -/
namespace Go.Proofs.YtnmgpbihknjdjaaGreatDoor
open Go.RowKit
set_option linter.unusedVariables false
end Go.Proofs.YtnmgpbihknjdjaaGreatDoor

/- Contracts: the cuts of a layer. -/
namespace Go.Proofs.YtnmgpbihknjdjaaGreatDoor
open Go.RowKit
set_option linter.unusedVariables false
end Go.Proofs.YtnmgpbihknjdjaaGreatDoor

/- Contracts: the document's holes, layers and cuts. -/
namespace Go.Proofs.YtnmgpbihknjdjaaGreatDoor
open Go.RowKit
set_option linter.unusedVariables false
end Go.Proofs.YtnmgpbihknjdjaaGreatDoor

/- The examples: closed calls. -/
namespace Go.Proofs.YtnmgpbihknjdjaaGreatDoor
open Go.RowKit
theorem items_z (k : Nat) : runZ MT (orA k) (itA k) 4000000 94 [] [] = some (.arr 0 0 3 0, [⟨0, false, 3, itemE⟩]) := by kernel_rfl
theorem hole_z (k : Nat) : runZ MT (orA k) (itA k) 4000000 95 [] [] = some (holeX, []) := by kernel_rfl
theorem cal_z (k : Nat) : runZ MT (orA k) (itA k) 4000000 98 [] [] = some (.arr 0 0 3 0, [⟨0, false, 3, calE⟩]) := by kernel_rfl
theorem best_f : runFf (orL tA mfW 4000000 12) noI 4000000 mfW_l20 [itemX, I64 8] [] = some (.tup [.arr 0 0 2 0, I64 16, I64 0], [⟨0, false, 1, [I64 0, I64 2]⟩]) := by kernel_rfl
theorem cuts_f : runFf (orL tA mfW 4000000 12) noI 4000000 mfW_l26 [holeX, layX] [] = some (.tup [.agg [I64 80, I64 1, I64 400, I64 3], I64 0], []) := by kernel_rfl
theorem price_f : runFf (orL tA mfW 4000000 12) noI 4000000 mfW_l35 [itemX, I64 8] [] = some (.tup [.agg [I64 7, I64 4], I64 0], []) := by kernel_rfl
theorem early_f : runFf (orL tA mfW 4000000 12) noI 4000000 mfW_l49 [calX, I64 355, I64 10] [] = some (.tup [I64 376, I64 0], []) := by kernel_rfl
end Go.Proofs.YtnmgpbihknjdjaaGreatDoor

/- Chapter 9: the first body. -/
namespace Go.Proofs.YtnmgpbihknjdjaaGreatDoor
open Go.RowKit
set_option linter.unusedVariables false
def pickB (R C : List (Int × Int)) (w : List Nat) (i : Nat) : Option Nat := (rowSets C.length (R.getD i (0, 0)).1 (R.getD i (0, 0)).2).find? fun s => possB R C (prefP (w ++ [s]))
def bodyB (R C : List (Int × Int)) : Nat → List Nat
 | 0 => []
 | i + 1 => bodyB R C i ++ [(pickB R C (bodyB R C i) i).getD 0]
theorem bodyB_len (R C : List (Int × Int)) : ∀ i, (bodyB R C i).length = i
 | 0 => rfl
 | i + 1 => by simp [bodyB, bodyB_len R C i]
theorem natL_pure : ∀ w : List Nat, pureL (natL w) = true
 | [] => rfl
 | s :: w => by
  show (true && pureL (natL w)) = true
  rw [natL_pure w]; rfl
inductive RowAt (M : MHeap) : MV → List Nat → Prop
 | none : RowAt M (.lit (.slice none 0 0)) []
 | some (id g : Nat) (w : List Nat) : w ≠ [] → M[id]? = some ⟨g, false, 1, natL w⟩ → RowAt M (.arr id 0 w.length g) w
theorem clone_c (k : Nat) {M : MHeap} {v : MV} {w : List Nat} (hv : RowAt M v w) (hl : w.length ≤ 1000) : orA (k + 1) 148 [v] M = some (.arr M.length 0 w.length 0, M ++ [⟨0, w.isEmpty, 1, natL w⟩]) := by
 cases hv with
 | none =>
  have hz : runZ MT (orA k) (itA k) 4000000 148 [.lit (.slice none 0 0)] [] = some (.arr 0 0 0 0, [⟨0, true, 1, []⟩]) := by kernel_rfl
  have := callA (k := k) (h := M) (args := [.lit (.slice none 0 0)]) (args' := [.lit (.slice none 0 0)]) rfl rfl hz rfl rfl
  simpa [shV, sh1] using this
 | some id g w hne hM =>
  obtain ⟨s, w', rfl⟩ : ∃ s w', w = s :: w' := by
   cases w with
   | nil => exact absurd rfl hne
   | cons s w' => exact ⟨s, w', rfl⟩
  have hf : [MV.arr id 0 (s :: w').length g].mapM (frz 0 [] M 8) = some [.sl (natL (s :: w'))] := by
   have h1 : frz 0 [] M 8 (.arr id 0 (s :: w').length g) = some (.sl (natL (s :: w'))) := by
    have h2 := natL_lt 0 (s :: w')
    have h3 : ((natL (s :: w')).drop 0).take (s :: w').length = natL (s :: w') := by rw [List.drop_zero, List.take_of_length_le (by simp)]
    simp only [frz, MV.lt, Nat.not_lt_zero, decide_false, Bool.false_eq_true, if_false, List.contains_nil, hM, List.length_map, Nat.zero_add, Nat.le_refl, and_self, if_true, h2, h3]
   simp only [List.mapM_cons, List.mapM_nil, h1]; rfl
  have := callA (k := k) (h := M) hf rfl (clone_z k s w' hl) rfl (by have h2 := natL_lt 0 (s :: w'); simp only [okH, List.all_cons, List.all_nil, Bool.and_true, h2, Bool.true_and]; rw [Bool.or_eq_true]; exact .inr (natL_pure _))
  simpa [shV, sh1] using this
def tryM (M : MHeap) (w : List Nat) (s : Nat) : MHeap := M ++ [⟨1, false, 1, natL (w ++ [s])⟩, ⟨0, false, 1, [I64 s]⟩, ⟨0, false, 1, [.arr M.length 0 (w.length + 1) 1]⟩]
theorem tryM_0 (M : MHeap) (w : List Nat) (s : Nat) : (tryM M w s)[M.length]? = some ⟨1, false, 1, natL (w ++ [s])⟩ := by
 unfold tryM; rw [List.getElem?_append_right (Nat.le_refl _)]; simp
theorem tryM_2 (M : MHeap) (w : List Nat) (s : Nat) : (tryM M w s)[M.length + 2]? = some ⟨0, false, 1, [.arr M.length 0 (w.length + 1) 1]⟩ := by
 unfold tryM; rw [List.getElem?_append_right (by omega)]; simp
theorem tryM_at {M : MHeap} {w : List Nat} {s i : Nat} {o : MObj} (h : M[i]? = some o) : (tryM M w s)[i]? = some o := by
 unfold tryM; rw [List.getElem?_append_left (List.getElem?_eq_some_iff.1 h).1, h]
theorem tryM_cl {M : MHeap} (w : List Nat) (s : Nat) (hc : hltL M.length M = true) : hltL (M.length + 3) (tryM M w s) = true := by
 have h1 := hltL_le (show M.length ≤ M.length + 3 by omega) hc
 unfold tryM hltL at *
 rw [List.all_append, h1]
 simp only [List.all_cons, List.all_nil, ltL, MV.lt, natL_lt, Bool.and_true, Bool.true_and, decide_eq_true_eq]
 omega
theorem frz_try (M : MHeap) (w : List Nat) (s g : Nat) (R C : List (Int × Int)) : [encS R C, .fn g 0 [.ptr (M.length + 2) 0 0 0]].mapM (frz 0 [] (tryM M w s) 8) = some [encS R C, .fn g 0 [.rp (.sl (natL (w ++ [s]))) 0]] := by
 have h0 := encS_lt 0 R C
 have h2 := natL_lt 0 (w ++ [s])
 have h3 : ((natL (w ++ [s])).drop 0).take (w.length + 1) = natL (w ++ [s]) := by rw [List.drop_zero, List.take_of_length_le (by simp)]
 have hl : 0 + (w.length + 1) ≤ (natL (w ++ [s])).length := by simp
 have e0 : frz 0 [] (tryM M w s) 8 (encS R C) = some (encS R C) := frz_lt h0
 have e1 : frz 0 [] (tryM M w s) 6 (.arr M.length 0 (w.length + 1) 1) = some (.sl (natL (w ++ [s]))) := by
  simp only [frz, MV.lt, Nat.not_lt_zero, decide_false, Bool.false_eq_true, if_false, List.contains_nil, tryM_0, hl, and_self, if_true, h2, h3]
 have e2 : frz 0 [] (tryM M w s) 7 (.ptr (M.length + 2) 0 0 0) = some (.rp (.sl (natL (w ++ [s]))) 0) := by
  have e3 : frz 0 [] (tryM M w s) 7 (.ptr (M.length + 2) 0 0 0) = (match (tryM M w s)[M.length + 2]? with
   | some o => if o.g = 0 then match o.es[0]? with
     | some e => if e.lt 0 then some (.rp e 0) else (frz 0 [] (tryM M w s) 6 e).map fun e' => .rp e' 0
     | none => none
    else none
   | none => none) := rfl
  rw [e3, tryM_2]
  simp only [if_true, List.getElem?_cons_zero]
  have e4 : (MV.arr M.length 0 (w.length + 1) 1).lt 0 = false := by simp [MV.lt]
  rw [e4, e1]; rfl
 have e5 : frz 0 [] (tryM M w s) 8 (.fn g 0 [.ptr (M.length + 2) 0 0 0]) = some (.fn g 0 [.rp (.sl (natL (w ++ [s]))) 0]) := by
  have e6 : frz 0 [] (tryM M w s) 8 (.fn g 0 [.ptr (M.length + 2) 0 0 0]) = ([MV.ptr (M.length + 2) 0 0 0].mapM (frz 0 [] (tryM M w s) 7)).map (.fn g 0) := rfl
  rw [e6]
  simp only [List.mapM_cons, List.mapM_nil, e2]; rfl
 simp only [List.mapM_cons, List.mapM_nil, e0, e5]; rfl
structure StB (R C : List (Int × Int)) (w : List Nat) (M : MHeap) : Prop where
 m0 : M[0]? = some ⟨0, false, 2, [encS R C]⟩
 m1 : M[2]? = some ⟨0, false, 2, [encS R C]⟩
 m2 : ∃ v, M[3]? = some ⟨0, false, 1, [v]⟩ ∧ RowAt M v w
 cl : hltL M.length M = true
theorem mf_body : MT.mf 62 = some ⟨39, [(.tmp 2), (.tmp 3)], (.seq (.reg [gO 1 (.box 2 (.s 0)), gO 2 (.nil0 1), gO 3 (.mv (cI 0))]) (.seq (.reg [gO 11 (.ld (some 2) (.s 1)), gO 12 (.call 146 [.s 11]), gO 10 (.mv (.s 12)), gO 13 (.ext (.s 10) 0), gO 14 (.ext (.s 10) 1), gO 4 (.new (.agg [(.lit (.slice none 0 0)), (.lit (.slice none 0 0))])), ⟨none, none, .st 2 (.s 4) (.s 13)⟩, gO 5 (.mv (.s 14))]) (.seq (.seq (.reg [gO 15 (.mv (.s 5)), gO 16 (.bin .neq (.s 15) (cI 0))]) (.cond (.s 16) (.seq (.reg [gO 17 (.mv (.s 5)), gO 2 (.nil0 1), gO 3 (.mv (.s 17))]) .ret) .skip)) (.seq (.reg [gO 6 (.new (.lit (.slice none 0 0)))]) (.seq (.seq (.reg [gO 18 (.fa 0 (.s 1)), gO 19 (.ld none (.s 18)), gO 20 (.len (.s 19)), gO 21 (.mv (cI 0))]) (.block 0 (.loop [21, 20, 4, 6] (.seq (.reg [gO 22 (.bin .lss (.s 21) (.s 20))]) (.seq (.cond (.s 22) .skip (.exit 0)) (.seq (.block 1 (.seq (.reg [gO 23 (.mv (.s 21)), gO 7 (.mv (.s 23))]) (.seq (.reg [gO 24 (.ld (some 2) (.s 4)), gO 25 (.mv (.s 7)), gO 26 (.call 147 [.s 24, .s 25])]) (.block 2 (.rf [6, 4] (.s 26) [27] (.reg [gO 8 (.mv (.s 27))]) (.block 3 (.seq (.reg [gO 28 (.ld none (.s 6)), gO 29 (.call 148 [.s 28]), gO 30 (.mv (.s 8)), gO 31 (.bsl (.lit (.int .i64 0)) 1 1 [(0, (.s 30))]), gO 32 (.app 1 (.s 29) (.s 31)), gO 9 (.new (.lit (.slice none 0 0))), ⟨none, none, .st 1 (.s 9) (.s 32)⟩]) (.seq (.reg [gO 33 (.ld (some 2) (.s 4)), gO 34 (.mf 150 0 [.s 9]), gO 35 (.call 149 [.s 33, .s 34])]) (.cond (.s 35) (.seq (.reg [gO 36 (.ld none (.s 9)), ⟨none, none, .st 1 (.s 6) (.s 36)⟩]) (.exit 2)) .skip))))))))) (.reg [gO 37 (.bin .add (.s 21) (cI 1)), gO 21 (.mv (.s 37))]))))))) (.seq (.reg [gO 38 (.ld none (.s 6)), gO 2 (.mv (.s 38)), gO 3 (.mv (cI 0))]) .ret))))))⟩ := by kernel_rfl
set_option maxHeartbeats 4000000 in
theorem body_z (k : Nat) (R C : List (Int × Int)) (hR : R.length ≤ 5) (hC : C.length ≤ 5) (hop : ∀ h, orA (k + 7) 146 [encS R C] h = some (.tup [encS R C, I64 0], h)) (hpk : ∀ i, i < R.length → (pickB R C (bodyB R C i) i).isSome = true) (hne : 0 < R.length) :
  runZ MT (orA (k + 7)) (itA (k + 7)) 4000000 62 [encS R C] [] = some (.tup [.arr 0 0 R.length 0, I64 0], [⟨0, false, 1, natL (bodyB R C R.length)⟩]) := by
 refine runZ_of mf_body (by simp) ?_
 simp only [argsL]
 have hrl : (MV.sl (R.map encP)).slen = some R.length := by simp [MV.slen]
 repeat (first | apply ef_seq | (apply ef_mv; exact rfl; exact rfl) | (apply ef_bin; (iterate 3 exact rfl); (exact cmp_f rfl (by simp only [cmpP]; omega))) | (apply ef_len; exact rfl; exact rfl; (assumption)) | (apply ef_ldp; exact rfl; exact rfl; (exact rfl); exact rfl; (exact rfl); (first | exact rd_2 rfl rfl | exact rfl)) | (apply ef_fap; exact rfl; exact rfl) | (apply ef_ext; (iterate 3 exact rfl)) | (apply ef_box; (iterate 4 exact rfl)) | (apply ef_newst; (iterate 3 exact rfl); (exact rfl); exact rfl) | (apply ef_new; exact rfl) | (apply ef_nil0; exact rfl) | apply ef_nil | apply seqQ.normal | apply ef_block | apply ef_skip | (apply ef_condf; exact rfl; (exact (rfl : false = false))) | (apply ef_call; exact rfl; ((repeat (apply XVs.cons; exact rfl)); exact XVs.nil); (with_reducible exact hop _)))
 refine ef_loopg (α := Nat × MHeap) (fun a => a.1 ≤ R.length ∧ StB R C (bodyB R C a.1) a.2 ∧ 4 ≤ a.2.length ∧ (a.1 ≠ 0 → ∃ id n g, a.2[3]? = some ⟨0, false, 1, [.arr id 0 n g]⟩ ∧ 4 ≤ id)) (fun a => [(21, I64 (a.1 : Int))]) [(20, I64 (R.length : Int)), (4, .ptr 2 0 0 0), (6, .ptr 3 0 0 0)] (fun a => a.2) (fun a => R.length - a.1)
  (0, [⟨0, false, 2, [encS R C]⟩, ⟨0, true, 1, []⟩, ⟨0, false, 2, [encS R C]⟩, ⟨0, false, 1, [.lit (.slice none 0 0)]⟩]) [21] (fun _ => rfl) (by ((repeat (refine Hold.cons (by exact rfl) ?_)); exact Hold.nil)) (by ((repeat (refine Hold.cons (by exact rfl) ?_)); exact Hold.nil)) rfl rfl rfl ?_ (by simp; omega) ?_
 ·refine ⟨Nat.zero_le _, ⟨rfl, rfl, ⟨_, rfl, .none⟩, ?_⟩, by simp, fun h => absurd rfl h⟩
  have h1 := encS_lt 4 R C
  simp only [hltL, List.all_cons, List.all_nil, ltL, h1, Bool.and_true, Bool.true_and, List.length_cons, List.length_nil]
  rfl
 rintro ⟨i, M⟩ ⟨hi, hI, hlen, hbig⟩
 obtain ⟨m0, m1, ⟨v, m2, hv⟩, hcl⟩ := hI
 by_cases hi2 : i < R.length
 ·have hp := hpk i hi2
  obtain ⟨r, hr⟩ : ∃ r, R[i]? = some r := ⟨R[i], by simp [hi2]⟩
  have hrd : R.getD i (0, 0) = r := by rw [List.getD_eq_getElem?_getD, hr]; rfl
  have hwl := bodyB_len R C i
  have hnext : bodyB R C (i + 1) = bodyB R C i ++ [(pickB R C (bodyB R C i) i).getD 0] := rfl
  generalize bodyB R C i = w at *
  obtain ⟨pk, hpk2⟩ := Option.isSome_iff_exists.1 hp
  rw [hpk2, Option.getD_some] at hnext
  unfold pickB at hpk2
  rw [hrd] at hpk2
  repeat (first | apply ef_seq | (apply ef_mv; exact rfl; exact rfl) | (apply ef_bin; (iterate 3 exact rfl); (exact cmp_t rfl (by first | exact rfl | (simp only [cmpP]; omega)))) | (apply ef_ldp; exact rfl; exact rfl; (assumption); exact rfl; (exact rfl); (exact rd_2 rfl rfl)) | apply ef_nil | apply seqQ.normal | apply ef_block | apply ef_skip | (apply ef_condt; exact rfl; (exact (rfl : true = true))) | (apply ef_call; exact rfl; ((repeat (apply XVs.cons; exact rfl)); exact XVs.nil); (with_reducible exact rows_c (k + 6) R C i _)))
  refine ef_rf (α := MHeap) (ids := []) (fun j Y => ∀ s ∈ (rowSets C.length r.1 r.2).take j, possB R C (prefP (w ++ [s])) = false) [(6, .ptr 3 0 0 0), (4, .ptr 2 0 0 0)] (fun Y => M ++ Y) (fun _ => M) [] (by exact rfl) (rows1_it (k + 5) R C i r hC hr _) (by simp)
   (idsL_lt0 (by have h1 := encS_lt 0 R C; show ((encS R C).lt 0 && ((I64 i).lt 0 && true)) = true; rw [h1]; rfl)) (by ((repeat (refine Hold.cons (by exact rfl) ?_)); exact Hold.nil)) rfl rfl rfl (fun s hs => by simp at hs) (by simp) (fun j Y _ => ?_) ?_ ?_
  ·have h1 : HeadIs [6, 4] M.length ((26, rowsF R C i) :: (25, I64 i) :: (24, encS R C) :: (7, I64 i) :: (23, I64 i) :: (22, .lit (.bool true)) :: ([(21, I64 i)] ++ [(20, I64 R.length), (4, .ptr 2 0 0 0), (6, .ptr 3 0 0 0)])) (M ++ Y) ((M ++ Y).take M.length) := .cut (fun t ht => by
    simp only [List.mem_cons, List.not_mem_nil, or_false] at ht
    rcases ht with rfl | rfl
    ·exact ⟨_, rfl, by simp only [MV.lt, decide_eq_true_eq]; simp only at hlen; omega⟩
    ·exact ⟨_, rfl, by simp only [MV.lt, decide_eq_true_eq]; simp only at hlen; omega⟩) (by rw [List.take_left]; exact hcl)
   rw [List.take_left] at h1
   exact h1
  ·intro j Y x hx hno
   simp only [List.getElem?_map, Option.map_eq_some_iff] at hx
   obtain ⟨s, hs, rfl⟩ := hx
   obtain ⟨o1, ho1⟩ : ∃ o1 : MObj, o1 = ⟨0, w.isEmpty, 1, natL w⟩ := ⟨_, rfl⟩
   have hcl2 := clone_c (k + 6) hv (by simp only at hi; omega)
   rw [← ho1] at hcl2
   show Ef _ _ _ _ _ _ ((27, I64 s) :: [(6, .ptr 3 0 0 0), (4, .ptr 2 0 0 0)]) _ _
   simp only at m0 m1 m2 ⊢
   have hrv : rdCells v.cells 0 none = some v := by cases hv <;> rfl
   repeat (first | (apply ef_mv; exact rfl; exact rfl) | apply ef_nil)
   apply preQ.normal
   repeat (first | apply ef_seq | apply ef_block)
   (apply ef_ldp; (· exact rfl); (· exact rfl); (· exact m2); (· exact rfl); (· exact rfl); (· exact hrv))
   (apply ef_call; (· exact rfl); (· ((repeat (apply XVs.cons; exact rfl)); exact XVs.nil)); · exact hcl2)
   repeat (first | (apply ef_mv; exact rfl; exact rfl) | (apply ef_bsl; exact rfl; (repeat (apply XVs.cons; exact rfl)); exact XVs.nil; exact rfl))
   subst ho1
   have q1 : (M ++ [(⟨0, w.isEmpty, 1, natL w⟩ : MObj)] ++ [(⟨0, false, 1, [I64 s]⟩ : MObj)])[M.length]? = some ⟨0, w.isEmpty, 1, natL w⟩ := by
    rw [List.append_assoc, List.getElem?_append_right (Nat.le_refl _)]; simp
   have q2 : (MV.arr (M ++ [(⟨0, w.isEmpty, 1, natL w⟩ : MObj)]).length 0 1 0).elems (M ++ [(⟨0, w.isEmpty, 1, natL w⟩ : MObj)] ++ [(⟨0, false, 1, [I64 s]⟩ : MObj)]) = some [I64 s] := by
    simp only [MV.elems, at_endC]; rfl
   have q3 : (M ++ [(⟨0, w.isEmpty, 1, natL w⟩ : MObj)] ++ [(⟨0, false, 1, [I64 s]⟩ : MObj)]).set M.length ⟨1, false, 1, (natL w).drop 0 ++ [I64 s]⟩ = M ++ [⟨1, false, 1, natL (w ++ [s])⟩, ⟨0, false, 1, [I64 s]⟩] := by
    rw [List.append_assoc, List.set_append_right _ _ (Nat.le_refl _)]
    simp
   refine ef_app (ht := by exact rfl) (by exact rfl) (by exact rfl) q2 q1 rfl (by simp) rfl (by simp; simp only at hi; omega) rfl rfl ?_
   show Ef _ _ _ _ _ _ _ ((M ++ [(⟨0, w.isEmpty, 1, natL w⟩ : MObj)] ++ [(⟨0, false, 1, [I64 s]⟩ : MObj)]).set M.length ⟨1, false, 1, (natL w).drop 0 ++ [I64 s]⟩) _
   rw [q3]
   repeat (first | apply ef_seq | (apply ef_newst; (iterate 3 exact rfl); (exact rfl); exact rfl) | apply ef_nil | apply seqQ.normal)
   have q4 : M ++ [(⟨1, false, 1, natL (w ++ [s])⟩ : MObj), ⟨0, false, 1, [I64 s]⟩] ++ [(⟨0, false, 1, [.arr M.length 0 (w.length + 1) 1]⟩ : MObj)] = tryM M w s := by unfold tryM; simp
   have q5 : (M ++ [(⟨1, false, 1, natL (w ++ [s])⟩ : MObj), ⟨0, false, 1, [I64 s]⟩]).length = M.length + 2 := by simp
   rw [q5]
   show Ef _ _ _ _ _ _ _ (M ++ [(⟨1, false, 1, natL (w ++ [s])⟩ : MObj), ⟨0, false, 1, [I64 s]⟩] ++ [(⟨0, false, 1, [.arr M.length 0 (w.length + 1) 1]⟩ : MObj)]) _
   rw [q4]
   have t1 : (tryM M w s)[2]? = some ⟨0, false, 2, [encS R C]⟩ := tryM_at m1
   have t2 := tryM_2 M w s
   have t3 : (tryM M w s)[3]? = some ⟨0, false, 1, [v]⟩ := tryM_at m2
   have hpos := possible_f (k + 1) R C _ (prefP (w ++ [s])) hR hC (may_pre (k + 4) (w ++ [s]) _ hR) (frz_try M w s 150 R C)
   repeat (first | (apply ef_ldp; exact rfl; exact rfl; (assumption); exact rfl; (exact rfl); (exact rd_2 rfl rfl)) | (apply ef_mf; exact rfl; (repeat (apply XVs.cons; exact rfl)); exact XVs.nil))
   (apply ef_call; (· exact rfl); (· ((repeat (apply XVs.cons; exact rfl)); exact XVs.nil)); · exact hpos)
   cases hP : possB R C (prefP (w ++ [s]))
   ·repeat (first | apply ef_nil | apply seqQ.normal | apply blockQ.normal | apply ef_skip | (apply ef_condf; exact rfl; (exact (rfl : false = false))))
    refine rfQ.normal _ _ ⟨[⟨1, false, 1, natL (w ++ [s])⟩, ⟨0, false, 1, [I64 s]⟩, ⟨0, false, 1, [.arr M.length 0 (w.length + 1) 1]⟩], fun s' hs' => ?_, rfl⟩
    rw [List.take_add_one, hs] at hs'
    rcases List.mem_append.1 hs' with h1 | h1
    ·exact hno s' h1
    ·simp at h1; rw [h1]; exact hP
   ·have hsp : pk = s := by
     have h1 : rowSets C.length r.1 r.2 = (rowSets C.length r.1 r.2).take j ++ s :: (rowSets C.length r.1 r.2).drop (j + 1) := by
      have h2 := List.getElem?_eq_some_iff.1 hs
      obtain ⟨h3, h4⟩ := h2
      rw [← h4, ← List.drop_eq_getElem_cons h3, List.take_append_drop]
     rw [h1, List.find?_append] at hpk2
     have h5 : ((rowSets C.length r.1 r.2).take j).find? (fun s => possB R C (prefP (w ++ [s]))) = none := by
      rw [List.find?_eq_none]
      intro x hx
      rw [hno x hx]; simp
     rw [h5, Option.none_or, List.find?_cons_of_pos (by exact hP)] at hpk2
     exact (Option.some.inj hpk2).symm
    subst hsp
    repeat (first | apply ef_seq | (apply ef_ldp; exact rfl; exact rfl; (assumption); exact rfl; (exact rfl); (exact rfl)) | apply ef_nil | apply seqQ.normal | (apply ef_condt; exact rfl; (exact (rfl : true = true))))
    have hwr : wrElem v 0 (.arr M.length 0 (w.length + 1) 1) = some (.arr M.length 0 (w.length + 1) 1) := by cases hv <;> rfl
    (apply ef_st; (· exact rfl); (· exact rfl); (· exact rfl); (· exact t3); (· exact rfl); (· exact rfl); (· exact rfl); (· exact hwr))
    repeat (first | apply ef_nil | apply seqQ.normal | apply ef_exit | (apply blockQ_there; exact rfl))
    apply rfQ.exit
    repeat (first | (apply ef_mv; exact rfl; exact rfl) | (apply ef_bin; (iterate 3 exact rfl); (((with_reducible refine bin_add (wrap_of ?_ ?_)) <;> omega))) | apply ef_nil | apply seqQ.normal | apply blockQ.normal | apply blockQ.here)
    simp only at hlen hi
    obtain ⟨H, hH⟩ : ∃ H, H = (tryM M w pk).set 3 ⟨0, false, 1, [.arr M.length 0 (w.length + 1) 1]⟩ := ⟨_, rfl⟩
    have hTl : (tryM M w pk).length = M.length + 3 := by simp [tryM]
    have hHl : H.length = M.length + 3 := by rw [hH, List.length_set, hTl]
    have hH3 : H[3]? = some ⟨0, false, 1, [.arr M.length 0 (w.length + 1) 1]⟩ := by rw [hH, List.getElem?_set_self (by rw [hTl]; omega)]
    have hHi : ∀ i, i ≠ 3 → H[i]? = (tryM M w pk)[i]? := fun i hi => by rw [hH, List.getElem?_set_ne (Ne.symm hi)]
    have hHc : hltL (M.length + 3) H = true := by
     rw [hH]
     refine hltL_set (tryM_cl w pk hcl) ?_
     simp only [ltL, MV.lt, Bool.and_true, decide_eq_true_eq]; omega
    refine loopQ.normal _ _ ⟨(i + 1, H), ⟨?_, ⟨?_, ?_, ⟨.arr M.length 0 (w.length + 1) 1, ?_, ?_⟩, ?_⟩, ?_, ?_⟩, ?_, ⟨by ((repeat (refine Hold.cons (by exact rfl) ?_)); exact Hold.nil), by ((repeat (refine Hold.cons (by exact rfl) ?_)); exact Hold.nil)⟩, ?_⟩
    ·exact hi2
    ·show H[0]? = _
     rw [hHi 0 (by decide)]; exact tryM_at m0
    ·show H[2]? = _
     rw [hHi 2 (by decide)]; exact t1
    ·exact hH3
    ·show RowAt H _ (bodyB R C (i + 1))
     rw [hnext, show w.length + 1 = (w ++ [pk]).length by simp]
     refine .some M.length 1 (w ++ [pk]) (by simp) ?_
     rw [hHi _ (by omega)]; exact tryM_0 M w pk
    ·show hltL H.length H = true
     rw [hHl]; exact hHc
    ·show 4 ≤ H.length
     omega
    ·exact fun _ => ⟨M.length, w.length + 1, 1, hH3, hlen⟩
    ·show R.length - (i + 1) < R.length - i
     omega
    ·show HeadIs _ _ _ ((tryM M w pk).set 3 ⟨0, false, 1, [.arr M.length 0 (w.length + 1) 1]⟩) H
     rw [← hH]
     refine .cell ?_
     show hltL 4 (H.take 4) = false
     rw [Bool.eq_false_iff]
     intro hc
     have h1 := List.all_eq_true.1 hc ⟨0, false, 1, [.arr M.length 0 (w.length + 1) 1]⟩ (List.mem_of_getElem? (i := 3) (by rw [List.getElem?_take, if_pos (by decide)]; exact hH3))
     simp only [ltL, MV.lt, Bool.and_true, decide_eq_true_eq] at h1
     omega
  ·intro Y hno
   exfalso
   rw [List.take_of_length_le (by simp)] at hno
   have h1 := List.find?_some hpk2
   rw [hno pk (List.mem_of_find?_eq_some hpk2)] at h1
   cases h1
 ·obtain rfl : i = R.length := by omega
  have hwl := bodyB_len R C R.length
  generalize bodyB R C R.length = w at *
  cases hv with
  | none => simp at hwl; omega
  | some id g w' hne2 hM =>
   simp only at m2 hM
   repeat (first | apply ef_seq | (apply ef_mv; exact rfl; exact rfl) | (apply ef_bin; (iterate 3 exact rfl); (exact cmp_f rfl (by simp only [cmpP]; omega))) | (apply ef_ldp; exact rfl; exact rfl; (assumption); exact rfl; (exact rfl); (exact rfl)) | apply ef_nil | apply seqQ.normal | apply loopQ.exit | apply ef_ret | apply ef_exit | apply seqQ.exit | apply blockQ.here | (apply ef_condf; exact rfl; (exact (rfl : false = false))))
   rw [← hwl]
   exact fin_al rfl (by exact rfl) (by exact rfl) hM rfl (by simp) (natL_lt 0 w) rfl rfl rfl
end Go.Proofs.YtnmgpbihknjdjaaGreatDoor

/- The examples that every law begins with. -/
namespace Go.Proofs.YtnmgpbihknjdjaaGreatDoor
open Go.RowKit
set_option linter.unusedVariables false
theorem items_c (k : Nat) (h : MHeap) : orA (k + 1) 94 [] h = some (.arr h.length 0 3 0, h ++ [⟨0, false, 3, itemE⟩]) := by
 have := callA (k := k) (h := h) (args := []) (args' := []) rfl rfl (items_z k) rfl rfl
 simpa [shV, sh1] using this
theorem cal_c (k : Nat) (h : MHeap) : orA (k + 1) 98 [] h = some (.arr h.length 0 3 0, h ++ [⟨0, false, 3, calE⟩]) := by
 have := callA (k := k) (h := h) (args := []) (args' := []) rfl rfl (cal_z k) rfl rfl
 simpa [shV, sh1] using this
theorem hole_c (k : Nat) (h : MHeap) : orA (k + 1) 95 [] h = some (holeX, h) := by
 have := callA (k := k) (h := h) (args := []) (args' := []) rfl rfl (hole_z k) rfl rfl
 simpa [shV, sh1] using this
theorem layer_c (k : Nat) (h : MHeap) : orA (k + 6) 96 [] h = some (layX, h) := by
 have := callA (k := k + 5) (h := h) (args := []) (args' := []) rfl rfl (layer_x k) rfl rfl
 simpa [shV, sh1] using this
theorem shadow_c (k : Nat) (h : MHeap) : orA (k + 1) 97 [] h = some (encS shR shC, h) := by
 have := callA (k := k) (h := h) (args := []) (args' := []) rfl rfl (shadow_x k) rfl rfl
 rw [List.append_nil] at this
 exact this
theorem whole_z (k : Nat) : runZ MT (orA (k + 3)) (itA (k + 3)) 4000000 44 [I64 80] [] = some (.agg [I64 80, I64 1], []) := by kernel_rfl
theorem low_z (k : Nat) : runZ MT (orA (k + 3)) (itA (k + 3)) 4000000 87 [I64 400, I64 3] [] = some (.agg [I64 400, I64 3], []) := by kernel_rfl
theorem whole_c (k : Nat) (h : MHeap) : orA (k + 4) 44 [I64 80] h = some (.agg [I64 80, I64 1], h) := by
 have := callA (k := k + 3) (h := h) (args := [I64 80]) (args' := [I64 80]) rfl rfl (whole_z k) rfl rfl
 simpa [shV, sh1] using this
theorem low_c (k : Nat) (h : MHeap) : orA (k + 4) 87 [I64 400, I64 3] h = some (.agg [I64 400, I64 3], h) := by
 have := callA (k := k + 3) (h := h) (args := [I64 400, I64 3]) (args' := [I64 400, I64 3]) rfl rfl (low_z k) rfl rfl
 simpa [shV, sh1] using this
theorem bestX_c (h : MHeap) {v : MV} (hv : frz 0 [] h 8 v = some itemX) : orA 13 20 [v, I64 8] h = some (.tup [.arr h.length 0 2 0, I64 16, I64 0], h ++ [⟨0, false, 1, [I64 0, I64 2]⟩]) := by
 have hf : [v, I64 8].mapM (frz 0 [] h 8) = some [itemX, I64 8] := by simp [List.mapM_cons, hv, frz_lt (m := I64 8) rfl]
 have := callA (k := 12) (h := h) hf rfl (runL_ok mfW_ok (f := 20) (m := mfW_l20) (by kernel_rfl) best_f _) (by simp [okV, ok1, MV.lt, MV.pure]) (by simp [okH, ltL, MV.lt, pureL, MV.pure])
 simpa [shV, sh1] using this
theorem priceX_c (h : MHeap) {v : MV} (hv : frz 0 [] h 8 v = some itemX) : orA 13 35 [v, I64 8] h = some (.tup [.agg [I64 7, I64 4], I64 0], h) := by
 have hf : [v, I64 8].mapM (frz 0 [] h 8) = some [itemX, I64 8] := by simp [List.mapM_cons, hv, frz_lt (m := I64 8) rfl]
 have := callA (k := 12) (h := h) hf rfl (runL_ok mfW_ok (f := 35) (m := mfW_l35) (by kernel_rfl) price_f _) (by simp [okV, ok1, MV.lt, ltL, MV.pure, pureL]) rfl
 simpa [shV, sh1] using this
theorem earlyX_c (h : MHeap) {v : MV} (hv : frz 0 [] h 8 v = some calX) : orA 13 49 [v, I64 355, I64 10] h = some (.tup [I64 376, I64 0], h) := by
 have hf : [v, I64 355, I64 10].mapM (frz 0 [] h 8) = some [calX, I64 355, I64 10] := by simp [List.mapM_cons, hv, frz_lt (m := I64 355) rfl, frz_lt (m := I64 10) rfl]
 have := callA (k := 12) (h := h) hf rfl (runL_ok mfW_ok (f := 49) (m := mfW_l49) (by kernel_rfl) early_f _) (by simp [okV, ok1, MV.lt, MV.pure]) rfl
 simpa [shV, sh1] using this
theorem cutsX_c (h : MHeap) : orA 13 26 [holeX, layX] h = some (.tup [.agg [I64 80, I64 1, I64 400, I64 3], I64 0], h) := by
 have := callA (k := 12) (h := h) (args := [holeX, layX]) (args' := [holeX, layX]) rfl rfl (runL_ok mfW_ok (f := 26) (m := mfW_l26) (by kernel_rfl) cuts_f _) rfl rfl
 simpa [shV, sh1] using this
theorem bodyX_c (h : MHeap) : orA 13 62 [encS shR shC] h = some (.tup [.arr h.length 0 2 0, I64 0], h ++ [⟨0, false, 1, [I64 1, I64 3]⟩]) := by
 have hp : ∀ i, i < shR.length → (pickB shR shC (bodyB shR shC i) i).isSome = true
  | 0, _ => by kernel_rfl
  | 1, _ => by kernel_rfl
  | i + 2, h => absurd h (by simp)
 have hb : natL (bodyB shR shC shR.length) = [I64 1, I64 3] := by kernel_rfl
 have hz := body_z 5 shR shC (by decide) (by decide) (open_xc 5) hp (by decide)
 rw [hb] at hz
 have := callA (k := 12) (h := h) (args := [encS shR shC]) (args' := [encS shR shC]) rfl rfl hz rfl rfl
 simpa [shV, sh1] using this
theorem mf_awake : MT.mf 15 = some ⟨87, [(.tmp 0)], (.seq (.reg [gO 0 (.mv cF)]) (.seq (.reg [gO 13 (.call 94 []), gO 14 (.call 20 [.s 13, (cI 8)]), gO 12 (.mv (.s 14)), gO 15 (.ext (.s 12) 0), gO 16 (.ext (.s 12) 1), gO 17 (.ext (.s 12) 2), gO 1 (.mv (.s 15)), gO 2 (.mv (.s 16)), gO 3 (.mv (.s 17))]) (.seq (.reg [gO 19 (.call 95 []), gO 20 (.call 96 []), gO 21 (.call 26 [.s 19, .s 20]), gO 18 (.mv (.s 21)), gO 22 (.ext (.s 18) 0), gO 23 (.ext (.s 18) 1), gO 4 (.new (.agg [(.lit (.int .i64 0)), (.lit (.int .i64 0)), (.lit (.int .i64 0)), (.lit (.int .i64 0))])), ⟨none, none, .st 4 (.s 4) (.s 22)⟩, gO 5 (.mv (.s 23))]) (.seq (.reg [gO 25 (.call 97 []), gO 26 (.call 62 [.s 25]), gO 24 (.mv (.s 26)), gO 27 (.ext (.s 24) 0), gO 28 (.ext (.s 24) 1), gO 6 (.mv (.s 27)), gO 7 (.mv (.s 28))]) (.seq (.reg [gO 30 (.call 94 []), gO 31 (.call 35 [.s 30, (cI 8)]), gO 29 (.mv (.s 31)), gO 32 (.ext (.s 29) 0), gO 33 (.ext (.s 29) 1), gO 8 (.new (.agg [(.lit (.int .i64 0)), (.lit (.int .i64 0))])), ⟨none, none, .st 2 (.s 8) (.s 32)⟩, gO 9 (.mv (.s 33))]) (.seq (.reg [gO 35 (.call 98 []), gO 36 (.call 49 [.s 35, (cI 355), (cI 10)]), gO 34 (.mv (.s 36)), gO 37 (.ext (.s 34) 0), gO 38 (.ext (.s 34) 1), gO 10 (.mv (.s 37)), gO 11 (.mv (.s 38))]) (.seq (.reg [gO 39 (.mv (.s 3)), gO 40 (.bin .eql (.s 39) (cI 0)), gO 41 (.mv (.s 40)), ⟨some (41, true), some 42, .mv (.s 2)⟩, ⟨some (41, true), some 43, .bin .eql (.s 42) (cI 16)⟩, gO 44 (.pick (.s 41) (.s 43) cF), gO 45 (.mv (.s 44)), ⟨some (45, true), some 46, .mv (.s 1)⟩, ⟨some (45, true), some 47, .bsl (.lit (.int .i64 0)) 1 2 [(0, (cI 0)), (1, (cI 2))]⟩, ⟨some (45, true), some 48, .call 24 [.s 46, .s 47]⟩, gO 49 (.pick (.s 45) (.s 48) cF), gO 50 (.mv (.s 49)), ⟨some (50, true), some 51, .mv (.s 5)⟩, ⟨some (50, true), some 52, .bin .eql (.s 51) (cI 0)⟩, gO 53 (.pick (.s 50) (.s 52) cF), gO 54 (.mv (.s 53)), ⟨some (54, true), some 55, .ld (some 4) (.s 4)⟩, ⟨some (54, true), some 56, .call 44 [(cI 80)]⟩, ⟨some (54, true), some 57, .call 87 [(cI 400), (cI 3)]⟩, ⟨some (54, true), some 58, .build [(.lit (.int .i64 0)), (.lit (.int .i64 0)), (.lit (.int .i64 0)), (.lit (.int .i64 0))] [(0, (2, (.s 56))), (2, (2, (.s 57)))]⟩, ⟨some (54, true), some 59, .eqa 4 false (.s 55) (.s 58)⟩, gO 60 (.pick (.s 54) (.s 59) cF), gO 61 (.mv (.s 60)), ⟨some (61, true), some 62, .mv (.s 7)⟩, ⟨some (61, true), some 63, .bin .eql (.s 62) (cI 0)⟩, gO 64 (.pick (.s 61) (.s 63) cF), gO 65 (.mv (.s 64)), ⟨some (65, true), some 66, .mv (.s 6)⟩, ⟨some (65, true), some 67, .bsl (.lit (.int .i64 0)) 1 2 [(0, (cI 1)), (1, (cI 3))]⟩, ⟨some (65, true), some 68, .call 24 [.s 66, .s 67]⟩, gO 69 (.pick (.s 65) (.s 68) cF), gO 70 (.mv (.s 69)), ⟨some (70, true), some 71, .mv (.s 9)⟩, ⟨some (70, true), some 72, .bin .eql (.s 71) (cI 0)⟩, gO 73 (.pick (.s 70) (.s 72) cF), gO 74 (.mv (.s 73)), ⟨some (74, true), some 75, .ld (some 2) (.s 8)⟩, ⟨some (74, true), some 76, .build [(.lit (.int .i64 0)), (.lit (.int .i64 0))] [(0, (1, (cI 7))), (1, (1, (cI 4)))]⟩, ⟨some (74, true), some 77, .eqa 2 false (.s 75) (.s 76)⟩, gO 78 (.pick (.s 74) (.s 77) cF), gO 79 (.mv (.s 78)), ⟨some (79, true), some 80, .mv (.s 11)⟩, ⟨some (79, true), some 81, .bin .eql (.s 80) (cI 0)⟩, gO 82 (.pick (.s 79) (.s 81) cF), gO 83 (.mv (.s 82)), ⟨some (83, true), some 84, .mv (.s 10)⟩, ⟨some (83, true), some 85, .bin .eql (.s 84) (cI 376)⟩, gO 86 (.pick (.s 83) (.s 85) cF), gO 0 (.mv (.s 86))]) .ret)))))))⟩ := by kernel_rfl
set_option maxHeartbeats 1000000 in
theorem awake_z : runZ MT (orA 13) (itA 13) 4000000 15 [] [] = some (Bo true, []) := by
 refine runZ_of mf_awake (by simp) ?_
 simp only [argsL]
 repeat (first | apply ef_seq | (apply ef_mv; exact rfl; exact rfl) | (apply ef_bin; (iterate 3 exact rfl); (exact cmp_t rfl (by first | exact rfl | (simp only [cmpP]; omega)))) | (apply ef_gy; exact rfl; (exact (rfl : true = true))) | (apply ef_pick; (iterate 3 exact rfl)) | (apply ef_ldp; (iterate 4 exact rfl); (exact rfl); (first | exact rd_2 rfl rfl | exact rd_4 rfl rfl rfl rfl)) | (apply ef_ext; (iterate 3 exact rfl)) | (apply ef_new; exact rfl) | (apply ef_build; exact rfl; (repeat (apply XVs.cons; exact rfl)); exact XVs.nil; exact rfl; exact rfl) | (apply ef_bsl; exact rfl; (repeat (apply XVs.cons; exact rfl)); exact XVs.nil; exact rfl) | (apply ef_eqa; (iterate 3 exact rfl); (exact rfl)) | (apply ef_st; (iterate 6 exact rfl); (exact rfl); exact rfl) | apply ef_nil | apply seqQ.normal | apply ef_ret | (apply ef_call; exact rfl; ((repeat (apply XVs.cons; exact rfl)); exact XVs.nil); (with_reducible first | exact items_c _ _ | exact cal_c _ _ | exact hole_c _ _ | exact layer_c _ _ | exact shadow_c _ _ | exact whole_c _ _ | exact low_c _ _ | exact bestX_c _ rfl | exact priceX_c _ rfl | exact earlyX_c _ rfl | exact cutsX_c _ | exact bodyX_c _ | exact bInts_c 12 [0, 2] [0, 2] _ (by simp) rfl rfl rfl | exact bInts_c 12 [1, 3] [1, 3] _ (by simp) rfl rfl rfl)))
 (refine fin1 rfl (by exact rfl) rfl ?_)
 rfl
theorem awake_c (h : MHeap) : orA 14 15 [] h = some (Bo true, h) := callL (args' := []) rfl rfl awake_z
end Go.Proofs.YtnmgpbihknjdjaaGreatDoor

/- TargetCalls: the walk. -/
namespace Go.Proofs.YtnmgpbihknjdjaaGreatDoor
open Go.RowKit
set_option linter.unusedVariables false
theorem eqv2 (a b : Int) : litEqK (kindsOf 2) [I64 a, I64 b] [I64 a, I64 b] = some true := by
 show some (a == a && (b == b && true)) = some true
 simp
theorem frz_mid {M : MHeap} {o : MObj} {es : List MV} {n : Nat} (hg : o.g = 0) (hk : n = es.length) (hl : ltL 0 es = true) (he : o.es = es) : frz 0 [] (M ++ [o]) 8 (.arr M.length 0 n 0) = some (.sl es) := by
 refine frz_row (o := o) ?_ hg hk hl he
 rw [List.getElem?_append_right (Nat.le_refl _)]; simp
theorem mean_low {l : List Pd} (hC : callE l = 0) (hl : 0 < l.length) : meanA l = ((lowF (sumLs l) l.length).1, (lowF (sumLs l) l.length).2, 0) := by
 obtain ⟨b1, b2⟩ := callE_ok hC
 have hE : meanE l = 0 := by unfold meanE; rw [hC, decide_eq_true hl]; rfl
 unfold meanA
 rw [if_pos hE]
 obtain ⟨s1, s2⟩ := sumLs_bd l b2
 obtain ⟨d1, d2⟩ := lowF_bd (sumLs l) l.length
 obtain ⟨_, _, d3⟩ := lowF_ok (n := sumLs l) (show (l.length : Int) ≠ 0 by omega)
 unfold lowR
 rw [if_pos]
 rw [Bool.and_eq_true, inB_iff, decide_eq_true_eq]
 omega
end Go.Proofs.YtnmgpbihknjdjaaGreatDoor

/- TargetHonest: the walk. -/
namespace Go.Proofs.YtnmgpbihknjdjaaGreatDoor
open Go.RowKit
set_option linter.unusedVariables false
theorem cameN_next (l : List Pd) {i : Nat} (h : i < l.length) : cameN (l.take (i + 1)) = cameN (l.take i) + (if l[i].w then 1 else 0) := by
 rw [List.take_succ_eq_append_getElem h, cameN_app]; simp [cameN]
theorem wantN_next (l : List Pd) {i : Nat} (h : i < l.length) : wantN (l.take (i + 1)) = wantN (l.take i) + l[i].p := by
 rw [List.take_succ_eq_append_getElem h, wantN_app]; simp [wantN]
theorem sumB_app (f : Bn → Int) (l m : List Bn) : sumB f (l ++ m) = sumB f l + sumB f m := by
 induction l with
 | nil => simp [sumB]
 | cons x l ih => simp only [List.cons_append, sumB, ih]; omega
theorem sumB_next (f : Bn → Int) (l : List Bn) {i : Nat} (h : i < l.length) : sumB f (l.take (i + 1)) = sumB f (l.take i) + f l[i] := by
 rw [List.take_succ_eq_append_getElem h, sumB_app]; simp [sumB]
theorem mf_lawHn : MT.mf 12 = some ⟨239, [(.tmp 6)], (.seq (.reg [gO 6 (.mv cF)]) (.seq (.seq (.reg [gO 23 (.call 15 []), gO 24 (.un .not (.s 23))]) (.cond (.s 24) (.seq (.reg [gO 6 (.mv cF)]) .ret) .skip)) (.seq (.seq (.reg [gO 25 (.mv (.s 0)), gO 26 (.call 84 [.s 25]), gO 27 (.bin .neq (.s 26) (cI 0)), gO 28 (.mv (.s 27)), ⟨some (28, false), some 29, .mv (.s 1)⟩, ⟨some (28, false), some 30, .call 81 [.s 29]⟩, ⟨some (28, false), some 31, .bin .neq (.s 30) (cI 0)⟩, gO 32 (.pick (.s 28) cT (.s 31)), gO 33 (.mv (.s 32)), ⟨some (33, false), some 34, .mv (.s 2)⟩, ⟨some (33, false), some 35, .call 81 [.s 34]⟩, ⟨some (33, false), some 36, .bin .neq (.s 35) (cI 0)⟩, gO 37 (.pick (.s 33) cT (.s 36))]) (.cond (.s 37) (.seq (.reg [gO 6 (.mv cT)]) .ret) .skip)) (.seq (.reg [gO 39 (.mv (.s 2)), gO 40 (.mv (.s 2)), gO 41 (.call 77 [.s 39, .s 40]), gO 38 (.mv (.s 41)), gO 42 (.ext (.s 38) 0), gO 43 (.ext (.s 38) 1), gO 7 (.mv (.s 42)), gO 8 (.mv (.s 43))]) (.seq (.reg [gO 45 (.mv (.s 1)), gO 46 (.mv (.s 2)), gO 47 (.call 77 [.s 45, .s 46]), gO 44 (.mv (.s 47)), gO 48 (.ext (.s 44) 0), gO 49 (.ext (.s 44) 1), gO 9 (.mv (.s 48)), gO 10 (.mv (.s 49))]) (.seq (.seq (.reg [gO 50 (.mv (.s 8)), gO 51 (.bin .neq (.s 50) (cI 0)), gO 52 (.mv (.s 51)), ⟨some (52, false), some 53, .mv (.s 10)⟩, ⟨some (52, false), some 54, .bin .neq (.s 53) (cI 0)⟩, gO 55 (.pick (.s 52) cT (.s 54)), gO 56 (.mv (.s 55)), ⟨some (56, false), some 57, .mv (.s 7)⟩, ⟨some (56, false), some 58, .call 53 [.s 57, (cI 0), (cI 1000000)]⟩, ⟨some (56, false), some 59, .un .not (.s 58)⟩, gO 60 (.pick (.s 56) cT (.s 59)), gO 61 (.mv (.s 60)), ⟨some (61, false), some 62, .mv (.s 9)⟩, ⟨some (61, false), some 63, .mv (.s 7)⟩, ⟨some (61, false), some 64, .mv (.s 1)⟩, ⟨some (61, false), some 65, .mv (.s 2)⟩, ⟨some (61, false), some 66, .bin .sub (.s 64) (.s 65)⟩, ⟨some (61, false), some 67, .bin .mul (cI 100) (.s 66)⟩, ⟨some (61, false), some 68, .mv (.s 1)⟩, ⟨some (61, false), some 69, .mv (.s 2)⟩, ⟨some (61, false), some 70, .bin .sub (.s 68) (.s 69)⟩, ⟨some (61, false), some 71, .bin .mul (.s 67) (.s 70)⟩, ⟨some (61, false), some 72, .bin .add (.s 63) (.s 71)⟩, ⟨some (61, false), some 73, .bin .neq (.s 62) (.s 72)⟩, gO 74 (.pick (.s 61) cT (.s 73))]) (.cond (.s 74) (.seq (.reg [gO 6 (.mv cF)]) .ret) .skip)) (.seq (.reg [gO 76 (.mv (.s 0)), gO 77 (.call 79 [.s 76]), gO 78 (.call 80 [.s 77]), gO 75 (.mv (.s 78)), gO 79 (.ext (.s 75) 0), gO 80 (.ext (.s 75) 1), gO 11 (.mv (.s 79)), gO 12 (.mv (.s 80))]) (.seq (.seq (.reg [gO 81 (.mv (.s 12)), gO 82 (.bin .neq (.s 81) (cI 0)), gO 83 (.mv (.s 82)), ⟨some (83, false), some 84, .mv (.s 11)⟩, ⟨some (83, false), some 85, .len (.s 84)⟩, ⟨some (83, false), some 86, .bin .neq (.s 85) (cI 10)⟩, gO 87 (.pick (.s 83) cT (.s 86))]) (.cond (.s 87) (.seq (.reg [gO 6 (.mv cF)]) .ret) .skip)) (.seq (.reg [gO 13 (.mv (cI 0)), gO 14 (.mv (cI 0)), gO 15 (.mv (cI 0)), gO 16 (.mv (cI 0))]) (.seq (.seq (.reg [gO 17 (.mv (cI 0))]) (.block 0 (.loop [17, 0, 13, 16, 14, 11, 15] (.seq (.seq (.reg [gO 88 (.mv (.s 17)), gO 89 (.mv (.s 0)), gO 90 (.len (.s 89)), gO 91 (.bin .lss (.s 88) (.s 90))]) (.cond (.s 91) .skip (.exit 0))) (.seq (.block 1 (.seq (.reg [gO 95 (.mv (.s 0)), gO 96 (.mv (.s 17)), gO 97 (.ia 2 (.s 95) (.s 96)), gO 98 (.ld (some 2) (.s 97)), gO 99 (.call 76 [.s 98]), gO 94 (.mv (.s 99)), gO 100 (.ext (.s 94) 0), gO 101 (.ext (.s 94) 1), gO 18 (.mv (.s 100)), gO 19 (.mv (.s 101))]) (.seq (.seq (.reg [gO 102 (.mv (.s 19)), gO 103 (.bin .neq (.s 102) (cI 0)), gO 104 (.mv (.s 103)), ⟨some (104, false), some 105, .mv (.s 18)⟩, ⟨some (104, false), some 106, .call 53 [.s 105, (cI 0), (cI 10000)]⟩, ⟨some (104, false), some 107, .un .not (.s 106)⟩, gO 108 (.pick (.s 104) cT (.s 107))]) (.cond (.s 108) (.seq (.reg [gO 6 (.mv cF)]) .ret) .skip)) (.seq (.reg [gO 109 (.mv (.s 13)), gO 110 (.mv (.s 18)), gO 111 (.bin .add (.s 109) (.s 110)), gO 112 (.mv (.s 16)), gO 113 (.mv (.s 0)), gO 114 (.mv (.s 17)), gO 115 (.ia 2 (.s 113) (.s 114)), gO 116 (.fa 0 (.s 115)), gO 117 (.ld none (.s 116)), gO 118 (.bin .add (.s 112) (.s 117)), gO 13 (.mv (.s 111)), gO 16 (.mv (.s 118))]) (.seq (.reg [gO 119 (.mv (.s 0)), gO 120 (.mv (.s 17)), gO 121 (.ia 2 (.s 119) (.s 120)), gO 122 (.fa 1 (.s 121)), gO 123 (.ld none (.s 122))]) (.cond (.s 123) (.reg [gO 124 (.mv (.s 14)), gO 125 (.bin .add (.s 124) (cI 1)), gO 14 (.mv (.s 125))]) .skip)))))) (.reg [gO 92 (.mv (.s 17)), gO 93 (.bin .add (.s 92) (cI 1)), gO 17 (.mv (.s 93))])))))) (.seq (.seq (.reg [gO 20 (.mv (cI 0))]) (.block 2 (.loop [20, 11, 0, 15, 14, 16, 13] (.seq (.seq (.reg [gO 126 (.mv (.s 20)), gO 127 (.mv (.s 11)), gO 128 (.len (.s 127)), gO 129 (.bin .lss (.s 126) (.s 128))]) (.cond (.s 129) .skip (.exit 2))) (.seq (.block 3 (.seq (.seq (.reg [gO 132 (.mv (.s 11)), gO 133 (.mv (.s 20)), gO 134 (.ia 3 (.s 132) (.s 133)), gO 135 (.fa 1 (.s 134)), gO 136 (.ld none (.s 135)), gO 137 (.mv (.s 11)), gO 138 (.mv (.s 20)), gO 139 (.ia 3 (.s 137) (.s 138)), gO 140 (.fa 0 (.s 139)), gO 141 (.ld none (.s 140)), gO 142 (.call 53 [.s 136, (cI 0), .s 141]), gO 143 (.un .not (.s 142)), gO 144 (.mv (.s 143)), ⟨some (144, false), some 145, .mv (.s 11)⟩, ⟨some (144, false), some 146, .mv (.s 20)⟩, ⟨some (144, false), some 147, .ia 3 (.s 145) (.s 146)⟩, ⟨some (144, false), some 148, .fa 0 (.s 147)⟩, ⟨some (144, false), some 149, .ld none (.s 148)⟩, ⟨some (144, false), some 150, .mv (.s 0)⟩, ⟨some (144, false), some 151, .len (.s 150)⟩, ⟨some (144, false), some 152, .call 53 [.s 149, (cI 0), .s 151]⟩, ⟨some (144, false), some 153, .un .not (.s 152)⟩, gO 154 (.pick (.s 144) cT (.s 153)), gO 155 (.mv (.s 154)), ⟨some (155, false), some 156, .mv (.s 11)⟩, ⟨some (155, false), some 157, .mv (.s 20)⟩, ⟨some (155, false), some 158, .ia 3 (.s 156) (.s 157)⟩, ⟨some (155, false), some 159, .fa 2 (.s 158)⟩, ⟨some (155, false), some 160, .ld none (.s 159)⟩, ⟨some (155, false), some 161, .mv (.s 20)⟩, ⟨some (155, false), some 162, .bin .mul (cI 10) (.s 161)⟩, ⟨some (155, false), some 163, .mv (.s 11)⟩, ⟨some (155, false), some 164, .mv (.s 20)⟩, ⟨some (155, false), some 165, .ia 3 (.s 163) (.s 164)⟩, ⟨some (155, false), some 166, .fa 0 (.s 165)⟩, ⟨some (155, false), some 167, .ld none (.s 166)⟩, ⟨some (155, false), some 168, .bin .mul (.s 162) (.s 167)⟩, ⟨some (155, false), some 169, .mv (.s 20)⟩, ⟨some (155, false), some 170, .bin .mul (cI 10) (.s 169)⟩, ⟨some (155, false), some 171, .mv (.s 11)⟩, ⟨some (155, false), some 172, .mv (.s 20)⟩, ⟨some (155, false), some 173, .ia 3 (.s 171) (.s 172)⟩, ⟨some (155, false), some 174, .fa 0 (.s 173)⟩, ⟨some (155, false), some 175, .ld none (.s 174)⟩, ⟨some (155, false), some 176, .bin .mul (.s 170) (.s 175)⟩, ⟨some (155, false), some 177, .mv (.s 11)⟩, ⟨some (155, false), some 178, .mv (.s 20)⟩, ⟨some (155, false), some 179, .ia 3 (.s 177) (.s 178)⟩, ⟨some (155, false), some 180, .fa 0 (.s 179)⟩, ⟨some (155, false), some 181, .ld none (.s 180)⟩, ⟨some (155, false), some 182, .bin .mul (cI 10) (.s 181)⟩, ⟨some (155, false), some 183, .bin .add (.s 176) (.s 182)⟩, ⟨some (155, false), some 184, .call 53 [.s 160, .s 168, .s 183]⟩, ⟨some (155, false), some 185, .un .not (.s 184)⟩, gO 186 (.pick (.s 155) cT (.s 185))]) (.cond (.s 186) (.seq (.reg [gO 6 (.mv cF)]) .ret) .skip)) (.reg [gO 187 (.mv (.s 15)), gO 188 (.mv (.s 11)), gO 189 (.mv (.s 20)), gO 190 (.ia 3 (.s 188) (.s 189)), gO 191 (.fa 0 (.s 190)), gO 192 (.ld none (.s 191)), gO 193 (.bin .add (.s 187) (.s 192)), gO 194 (.mv (.s 14)), gO 195 (.mv (.s 11)), gO 196 (.mv (.s 20)), gO 197 (.ia 3 (.s 195) (.s 196)), gO 198 (.fa 1 (.s 197)), gO 199 (.ld none (.s 198)), gO 200 (.bin .sub (.s 194) (.s 199)), gO 201 (.mv (.s 16)), gO 202 (.mv (.s 11)), gO 203 (.mv (.s 20)), gO 204 (.ia 3 (.s 202) (.s 203)), gO 205 (.fa 2 (.s 204)), gO 206 (.ld none (.s 205)), gO 207 (.bin .sub (.s 201) (.s 206)), gO 15 (.mv (.s 193)), gO 14 (.mv (.s 200)), gO 16 (.mv (.s 207))]))) (.reg [gO 130 (.mv (.s 20)), gO 131 (.bin .add (.s 130) (cI 1)), gO 20 (.mv (.s 131))])))))) (.seq (.seq (.reg [gO 208 (.mv (.s 15)), gO 209 (.mv (.s 0)), gO 210 (.len (.s 209)), gO 211 (.bin .neq (.s 208) (.s 210)), gO 212 (.mv (.s 211)), ⟨some (212, false), some 213, .mv (.s 14)⟩, ⟨some (212, false), some 214, .bin .neq (.s 213) (cI 0)⟩, gO 215 (.pick (.s 212) cT (.s 214)), gO 216 (.mv (.s 215)), ⟨some (216, false), some 217, .mv (.s 16)⟩, ⟨some (216, false), some 218, .bin .neq (.s 217) (cI 0)⟩, gO 219 (.pick (.s 216) cT (.s 218))]) (.cond (.s 219) (.seq (.reg [gO 6 (.mv cF)]) .ret) .skip)) (.seq (.seq (.reg [gO 220 (.mv (.s 0)), gO 221 (.len (.s 220)), gO 222 (.bin .eql (.s 221) (cI 0))]) (.cond (.s 222) (.seq (.reg [gO 6 (.mv cT)]) .ret) .skip)) (.seq (.reg [gO 224 (.mv (.s 0)), gO 225 (.call 79 [.s 224]), gO 226 (.call 78 [.s 225]), gO 223 (.mv (.s 226)), gO 227 (.ext (.s 223) 0), gO 228 (.ext (.s 223) 1), gO 21 (.new (.agg [(.lit (.int .i64 0)), (.lit (.int .i64 0))])), ⟨none, none, .st 2 (.s 21) (.s 227)⟩, gO 22 (.mv (.s 228))]) (.seq (.reg [gO 229 (.mv (.s 22)), gO 230 (.bin .eql (.s 229) (cI 0)), gO 231 (.mv (.s 230)), ⟨some (231, true), some 232, .ld (some 2) (.s 21)⟩, ⟨some (231, true), some 233, .mv (.s 13)⟩, ⟨some (231, true), some 234, .mv (.s 0)⟩, ⟨some (231, true), some 235, .len (.s 234)⟩, ⟨some (231, true), some 236, .call 87 [.s 233, .s 235]⟩, ⟨some (231, true), some 237, .eqa 2 false (.s 232) (.s 236)⟩, gO 238 (.pick (.s 231) (.s 237) cF), gO 6 (.mv (.s 238))]) .ret)))))))))))))))⟩ := by kernel_rfl
set_option maxHeartbeats 8000000 in
theorem TargetHonest_z (l : List Pd) (p t : Int) (hlen : (l.length : Int) ≤ 9223372036854775807) :
  runZ MT (orA 14) (itA 14) 4000000 12 [.sl (l.map encPd), I64 p, I64 t] [] = some (Bo true, []) := by
 have hs : (MV.sl (l.map encPd)).slen = some l.length := by simp [MV.slen]
 refine runZ_of mf_lawHn (by simp) ?_
 simp only [argsL]
 have aw := fun h => awake_c h
 have fs : ∀ h, frz 0 [] h 8 (.sl (l.map encPd)) = some (.sl (l.map encPd)) := fun h => frz_sl (ltL_Pd 0 l)
 have q1 := fun h => rPercentErr_c 12 p h rfl
 have q2 := fun h => rPercentErr_c 12 t h rfl
 have q3 := fun h => rCallsErr_c 11 l h hlen (fs h) rfl
 by_cases hC : callE l = 0
 ·by_cases hP : percE p = 0
  ·by_cases hT : percE t = 0
   ·obtain ⟨hl60, hok⟩ := callE_ok hC
    have hp := perc_ok hP
    have ht := perc_ok hT
    have kA := fun h => ExpectedOf_c 10 t t h (r := (expE t t, 0)) (by unfold expA; rw [hT]; rfl)
    have kX := fun h => ExpectedOf_c 10 p t h (r := (expE p t, 0)) (by unfold expA; rw [hP, hT]; rfl)
    have hd := exp_dist p t
    have hb1 := exp_bd ht ht
    have hb2 := exp_bd hp ht
    have kW1 := fun h => Within_c 13 (expE t t) 0 1000000 h (inB_iff.2 hb1)
    generalize expE t t = ea at *
    generalize expE p t = eb at *
    generalize hQ : 100 * (p - t) * (p - t) = Q at *
    have wQ : IntKind.i64.wrap (100 * (p - t) * (p - t)) = Q := by rw [hQ]; exact wrap_of (by omega) (by omega)
    clear hQ
    have cp := fun h => CopyCalls_c 13 l h (by omega)
    have fz0 : ∀ (M : MHeap), frz 0 [] (M ++ [⟨0, false, 2, l.map encPd⟩]) 8 (.arr M.length 0 l.length 0) = some (.sl (l.map encPd)) := fun M => frz_mid rfl (by simp) (ltL_Pd 0 l) rfl
    have kB := fun M => BinsOf_c 7 l (M ++ [⟨0, false, 2, l.map encPd⟩]) (by omega) (fz0 M) hC
    have hS := binsS_ok l hok
    have hBL := ltL_Bn 0 (binsL l)
    have hsz := fun k (hk : k < 10) => bins_sz hS (by omega) hk
    obtain ⟨hl10, hea, hal, hca, hwa⟩ := hS
    generalize hbdef : binsL l = b at *
    clear hbdef
    repeat (first | first | apply ef_seq | (apply ef_mv; exact rfl; exact rfl) | (apply ef_bin; (iterate 3 exact rfl); (first | exact cmp_t rfl (by first | exact rfl | (simp only [cmpP]; omega)) | exact cmp_f rfl (by simp only [cmpP]; omega) | ((with_reducible refine bin_add (wrap_of ?_ ?_)) <;> omega) | ((with_reducible refine bin_sub (wrap_of ?_ ?_)) <;> omega) | ((with_reducible refine bin_mul (wrap_of ?_ ?_)) <;> omega) | with_reducible exact bin_add (by assumption) | with_reducible exact bin_sub (by assumption) | with_reducible exact bin_mul (by assumption) | exact rfl)) | (apply ef_gy; exact rfl; (first | exact (rfl : true = true) | exact (rfl : false = false) | exact (rfl : true = !false) | exact (rfl : false = !true) | assumption | exact decide_eq_true (by omega) | exact decide_eq_false (by omega))) | (apply ef_gn; exact rfl; (first | exact (rfl : true = true) | exact (rfl : false = false) | exact (rfl : true = !false) | exact (rfl : false = !true) | assumption | exact decide_eq_true (by omega) | exact decide_eq_false (by omega)); exact rfl) | (apply ef_gu; exact rfl; exact rfl) | (apply ef_pick; (iterate 3 exact rfl)) | (apply ef_pickb; (iterate 4 exact rfl)) | (apply ef_len; exact rfl; exact rfl; (first | assumption | exact rfl)) | (apply ef_ldr; exact rfl; exact rfl; (first | exact rd_2 rfl rfl | exact rfl)) | (apply ef_ldp; (iterate 4 exact rfl); (first | exact rfl | assumption); (first | exact rd_2 rfl rfl | exact rfl)) | (apply ef_ias; (iterate 3 exact rfl); (first | omega | assumption); assumption; exact rfl) | (apply ef_iaa; (iterate 3 exact rfl); (first | omega | assumption); (first | omega | assumption); exact rfl) | (apply ef_fap; exact rfl; exact rfl) | (apply ef_far; exact rfl; exact rfl) | (apply ef_notT; exact rfl; exact rfl) | (apply ef_notF; exact rfl; exact rfl) | (apply ef_not; (iterate 3 exact rfl)) | (apply ef_ext; (iterate 3 exact rfl)) | (apply ef_new; exact rfl) | (apply ef_eqa; (iterate 3 exact rfl); (first | assumption | exact rfl)) | (apply ef_st; (iterate 6 exact rfl); (first | exact rfl | assumption); exact rfl) | apply ef_nil | apply seqQ.normal | apply loopQ.ret | apply loopQ.exit | apply ef_ret | apply seqQ.ret | apply ef_exit | apply seqQ.exit | apply blockQ.normal | apply blockQ.ret | apply blockQ.here | (apply blockQ_there; exact rfl) | apply ef_block | apply ef_skip | (apply ef_condt; exact rfl; (first | exact (rfl : true = true) | assumption | exact decide_eq_true (by omega))) | (apply ef_condf; exact rfl; (first | exact (rfl : false = false) | assumption | exact decide_eq_false (by omega))) | (apply ef_call; exact rfl; ((repeat (apply XVs.cons; exact rfl)); exact XVs.nil); (with_reducible first | exact aw _ | exact q1 _ | exact q2 _ | exact q3 _ | exact kA _ | exact kX _ | exact kW1 _ | exact cp _ | exact kB _)))
    refine ef_loopf (α := Nat × Int × Int × Int) (fun q => q.1 ≤ l.length ∧ (q.2.1 = sumLs (l.take q.1) ∧ 0 ≤ q.2.1 ∧ q.2.1 ≤ 10000 * q.1) ∧ (q.2.2.1 = cameN (l.take q.1) ∧ 0 ≤ q.2.2.1 ∧ q.2.2.1 ≤ q.1) ∧ (q.2.2.2 = wantN (l.take q.1) ∧ 0 ≤ q.2.2.2 ∧ q.2.2.2 ≤ 100 * q.1)) (fun q => [(17, I64 (q.1 : Int)), (13, I64 q.2.1), (14, I64 q.2.2.1), (16, I64 q.2.2.2)])
     [(0, .sl (l.map encPd)), (11, .arr 1 0 10 0), (15, I64 0)] (fun _ => [⟨0, false, 2, l.map encPd⟩, ⟨0, false, 3, b.map encBn⟩]) (fun q => l.length - q.1) (0, 0, 0, 0) [17, 13, 14, 16] (fun _ => rfl) (by ((repeat (refine Hold.cons (by exact rfl) ?_)); exact Hold.nil)) (by ((repeat (refine Hold.cons (by exact rfl) ?_)); exact Hold.nil)) rfl rfl ⟨by omega, ⟨rfl, by decide, by decide⟩, ⟨rfl, by decide, by decide⟩, ⟨rfl, by decide, by decide⟩⟩ (by simp; omega) ?_
    rintro ⟨i, s, c, w⟩ ⟨hi, ⟨hs1, hs2, hs3⟩, ⟨hc1, hc2, hc3⟩, ⟨hw1, hw2, hw3⟩⟩
    try simp only at hi hs1 hs2 hs3 hc1 hc2 hc3 hw1 hw2 hw3 ⊢
    by_cases hlt : i < l.length
    ·have e1 := at_map encPd l i hlt
     have N1 := Lib.hid (sumLs_next l hlt)
     have N2 := cameN_next l hlt
     have N3 := Lib.hid (wantN_next l hlt)
     have hs1 := Lib.hid hs1
     have hc1 := Lib.hid hc1
     have hw1 := Lib.hid hw1
     have hx := hok l[i] (List.getElem_mem hlt)
     generalize l[i] = x at e1 N1 N2 N3 hx
     obtain ⟨g1, g2⟩ := loss_bd hx
     have kL := fun h => LossOf_c 10 x.p x.w h (r := (lossP x, 0)) (by unfold lossA; rw [show percE x.p = 0 by unfold percE; rw [inB_iff.2 hx]; rfl]; rfl)
     have kW2 := fun h => Within_c 13 (lossP x) 0 10000 h (inB_iff.2 ⟨g1, g2⟩)
     obtain ⟨x1, x2⟩ := hx
     generalize lossP x = q at *
     cases hxw : x.w
     ·rw [hxw] at N2
      have N2 := Lib.hid N2
      repeat (first | first | apply ef_seq | (apply ef_mv; exact rfl; exact rfl) | (apply ef_bin; (iterate 3 exact rfl); (first | exact cmp_t rfl (by first | exact rfl | (simp only [cmpP]; omega)) | exact cmp_f rfl (by simp only [cmpP]; omega) | ((with_reducible refine bin_add (wrap_of ?_ ?_)) <;> omega) | ((with_reducible refine bin_sub (wrap_of ?_ ?_)) <;> omega) | ((with_reducible refine bin_mul (wrap_of ?_ ?_)) <;> omega) | with_reducible exact bin_add (by assumption) | with_reducible exact bin_sub (by assumption) | with_reducible exact bin_mul (by assumption) | exact rfl)) | (apply ef_gy; exact rfl; (first | exact (rfl : true = true) | exact (rfl : false = false) | exact (rfl : true = !false) | exact (rfl : false = !true) | assumption | exact decide_eq_true (by omega) | exact decide_eq_false (by omega))) | (apply ef_gn; exact rfl; (first | exact (rfl : true = true) | exact (rfl : false = false) | exact (rfl : true = !false) | exact (rfl : false = !true) | assumption | exact decide_eq_true (by omega) | exact decide_eq_false (by omega)); exact rfl) | (apply ef_gu; exact rfl; exact rfl) | (apply ef_pick; (iterate 3 exact rfl)) | (apply ef_pickb; (iterate 4 exact rfl)) | (apply ef_len; exact rfl; exact rfl; (first | assumption | exact rfl)) | (apply ef_ldr; exact rfl; exact rfl; (first | exact rd_2 rfl rfl | exact rfl)) | (apply ef_ldp; (iterate 4 exact rfl); (first | exact rfl | assumption); (first | exact rd_2 rfl rfl | exact rfl)) | (apply ef_ias; (iterate 3 exact rfl); (first | omega | assumption); assumption; exact rfl) | (apply ef_iaa; (iterate 3 exact rfl); (first | omega | assumption); (first | omega | assumption); exact rfl) | (apply ef_fap; exact rfl; exact rfl) | (apply ef_far; exact rfl; exact rfl) | (apply ef_notT; exact rfl; exact rfl) | (apply ef_notF; exact rfl; exact rfl) | (apply ef_not; (iterate 3 exact rfl)) | (apply ef_ext; (iterate 3 exact rfl)) | (apply ef_new; exact rfl) | (apply ef_eqa; (iterate 3 exact rfl); (first | assumption | exact rfl)) | (apply ef_st; (iterate 6 exact rfl); (first | exact rfl | assumption); exact rfl) | apply ef_nil | apply seqQ.normal | apply loopQ.ret | apply loopQ.exit | apply ef_ret | apply seqQ.ret | apply ef_exit | apply seqQ.exit | apply blockQ.normal | apply blockQ.ret | apply blockQ.here | (apply blockQ_there; exact rfl) | apply ef_block | apply ef_skip | (apply ef_condt; exact rfl; (first | exact (rfl : true = true) | assumption | exact decide_eq_true (by omega))) | (apply ef_condf; exact rfl; (first | exact (rfl : false = false) | assumption | exact decide_eq_false (by omega))) | (apply ef_call; exact rfl; ((repeat (apply XVs.cons; exact rfl)); exact XVs.nil); (with_reducible first | exact kW2 _)))
      (apply ef_call; (· exact rfl); (· ((repeat (apply XVs.cons; exact rfl)); exact XVs.nil)); · exact kL _)
      repeat (first | first | apply ef_seq | (apply ef_mv; exact rfl; exact rfl) | (apply ef_bin; (iterate 3 exact rfl); (first | exact cmp_t rfl (by first | exact rfl | (simp only [cmpP]; omega)) | exact cmp_f rfl (by simp only [cmpP]; omega) | ((with_reducible refine bin_add (wrap_of ?_ ?_)) <;> omega) | ((with_reducible refine bin_sub (wrap_of ?_ ?_)) <;> omega) | ((with_reducible refine bin_mul (wrap_of ?_ ?_)) <;> omega) | with_reducible exact bin_add (by assumption) | with_reducible exact bin_sub (by assumption) | with_reducible exact bin_mul (by assumption) | exact rfl)) | (apply ef_gy; exact rfl; (first | exact (rfl : true = true) | exact (rfl : false = false) | exact (rfl : true = !false) | exact (rfl : false = !true) | assumption | exact decide_eq_true (by omega) | exact decide_eq_false (by omega))) | (apply ef_gn; exact rfl; (first | exact (rfl : true = true) | exact (rfl : false = false) | exact (rfl : true = !false) | exact (rfl : false = !true) | assumption | exact decide_eq_true (by omega) | exact decide_eq_false (by omega)); exact rfl) | (apply ef_gu; exact rfl; exact rfl) | (apply ef_pick; (iterate 3 exact rfl)) | (apply ef_pickb; (iterate 4 exact rfl)) | (apply ef_len; exact rfl; exact rfl; (first | assumption | exact rfl)) | (apply ef_ldr; exact rfl; exact rfl; (first | exact rd_2 rfl rfl | exact rfl)) | (apply ef_ldp; (iterate 4 exact rfl); (first | exact rfl | assumption); (first | exact rd_2 rfl rfl | exact rfl)) | (apply ef_ias; (iterate 3 exact rfl); (first | omega | assumption); assumption; exact rfl) | (apply ef_iaa; (iterate 3 exact rfl); (first | omega | assumption); (first | omega | assumption); exact rfl) | (apply ef_fap; exact rfl; exact rfl) | (apply ef_far; exact rfl; exact rfl) | (apply ef_notT; exact rfl; exact rfl) | (apply ef_notF; exact rfl; exact rfl) | (apply ef_not; (iterate 3 exact rfl)) | (apply ef_ext; (iterate 3 exact rfl)) | (apply ef_new; exact rfl) | (apply ef_eqa; (iterate 3 exact rfl); (first | assumption | exact rfl)) | (apply ef_st; (iterate 6 exact rfl); (first | exact rfl | assumption); exact rfl) | apply ef_nil | apply seqQ.normal | apply loopQ.ret | apply loopQ.exit | apply ef_ret | apply seqQ.ret | apply ef_exit | apply seqQ.exit | apply blockQ.normal | apply blockQ.ret | apply blockQ.here | (apply blockQ_there; exact rfl) | apply ef_block | apply ef_skip | (apply ef_condt; exact rfl; (first | exact (rfl : true = true) | assumption | exact decide_eq_true (by omega))) | (apply ef_condf; exact rfl; (first | exact (rfl : false = false) | assumption | exact decide_eq_false (by omega))) | (apply ef_call; exact rfl; ((repeat (apply XVs.cons; exact rfl)); exact XVs.nil); (with_reducible first | exact kW2 _)))
      (refine loopQ.normal _ _ ⟨(i + 1, s + q, c, w + x.p), ⟨hlt, ⟨by simp only; rw [N1.out, ← hs1.out], by simp only; omega, by simp only; omega⟩, ⟨by simp only; rw [N2.out, ← hc1.out]; simp, by simp only; omega, by simp only; omega⟩, ⟨by simp only; rw [N3.out, ← hw1.out], by simp only; omega, by simp only; omega⟩⟩, (by show l.length - (i + 1) < l.length - i; omega), ⟨by ((repeat (refine Hold.cons (by exact rfl) ?_)); exact Hold.nil), by ((repeat (refine Hold.cons (by exact rfl) ?_)); exact Hold.nil)⟩, .inl (Nat.le_refl _), (by first | exact List.take_length | exact rfl | exact takeF rfl rfl)⟩)
     ·rw [hxw] at N2
      have N2 := Lib.hid N2
      repeat (first | first | apply ef_seq | (apply ef_mv; exact rfl; exact rfl) | (apply ef_bin; (iterate 3 exact rfl); (first | exact cmp_t rfl (by first | exact rfl | (simp only [cmpP]; omega)) | exact cmp_f rfl (by simp only [cmpP]; omega) | ((with_reducible refine bin_add (wrap_of ?_ ?_)) <;> omega) | ((with_reducible refine bin_sub (wrap_of ?_ ?_)) <;> omega) | ((with_reducible refine bin_mul (wrap_of ?_ ?_)) <;> omega) | with_reducible exact bin_add (by assumption) | with_reducible exact bin_sub (by assumption) | with_reducible exact bin_mul (by assumption) | exact rfl)) | (apply ef_gy; exact rfl; (first | exact (rfl : true = true) | exact (rfl : false = false) | exact (rfl : true = !false) | exact (rfl : false = !true) | assumption | exact decide_eq_true (by omega) | exact decide_eq_false (by omega))) | (apply ef_gn; exact rfl; (first | exact (rfl : true = true) | exact (rfl : false = false) | exact (rfl : true = !false) | exact (rfl : false = !true) | assumption | exact decide_eq_true (by omega) | exact decide_eq_false (by omega)); exact rfl) | (apply ef_gu; exact rfl; exact rfl) | (apply ef_pick; (iterate 3 exact rfl)) | (apply ef_pickb; (iterate 4 exact rfl)) | (apply ef_len; exact rfl; exact rfl; (first | assumption | exact rfl)) | (apply ef_ldr; exact rfl; exact rfl; (first | exact rd_2 rfl rfl | exact rfl)) | (apply ef_ldp; (iterate 4 exact rfl); (first | exact rfl | assumption); (first | exact rd_2 rfl rfl | exact rfl)) | (apply ef_ias; (iterate 3 exact rfl); (first | omega | assumption); assumption; exact rfl) | (apply ef_iaa; (iterate 3 exact rfl); (first | omega | assumption); (first | omega | assumption); exact rfl) | (apply ef_fap; exact rfl; exact rfl) | (apply ef_far; exact rfl; exact rfl) | (apply ef_notT; exact rfl; exact rfl) | (apply ef_notF; exact rfl; exact rfl) | (apply ef_not; (iterate 3 exact rfl)) | (apply ef_ext; (iterate 3 exact rfl)) | (apply ef_new; exact rfl) | (apply ef_eqa; (iterate 3 exact rfl); (first | assumption | exact rfl)) | (apply ef_st; (iterate 6 exact rfl); (first | exact rfl | assumption); exact rfl) | apply ef_nil | apply seqQ.normal | apply loopQ.ret | apply loopQ.exit | apply ef_ret | apply seqQ.ret | apply ef_exit | apply seqQ.exit | apply blockQ.normal | apply blockQ.ret | apply blockQ.here | (apply blockQ_there; exact rfl) | apply ef_block | apply ef_skip | (apply ef_condt; exact rfl; (first | exact (rfl : true = true) | assumption | exact decide_eq_true (by omega))) | (apply ef_condf; exact rfl; (first | exact (rfl : false = false) | assumption | exact decide_eq_false (by omega))) | (apply ef_call; exact rfl; ((repeat (apply XVs.cons; exact rfl)); exact XVs.nil); (with_reducible first | exact kW2 _)))
      (apply ef_call; (· exact rfl); (· ((repeat (apply XVs.cons; exact rfl)); exact XVs.nil)); · exact kL _)
      repeat (first | first | apply ef_seq | (apply ef_mv; exact rfl; exact rfl) | (apply ef_bin; (iterate 3 exact rfl); (first | exact cmp_t rfl (by first | exact rfl | (simp only [cmpP]; omega)) | exact cmp_f rfl (by simp only [cmpP]; omega) | ((with_reducible refine bin_add (wrap_of ?_ ?_)) <;> omega) | ((with_reducible refine bin_sub (wrap_of ?_ ?_)) <;> omega) | ((with_reducible refine bin_mul (wrap_of ?_ ?_)) <;> omega) | with_reducible exact bin_add (by assumption) | with_reducible exact bin_sub (by assumption) | with_reducible exact bin_mul (by assumption) | exact rfl)) | (apply ef_gy; exact rfl; (first | exact (rfl : true = true) | exact (rfl : false = false) | exact (rfl : true = !false) | exact (rfl : false = !true) | assumption | exact decide_eq_true (by omega) | exact decide_eq_false (by omega))) | (apply ef_gn; exact rfl; (first | exact (rfl : true = true) | exact (rfl : false = false) | exact (rfl : true = !false) | exact (rfl : false = !true) | assumption | exact decide_eq_true (by omega) | exact decide_eq_false (by omega)); exact rfl) | (apply ef_gu; exact rfl; exact rfl) | (apply ef_pick; (iterate 3 exact rfl)) | (apply ef_pickb; (iterate 4 exact rfl)) | (apply ef_len; exact rfl; exact rfl; (first | assumption | exact rfl)) | (apply ef_ldr; exact rfl; exact rfl; (first | exact rd_2 rfl rfl | exact rfl)) | (apply ef_ldp; (iterate 4 exact rfl); (first | exact rfl | assumption); (first | exact rd_2 rfl rfl | exact rfl)) | (apply ef_ias; (iterate 3 exact rfl); (first | omega | assumption); assumption; exact rfl) | (apply ef_iaa; (iterate 3 exact rfl); (first | omega | assumption); (first | omega | assumption); exact rfl) | (apply ef_fap; exact rfl; exact rfl) | (apply ef_far; exact rfl; exact rfl) | (apply ef_notT; exact rfl; exact rfl) | (apply ef_notF; exact rfl; exact rfl) | (apply ef_not; (iterate 3 exact rfl)) | (apply ef_ext; (iterate 3 exact rfl)) | (apply ef_new; exact rfl) | (apply ef_eqa; (iterate 3 exact rfl); (first | assumption | exact rfl)) | (apply ef_st; (iterate 6 exact rfl); (first | exact rfl | assumption); exact rfl) | apply ef_nil | apply seqQ.normal | apply loopQ.ret | apply loopQ.exit | apply ef_ret | apply seqQ.ret | apply ef_exit | apply seqQ.exit | apply blockQ.normal | apply blockQ.ret | apply blockQ.here | (apply blockQ_there; exact rfl) | apply ef_block | apply ef_skip | (apply ef_condt; exact rfl; (first | exact (rfl : true = true) | assumption | exact decide_eq_true (by omega))) | (apply ef_condf; exact rfl; (first | exact (rfl : false = false) | assumption | exact decide_eq_false (by omega))) | (apply ef_call; exact rfl; ((repeat (apply XVs.cons; exact rfl)); exact XVs.nil); (with_reducible first | exact kW2 _)))
      (refine loopQ.normal _ _ ⟨(i + 1, s + q, c + 1, w + x.p), ⟨hlt, ⟨by simp only; rw [N1.out, ← hs1.out], by simp only; omega, by simp only; omega⟩, ⟨by simp only; rw [N2.out, ← hc1.out]; simp, by simp only; omega, by simp only; omega⟩, ⟨by simp only; rw [N3.out, ← hw1.out], by simp only; omega, by simp only; omega⟩⟩, (by show l.length - (i + 1) < l.length - i; omega), ⟨by ((repeat (refine Hold.cons (by exact rfl) ?_)); exact Hold.nil), by ((repeat (refine Hold.cons (by exact rfl) ?_)); exact Hold.nil)⟩, .inl (Nat.le_refl _), (by first | exact List.take_length | exact rfl | exact takeF rfl rfl)⟩)
    ·rw [List.take_of_length_le (by omega)] at hs1 hc1 hw1
     have hw3' : wantN l ≤ 6000 := by omega
     have hc3' : cameN l ≤ 60 := by omega
     have hcz : 0 ≤ cameN l := by omega
     have hwz : 0 ≤ wantN l := by omega
     rw [← hca] at hc1 hc3' hcz
     rw [← hwa] at hw1 hw3' hwz
     have hS1 := Lib.hid hs1
     repeat (first | apply ef_seq | (apply ef_mv; exact rfl; exact rfl) | (apply ef_bin; (iterate 3 exact rfl); (first | exact cmp_t rfl (by first | exact rfl | (simp only [cmpP]; omega)) | exact cmp_f rfl (by simp only [cmpP]; omega) | ((with_reducible refine bin_add (wrap_of ?_ ?_)) <;> omega) | ((with_reducible refine bin_sub (wrap_of ?_ ?_)) <;> omega) | ((with_reducible refine bin_mul (wrap_of ?_ ?_)) <;> omega) | with_reducible exact bin_add (by assumption) | with_reducible exact bin_sub (by assumption) | with_reducible exact bin_mul (by assumption) | exact rfl)) | (apply ef_gy; exact rfl; (first | exact (rfl : true = true) | exact (rfl : false = false) | exact (rfl : true = !false) | exact (rfl : false = !true) | assumption | exact decide_eq_true (by omega) | exact decide_eq_false (by omega))) | (apply ef_gn; exact rfl; (first | exact (rfl : true = true) | exact (rfl : false = false) | exact (rfl : true = !false) | exact (rfl : false = !true) | assumption | exact decide_eq_true (by omega) | exact decide_eq_false (by omega)); exact rfl) | (apply ef_gu; exact rfl; exact rfl) | (apply ef_pick; (iterate 3 exact rfl)) | (apply ef_pickb; (iterate 4 exact rfl)) | (apply ef_len; exact rfl; exact rfl; (first | assumption | exact rfl)) | (apply ef_ldr; exact rfl; exact rfl; (first | exact rd_2 rfl rfl | exact rfl)) | (apply ef_ldp; (iterate 4 exact rfl); (first | exact rfl | assumption); (first | exact rd_2 rfl rfl | exact rfl)) | (apply ef_ias; (iterate 3 exact rfl); (first | omega | assumption); assumption; exact rfl) | (apply ef_iaa; (iterate 3 exact rfl); (first | omega | assumption); (first | omega | assumption); exact rfl) | (apply ef_fap; exact rfl; exact rfl) | (apply ef_far; exact rfl; exact rfl) | (apply ef_notT; exact rfl; exact rfl) | (apply ef_notF; exact rfl; exact rfl) | (apply ef_not; (iterate 3 exact rfl)) | (apply ef_ext; (iterate 3 exact rfl)) | (apply ef_new; exact rfl) | (apply ef_eqa; (iterate 3 exact rfl); (first | assumption | exact rfl)) | (apply ef_st; (iterate 6 exact rfl); (first | exact rfl | assumption); exact rfl) | apply ef_nil | apply seqQ.normal | apply loopQ.ret | apply loopQ.exit | apply ef_ret | apply seqQ.ret | apply ef_exit | apply seqQ.exit | apply blockQ.normal | apply blockQ.ret | apply blockQ.here | (apply blockQ_there; exact rfl) | apply ef_block | apply ef_skip | (apply ef_condt; exact rfl; (first | exact (rfl : true = true) | assumption | exact decide_eq_true (by omega))) | (apply ef_condf; exact rfl; (first | exact (rfl : false = false) | assumption | exact decide_eq_false (by omega))))
     clear hs1 hi hc2 hc3 hw2 hw3 hlt
     refine ef_loopf (α := Nat × Int × Int × Int) (fun q => q.1 ≤ 10 ∧ (q.2.1 = sumB Bn.n (b.take q.1) ∧ 0 ≤ q.2.1 ∧ q.2.1 ≤ 100 * q.1) ∧ (q.2.2.1 = sumB Bn.c b - sumB Bn.c (b.take q.1) ∧ -100 * (q.1 : Int) ≤ q.2.2.1 ∧ q.2.2.1 ≤ 60) ∧ (q.2.2.2 = sumB Bn.s b - sumB Bn.s (b.take q.1) ∧ -10000 * (q.1 : Int) ≤ q.2.2.2 ∧ q.2.2.2 ≤ 6000)) (fun q => [(20, I64 (q.1 : Int)), (15, I64 q.2.1), (14, I64 q.2.2.1), (16, I64 q.2.2.2)])
      [(0, .sl (l.map encPd)), (11, .arr 1 0 10 0), (13, I64 s)] (fun _ => [⟨0, false, 2, l.map encPd⟩, ⟨0, false, 3, b.map encBn⟩]) (fun q => 10 - q.1) (0, 0, c, w) [20, 15, 14, 16] (fun _ => rfl) (by ((repeat (refine Hold.cons (by exact rfl) ?_)); exact Hold.nil)) (by ((repeat (refine Hold.cons (by exact rfl) ?_)); exact Hold.nil)) rfl rfl ⟨by omega, ⟨rfl, by simp only; omega, by simp only; omega⟩, ⟨by simp [sumB, hc1], by simp only; omega, by simp only; omega⟩, ⟨by simp [sumB, hw1], by simp only; omega, by simp only; omega⟩⟩ (by simp) ?_
     clear hc1 hw1
     rintro ⟨j, a, c', w'⟩ ⟨hj, ⟨a1, a2, a3⟩, ⟨d1, d2, d3⟩, ⟨f1, f2, f3⟩⟩
     try simp only at hj a1 a2 a3 d1 d2 d3 f1 f2 f3 ⊢
     have hblen : (b.map encBn).length = 10 := by rw [List.length_map, hl10]
     by_cases hjt : j < 10
     ·have hjl : j < b.length := by omega
      have e1 := at_map encBn b j hjl
      have e2 : (b.map encBn)[0 + ((j : Nat) : Int).toNat]? = some (encBn b[j]) := by rw [Nat.zero_add]; exact e1
      have hy : b.getD j ⟨0, 0, 0⟩ = b[j] := by rw [List.getD_eq_getElem?_getD, List.getElem?_eq_getElem hjl]; rfl
      have he := hea j hjt
      have hz := hsz j hjt
      have N1 := Lib.hid (sumB_next Bn.n b hjl)
      have N2 := Lib.hid (sumB_next Bn.c b hjl)
      have N3 := Lib.hid (sumB_next Bn.s b hjl)
      have a1 := Lib.hid a1
      have d1 := Lib.hid d1
      have f1 := Lib.hid f1
      rw [show b.getD j b0 = b.getD j ⟨0, 0, 0⟩ from rfl] at hz
      rw [hy] at he hz
      clear hea hsz hy
      generalize b[j] = y at *
      obtain ⟨z1, z2, z3, z4, z5⟩ := he
      obtain ⟨⟨y1, y2⟩, ⟨y3, y4⟩, y5, y6⟩ := hz
      have kw1 := fun h => Within_c 13 y.c 0 y.n h (inB_iff.2 ⟨z1, z2⟩)
      have kw2 := fun h => Within_c 13 y.n 0 l.length h (inB_iff.2 ⟨y1, z3⟩)
      have kw3 := fun h => Within_c 13 y.s (10 * (j : Int) * y.n) (10 * (j : Int) * y.n + 10 * y.n) h (inB_iff.2 ⟨z4, z5⟩)
      have pb : 0 ≤ 10 * (j : Int) * y.n := Int.mul_nonneg (by omega) y1
      generalize hPr : 10 * (j : Int) * y.n = R at *
      have wR : IntKind.i64.wrap (10 * (j : Int) * y.n) = R := by rw [hPr]; exact wrap_of (by omega) (by omega)
      clear hPr
      repeat (first | first | apply ef_seq | (apply ef_mv; exact rfl; exact rfl) | (apply ef_bin; (iterate 3 exact rfl); (first | exact cmp_t rfl (by first | exact rfl | (simp only [cmpP]; omega)) | exact cmp_f rfl (by simp only [cmpP]; omega) | ((with_reducible refine bin_add (wrap_of ?_ ?_)) <;> omega) | ((with_reducible refine bin_sub (wrap_of ?_ ?_)) <;> omega) | ((with_reducible refine bin_mul (wrap_of ?_ ?_)) <;> omega) | with_reducible exact bin_add (by assumption) | with_reducible exact bin_sub (by assumption) | with_reducible exact bin_mul (by assumption) | exact rfl)) | (apply ef_gy; exact rfl; (first | exact (rfl : true = true) | exact (rfl : false = false) | exact (rfl : true = !false) | exact (rfl : false = !true) | assumption | exact decide_eq_true (by omega) | exact decide_eq_false (by omega))) | (apply ef_gn; exact rfl; (first | exact (rfl : true = true) | exact (rfl : false = false) | exact (rfl : true = !false) | exact (rfl : false = !true) | assumption | exact decide_eq_true (by omega) | exact decide_eq_false (by omega)); exact rfl) | (apply ef_gu; exact rfl; exact rfl) | (apply ef_pick; (iterate 3 exact rfl)) | (apply ef_pickb; (iterate 4 exact rfl)) | (apply ef_len; exact rfl; exact rfl; (first | assumption | exact rfl)) | (apply ef_ldr; exact rfl; exact rfl; (first | exact rd_2 rfl rfl | exact rfl)) | (apply ef_ldp; (iterate 4 exact rfl); (first | exact rfl | assumption); (first | exact rd_2 rfl rfl | exact rfl)) | (apply ef_ias; (iterate 3 exact rfl); (first | omega | assumption); assumption; exact rfl) | (apply ef_iaa; (iterate 3 exact rfl); (first | omega | assumption); (first | omega | assumption); exact rfl) | (apply ef_fap; exact rfl; exact rfl) | (apply ef_far; exact rfl; exact rfl) | (apply ef_notT; exact rfl; exact rfl) | (apply ef_notF; exact rfl; exact rfl) | (apply ef_not; (iterate 3 exact rfl)) | (apply ef_ext; (iterate 3 exact rfl)) | (apply ef_new; exact rfl) | (apply ef_eqa; (iterate 3 exact rfl); (first | assumption | exact rfl)) | (apply ef_st; (iterate 6 exact rfl); (first | exact rfl | assumption); exact rfl) | apply ef_nil | apply seqQ.normal | apply loopQ.ret | apply loopQ.exit | apply ef_ret | apply seqQ.ret | apply ef_exit | apply seqQ.exit | apply blockQ.normal | apply blockQ.ret | apply blockQ.here | (apply blockQ_there; exact rfl) | apply ef_block | apply ef_skip | (apply ef_condt; exact rfl; (first | exact (rfl : true = true) | assumption | exact decide_eq_true (by omega))) | (apply ef_condf; exact rfl; (first | exact (rfl : false = false) | assumption | exact decide_eq_false (by omega))) | (apply ef_call; exact rfl; ((repeat (apply XVs.cons; exact rfl)); exact XVs.nil); (with_reducible first | exact kw1 _ | exact kw2 _ | exact kw3 _)))
      (refine loopQ.normal _ _ ⟨(j + 1, a + y.n, c' - y.c, w' - y.s), ⟨hjt, ⟨by simp only; rw [N1.out, ← a1.out], by simp only; omega, by simp only; omega⟩, ⟨by simp only; rw [N2.out, d1.out]; omega, by simp only; omega, by simp only; omega⟩, ⟨by simp only; rw [N3.out, f1.out]; omega, by simp only; omega, by simp only; omega⟩⟩, (by show 10 - (j + 1) < 10 - j; omega), ⟨by ((repeat (refine Hold.cons (by exact rfl) ?_)); exact Hold.nil), by ((repeat (refine Hold.cons (by exact rfl) ?_)); exact Hold.nil)⟩, .inl (Nat.le_refl _), (by first | exact List.take_length | exact rfl | exact takeF rfl rfl)⟩)
     ·rw [List.take_of_length_le (by omega)] at a1 d1 f1
      have za : a = (l.length : Int) := by rw [a1, hal]
      have zc : c' = 0 := by rw [d1]; omega
      have zw : w' = 0 := by rw [f1]; omega
      subst zc zw
      clear hea hsz a1 d1 f1 hal hca hwa
      by_cases hl0 : 0 < l.length
      ·have kM := fun M => MeanOf_c 7 l (M ++ [⟨0, false, 2, l.map encPd⟩]) (by omega) (fz0 M) (mean_low hC hl0)
       have hS2 := hS1.out
       subst hS2
       have hsb := sumLs_bd l hok
       have kW := fun h => bLowest_c 11 (sumLs l) l.length h (by omega) (by omega) (by omega) (by omega) (by omega)
       have ez := eqv2 (lowF (sumLs l) l.length).1 (lowF (sumLs l) l.length).2
       generalize lowF (sumLs l) l.length = F at *
       repeat (first | first | apply ef_seq | (apply ef_mv; exact rfl; exact rfl) | (apply ef_bin; (iterate 3 exact rfl); (first | exact cmp_t rfl (by first | exact rfl | (simp only [cmpP]; omega)) | exact cmp_f rfl (by simp only [cmpP]; omega) | ((with_reducible refine bin_add (wrap_of ?_ ?_)) <;> omega) | ((with_reducible refine bin_sub (wrap_of ?_ ?_)) <;> omega) | ((with_reducible refine bin_mul (wrap_of ?_ ?_)) <;> omega) | with_reducible exact bin_add (by assumption) | with_reducible exact bin_sub (by assumption) | with_reducible exact bin_mul (by assumption) | exact rfl)) | (apply ef_gy; exact rfl; (first | exact (rfl : true = true) | exact (rfl : false = false) | exact (rfl : true = !false) | exact (rfl : false = !true) | assumption | exact decide_eq_true (by omega) | exact decide_eq_false (by omega))) | (apply ef_gn; exact rfl; (first | exact (rfl : true = true) | exact (rfl : false = false) | exact (rfl : true = !false) | exact (rfl : false = !true) | assumption | exact decide_eq_true (by omega) | exact decide_eq_false (by omega)); exact rfl) | (apply ef_gu; exact rfl; exact rfl) | (apply ef_pick; (iterate 3 exact rfl)) | (apply ef_pickb; (iterate 4 exact rfl)) | (apply ef_len; exact rfl; exact rfl; (first | assumption | exact rfl)) | (apply ef_ldr; exact rfl; exact rfl; (first | exact rd_2 rfl rfl | exact rfl)) | (apply ef_ldp; (iterate 4 exact rfl); (first | exact rfl | assumption); (first | exact rd_2 rfl rfl | exact rfl)) | (apply ef_ias; (iterate 3 exact rfl); (first | omega | assumption); assumption; exact rfl) | (apply ef_iaa; (iterate 3 exact rfl); (first | omega | assumption); (first | omega | assumption); exact rfl) | (apply ef_fap; exact rfl; exact rfl) | (apply ef_far; exact rfl; exact rfl) | (apply ef_notT; exact rfl; exact rfl) | (apply ef_notF; exact rfl; exact rfl) | (apply ef_not; (iterate 3 exact rfl)) | (apply ef_ext; (iterate 3 exact rfl)) | (apply ef_new; exact rfl) | (apply ef_eqa; (iterate 3 exact rfl); (first | assumption | exact rfl)) | (apply ef_st; (iterate 6 exact rfl); (first | exact rfl | assumption); exact rfl) | apply ef_nil | apply seqQ.normal | apply loopQ.ret | apply loopQ.exit | apply ef_ret | apply seqQ.ret | apply ef_exit | apply seqQ.exit | apply blockQ.normal | apply blockQ.ret | apply blockQ.here | (apply blockQ_there; exact rfl) | apply ef_block | apply ef_skip | (apply ef_condt; exact rfl; (first | exact (rfl : true = true) | assumption | exact decide_eq_true (by omega))) | (apply ef_condf; exact rfl; (first | exact (rfl : false = false) | assumption | exact decide_eq_false (by omega))) | (apply ef_call; exact rfl; ((repeat (apply XVs.cons; exact rfl)); exact XVs.nil); (with_reducible first | exact cp _ | exact kM _ | exact kW _)))
       (refine fin1 rfl (by exact rfl) rfl ?_)
       rfl
      ·repeat (first | first | apply ef_seq | (apply ef_mv; exact rfl; exact rfl) | (apply ef_bin; (iterate 3 exact rfl); (first | exact cmp_t rfl (by first | exact rfl | (simp only [cmpP]; omega)) | exact cmp_f rfl (by simp only [cmpP]; omega) | ((with_reducible refine bin_add (wrap_of ?_ ?_)) <;> omega) | ((with_reducible refine bin_sub (wrap_of ?_ ?_)) <;> omega) | ((with_reducible refine bin_mul (wrap_of ?_ ?_)) <;> omega) | with_reducible exact bin_add (by assumption) | with_reducible exact bin_sub (by assumption) | with_reducible exact bin_mul (by assumption) | exact rfl)) | (apply ef_gy; exact rfl; (first | exact (rfl : true = true) | exact (rfl : false = false) | exact (rfl : true = !false) | exact (rfl : false = !true) | assumption | exact decide_eq_true (by omega) | exact decide_eq_false (by omega))) | (apply ef_gn; exact rfl; (first | exact (rfl : true = true) | exact (rfl : false = false) | exact (rfl : true = !false) | exact (rfl : false = !true) | assumption | exact decide_eq_true (by omega) | exact decide_eq_false (by omega)); exact rfl) | (apply ef_gu; exact rfl; exact rfl) | (apply ef_pick; (iterate 3 exact rfl)) | (apply ef_pickb; (iterate 4 exact rfl)) | (apply ef_len; exact rfl; exact rfl; (first | assumption | exact rfl)) | (apply ef_ldr; exact rfl; exact rfl; (first | exact rd_2 rfl rfl | exact rfl)) | (apply ef_ldp; (iterate 4 exact rfl); (first | exact rfl | assumption); (first | exact rd_2 rfl rfl | exact rfl)) | (apply ef_ias; (iterate 3 exact rfl); (first | omega | assumption); assumption; exact rfl) | (apply ef_iaa; (iterate 3 exact rfl); (first | omega | assumption); (first | omega | assumption); exact rfl) | (apply ef_fap; exact rfl; exact rfl) | (apply ef_far; exact rfl; exact rfl) | (apply ef_notT; exact rfl; exact rfl) | (apply ef_notF; exact rfl; exact rfl) | (apply ef_not; (iterate 3 exact rfl)) | (apply ef_ext; (iterate 3 exact rfl)) | (apply ef_new; exact rfl) | (apply ef_eqa; (iterate 3 exact rfl); (first | assumption | exact rfl)) | (apply ef_st; (iterate 6 exact rfl); (first | exact rfl | assumption); exact rfl) | apply ef_nil | apply seqQ.normal | apply loopQ.ret | apply loopQ.exit | apply ef_ret | apply seqQ.ret | apply ef_exit | apply seqQ.exit | apply blockQ.normal | apply blockQ.ret | apply blockQ.here | (apply blockQ_there; exact rfl) | apply ef_block | apply ef_skip | (apply ef_condt; exact rfl; (first | exact (rfl : true = true) | assumption | exact decide_eq_true (by omega))) | (apply ef_condf; exact rfl; (first | exact (rfl : false = false) | assumption | exact decide_eq_false (by omega))) | (apply ef_call; exact rfl; ((repeat (apply XVs.cons; exact rfl)); exact XVs.nil); (with_reducible first | exact cp _)))
       (refine fin1 rfl (by exact rfl) rfl ?_)
       rfl
   ·repeat (first | first | apply ef_seq | (apply ef_mv; exact rfl; exact rfl) | (apply ef_bin; (iterate 3 exact rfl); (first | exact cmp_t rfl (by first | exact rfl | (simp only [cmpP]; omega)) | exact cmp_f rfl (by simp only [cmpP]; omega) | ((with_reducible refine bin_add (wrap_of ?_ ?_)) <;> omega) | ((with_reducible refine bin_sub (wrap_of ?_ ?_)) <;> omega) | ((with_reducible refine bin_mul (wrap_of ?_ ?_)) <;> omega) | with_reducible exact bin_add (by assumption) | with_reducible exact bin_sub (by assumption) | with_reducible exact bin_mul (by assumption) | exact rfl)) | (apply ef_gy; exact rfl; (first | exact (rfl : true = true) | exact (rfl : false = false) | exact (rfl : true = !false) | exact (rfl : false = !true) | assumption | exact decide_eq_true (by omega) | exact decide_eq_false (by omega))) | (apply ef_gn; exact rfl; (first | exact (rfl : true = true) | exact (rfl : false = false) | exact (rfl : true = !false) | exact (rfl : false = !true) | assumption | exact decide_eq_true (by omega) | exact decide_eq_false (by omega)); exact rfl) | (apply ef_gu; exact rfl; exact rfl) | (apply ef_pick; (iterate 3 exact rfl)) | (apply ef_pickb; (iterate 4 exact rfl)) | (apply ef_len; exact rfl; exact rfl; (first | assumption | exact rfl)) | (apply ef_ldr; exact rfl; exact rfl; (first | exact rd_2 rfl rfl | exact rfl)) | (apply ef_ldp; (iterate 4 exact rfl); (first | exact rfl | assumption); (first | exact rd_2 rfl rfl | exact rfl)) | (apply ef_ias; (iterate 3 exact rfl); (first | omega | assumption); assumption; exact rfl) | (apply ef_iaa; (iterate 3 exact rfl); (first | omega | assumption); (first | omega | assumption); exact rfl) | (apply ef_fap; exact rfl; exact rfl) | (apply ef_far; exact rfl; exact rfl) | (apply ef_notT; exact rfl; exact rfl) | (apply ef_notF; exact rfl; exact rfl) | (apply ef_not; (iterate 3 exact rfl)) | (apply ef_ext; (iterate 3 exact rfl)) | (apply ef_new; exact rfl) | (apply ef_eqa; (iterate 3 exact rfl); (first | assumption | exact rfl)) | (apply ef_st; (iterate 6 exact rfl); (first | exact rfl | assumption); exact rfl) | apply ef_nil | apply seqQ.normal | apply loopQ.ret | apply loopQ.exit | apply ef_ret | apply seqQ.ret | apply ef_exit | apply seqQ.exit | apply blockQ.normal | apply blockQ.ret | apply blockQ.here | (apply blockQ_there; exact rfl) | apply ef_block | apply ef_skip | (apply ef_condt; exact rfl; (first | exact (rfl : true = true) | assumption | exact decide_eq_true (by omega))) | (apply ef_condf; exact rfl; (first | exact (rfl : false = false) | assumption | exact decide_eq_false (by omega))) | (apply ef_call; exact rfl; ((repeat (apply XVs.cons; exact rfl)); exact XVs.nil); (with_reducible first | exact aw _ | exact q1 _ | exact q2 _ | exact q3 _)))
    (refine fin1 rfl (by exact rfl) rfl ?_)
    rfl
  ·repeat (first | first | apply ef_seq | (apply ef_mv; exact rfl; exact rfl) | (apply ef_bin; (iterate 3 exact rfl); (first | exact cmp_t rfl (by first | exact rfl | (simp only [cmpP]; omega)) | exact cmp_f rfl (by simp only [cmpP]; omega) | ((with_reducible refine bin_add (wrap_of ?_ ?_)) <;> omega) | ((with_reducible refine bin_sub (wrap_of ?_ ?_)) <;> omega) | ((with_reducible refine bin_mul (wrap_of ?_ ?_)) <;> omega) | with_reducible exact bin_add (by assumption) | with_reducible exact bin_sub (by assumption) | with_reducible exact bin_mul (by assumption) | exact rfl)) | (apply ef_gy; exact rfl; (first | exact (rfl : true = true) | exact (rfl : false = false) | exact (rfl : true = !false) | exact (rfl : false = !true) | assumption | exact decide_eq_true (by omega) | exact decide_eq_false (by omega))) | (apply ef_gn; exact rfl; (first | exact (rfl : true = true) | exact (rfl : false = false) | exact (rfl : true = !false) | exact (rfl : false = !true) | assumption | exact decide_eq_true (by omega) | exact decide_eq_false (by omega)); exact rfl) | (apply ef_gu; exact rfl; exact rfl) | (apply ef_pick; (iterate 3 exact rfl)) | (apply ef_pickb; (iterate 4 exact rfl)) | (apply ef_len; exact rfl; exact rfl; (first | assumption | exact rfl)) | (apply ef_ldr; exact rfl; exact rfl; (first | exact rd_2 rfl rfl | exact rfl)) | (apply ef_ldp; (iterate 4 exact rfl); (first | exact rfl | assumption); (first | exact rd_2 rfl rfl | exact rfl)) | (apply ef_ias; (iterate 3 exact rfl); (first | omega | assumption); assumption; exact rfl) | (apply ef_iaa; (iterate 3 exact rfl); (first | omega | assumption); (first | omega | assumption); exact rfl) | (apply ef_fap; exact rfl; exact rfl) | (apply ef_far; exact rfl; exact rfl) | (apply ef_notT; exact rfl; exact rfl) | (apply ef_notF; exact rfl; exact rfl) | (apply ef_not; (iterate 3 exact rfl)) | (apply ef_ext; (iterate 3 exact rfl)) | (apply ef_new; exact rfl) | (apply ef_eqa; (iterate 3 exact rfl); (first | assumption | exact rfl)) | (apply ef_st; (iterate 6 exact rfl); (first | exact rfl | assumption); exact rfl) | apply ef_nil | apply seqQ.normal | apply loopQ.ret | apply loopQ.exit | apply ef_ret | apply seqQ.ret | apply ef_exit | apply seqQ.exit | apply blockQ.normal | apply blockQ.ret | apply blockQ.here | (apply blockQ_there; exact rfl) | apply ef_block | apply ef_skip | (apply ef_condt; exact rfl; (first | exact (rfl : true = true) | assumption | exact decide_eq_true (by omega))) | (apply ef_condf; exact rfl; (first | exact (rfl : false = false) | assumption | exact decide_eq_false (by omega))) | (apply ef_call; exact rfl; ((repeat (apply XVs.cons; exact rfl)); exact XVs.nil); (with_reducible first | exact aw _ | exact q1 _ | exact q2 _ | exact q3 _)))
   (refine fin1 rfl (by exact rfl) rfl ?_)
   rfl
 ·repeat (first | first | apply ef_seq | (apply ef_mv; exact rfl; exact rfl) | (apply ef_bin; (iterate 3 exact rfl); (first | exact cmp_t rfl (by first | exact rfl | (simp only [cmpP]; omega)) | exact cmp_f rfl (by simp only [cmpP]; omega) | ((with_reducible refine bin_add (wrap_of ?_ ?_)) <;> omega) | ((with_reducible refine bin_sub (wrap_of ?_ ?_)) <;> omega) | ((with_reducible refine bin_mul (wrap_of ?_ ?_)) <;> omega) | with_reducible exact bin_add (by assumption) | with_reducible exact bin_sub (by assumption) | with_reducible exact bin_mul (by assumption) | exact rfl)) | (apply ef_gy; exact rfl; (first | exact (rfl : true = true) | exact (rfl : false = false) | exact (rfl : true = !false) | exact (rfl : false = !true) | assumption | exact decide_eq_true (by omega) | exact decide_eq_false (by omega))) | (apply ef_gn; exact rfl; (first | exact (rfl : true = true) | exact (rfl : false = false) | exact (rfl : true = !false) | exact (rfl : false = !true) | assumption | exact decide_eq_true (by omega) | exact decide_eq_false (by omega)); exact rfl) | (apply ef_gu; exact rfl; exact rfl) | (apply ef_pick; (iterate 3 exact rfl)) | (apply ef_pickb; (iterate 4 exact rfl)) | (apply ef_len; exact rfl; exact rfl; (first | assumption | exact rfl)) | (apply ef_ldr; exact rfl; exact rfl; (first | exact rd_2 rfl rfl | exact rfl)) | (apply ef_ldp; (iterate 4 exact rfl); (first | exact rfl | assumption); (first | exact rd_2 rfl rfl | exact rfl)) | (apply ef_ias; (iterate 3 exact rfl); (first | omega | assumption); assumption; exact rfl) | (apply ef_iaa; (iterate 3 exact rfl); (first | omega | assumption); (first | omega | assumption); exact rfl) | (apply ef_fap; exact rfl; exact rfl) | (apply ef_far; exact rfl; exact rfl) | (apply ef_notT; exact rfl; exact rfl) | (apply ef_notF; exact rfl; exact rfl) | (apply ef_not; (iterate 3 exact rfl)) | (apply ef_ext; (iterate 3 exact rfl)) | (apply ef_new; exact rfl) | (apply ef_eqa; (iterate 3 exact rfl); (first | assumption | exact rfl)) | (apply ef_st; (iterate 6 exact rfl); (first | exact rfl | assumption); exact rfl) | apply ef_nil | apply seqQ.normal | apply loopQ.ret | apply loopQ.exit | apply ef_ret | apply seqQ.ret | apply ef_exit | apply seqQ.exit | apply blockQ.normal | apply blockQ.ret | apply blockQ.here | (apply blockQ_there; exact rfl) | apply ef_block | apply ef_skip | (apply ef_condt; exact rfl; (first | exact (rfl : true = true) | assumption | exact decide_eq_true (by omega))) | (apply ef_condf; exact rfl; (first | exact (rfl : false = false) | assumption | exact decide_eq_false (by omega))) | (apply ef_call; exact rfl; ((repeat (apply XVs.cons; exact rfl)); exact XVs.nil); (with_reducible first | exact aw _ | exact q1 _ | exact q2 _ | exact q3 _)))
  (refine fin1 rfl (by exact rfl) rfl ?_)
  rfl
end Go.Proofs.YtnmgpbihknjdjaaGreatDoor

/- TargetHonest: from values of the small language to the program's. -/
namespace Go.Proofs.YtnmgpbihknjdjaaGreatDoor
open Go.ChangeShapes Go.WideShapes Go.ChangeAt Go.RowKit
def honestShs : List Sh := [.slice pdSh, i64Sh, i64Sh]
theorem honest_runs (ms : List MV) (h : FitsL honestShs ms) : runZ MT (orA 14) (itA 14) 4000000 12 ms [] = some (.lit (.bool true), []) := by
 obtain ⟨m1, r1, rfl, h1, h⟩ := fitsL_cons h
 obtain ⟨m2, r2, rfl, h2, h⟩ := fitsL_cons h
 obtain ⟨m3, r3, rfl, h3, h⟩ := fitsL_cons h
 obtain rfl := fitsL_nil h
 obtain ⟨l, rfl, q1⟩ := fits_list encPd (fun m h => fits_pd h) h1
 obtain ⟨a, rfl, -⟩ := fits_i64r h2
 obtain ⟨b, rfl, -⟩ := fits_i64r h3
 exact TargetHonest_z l a b (by omega)
set_option maxRecDepth 100000 in
theorem honest_lifted (os : Os) (started : os.Started) (H : Type) (enc : TypeId × Value → H) :
  ReturnsInHanded {} Tryz.checked os 12 .any (fun w args => (Rows.targetHonestSpec.pre enc Tryz.prog Tryz.f12 [] false w args ∧ laidMetH Tryz.prog Rows.targetHonestRow.laid w) ∧ sizedMet enc Tryz.prog Tryz.f12 (OpenSpec.ofChange Rows.targetHonestSpec) false w args)
   (Rows.targetHonestSpec.post enc Tryz.prog Tryz.f12 false true false false) := by
 refine returnsInHanded_of_change_and (C := Tryz.checked) (X := fun w _ => laidMetH Tryz.prog Rows.targetHonestRow.laid w) (fun _ _ _ hh h => h.of_heap hh) Tryz.own started (by kernel_rfl) Tryz.func12
  (ChangeSpec.witness_shaped (enc := enc) (C := Tryz.checked) (os := os) (X := fun w _ => laidMetH Tryz.prog Rows.targetHonestRow.laid w) false (World.doorLaid Tryz.prog 200 os) #[.slice none 0 0, .int .i64 0, .int .i64 0] 8 rfl (World.shaped_of_RefB (by kernel_rfl) (by kernel_rfl)) (by kernel_rfl) (by kernel_rfl) (by kernel_rfl)
   (laidMetH_of_parts3 (fuel := 8) (laidMet_of_run' 8 (by kernel_rfl) (by kernel_rfl)) (by kernel_rfl) (by kernel_rfl))) ?_
 intro W base args ds gs before hval hW _ _ hL _
 exact law_contractT (orZ_ok (by kernel_rfl) (tabOf_ok Tryz.prog) tA_ok (tI_ok) 14) honestShs (by kernel_rfl) (by kernel_rfl) rfl rfl (fun ds h => by match ds, h with | [_, _, _], _ => exact ⟨rfl, rfl, rfl⟩) honest_runs W base args ds gs before hval hW
  (tabs_laid hL (List.mem_cons_of_mem _ (List.mem_cons_self ..)))
end Go.Proofs.YtnmgpbihknjdjaaGreatDoor

/- Facts of the whole program that each row asks for. -/
namespace Go.Proofs.YtnmgpbihknjdjaaGreatDoor
open Go
theorem jfA : laidOutB Tryz.pinned.checked.prog = true := by kernel_rfl
theorem jfB : mapsRowed Tryz.pinned.checked.prog = true := by kernel_rfl
theorem jfC : (Tryz.pinned.checked.prog.stops == []) = true := by kernel_rfl
theorem jfD : (Tryz.pinned.checked.prog.stopKnobs == []) = true := by kernel_rfl
theorem jfE : Tryz.pinned.checked.prog.stopsHeard = true := by kernel_rfl
theorem jfF : Tryz.pinned.checked.prog.mayEnter = true := by kernel_rfl
theorem jfG : (false == Tryz.pinned.checked.prog.plainKeys) = true := by kernel_rfl
theorem and_t {a b : Bool} (h : a = true) (g : b = true) : (a && b) = true := by rw [h, g]; rfl
end Go.Proofs.YtnmgpbihknjdjaaGreatDoor

/- The row of TargetHonest. -/
namespace Go.Proofs.YtnmgpbihknjdjaaGreatDoor
open Go Go.ChangeShapes Go.WideShapes Go.ChangeAt Go.RowKit
set_option linter.unusedVariables false
theorem jfhonest_0 : Rows.targetHonestRow.wf (OpenSpec.ofChange Rows.targetHonestSpec) = true := by kernel_rfl
theorem jfhonest_3 : Tryz.f12.params.all (Tryz.pinned.checked.prog.readableRec ·) = true := by kernel_rfl
theorem jfhonest_4 : namedTie Tryz.pinned.checked.prog Rows.targetHonestRow.named Rows.targetHonestSpec.vars = true := by kernel_rfl
theorem jfhonest_5 : (Rows.targetHonestRow.stops == []) = true := by kernel_rfl
theorem jfhonest_7 : (Rows.targetHonestRow.knobs == []) = true := by kernel_rfl
theorem jfhonest_9 : (Rows.targetHonestRow.inPlace == Tryz.pinned.checked.prog.inPlace 12) = true := by kernel_rfl
theorem jfhonest_10 : (Rows.targetHonestRow.unfollowed == Tryz.pinned.checked.prog.unfollowed 12) = true := by kernel_rfl
theorem jfhonest_11 : (Rows.targetHonestRow.recurses == Tryz.pinned.checked.prog.recurses 12) = true := by kernel_rfl
theorem jfhonest_12 : (Rows.targetHonestRow.named == Tryz.pinned.checked.prog.varsNamed 12) = true := by kernel_rfl
theorem jfhonest_13 : (Rows.targetHonestRow.maps == (Tryz.f12.params.toList ++ Rows.targetHonestSpec.plain.varTypes Tryz.pinned.checked.prog).any (Tryz.pinned.checked.prog.mapsRec ·)) = true := by kernel_rfl
theorem jfhonest_14 : (Rows.targetHonestRow.ifaces == (Tryz.f12.params.toList ++ Rows.targetHonestSpec.plain.varTypes Tryz.pinned.checked.prog).any (Tryz.pinned.checked.prog.ifacesRec ·)) = true := by kernel_rfl
theorem jfhonest_15 : (Rows.targetHonestRow.mapsOut == Tryz.pinned.checked.prog.mapsAmong Tryz.f12.resultTypes.toList) = true := by kernel_rfl
theorem jfhonest_16 : (Rows.targetHonestRow.loops == (Tryz.f12.params.toList ++ Rows.targetHonestSpec.plain.varTypes Tryz.pinned.checked.prog).any (Tryz.pinned.checked.prog.loopsFrom ·)) = true := by kernel_rfl
theorem jfhonest_17 : (Rows.targetHonestRow.wideKeys == (Tryz.f12.params.toList ++ Rows.targetHonestSpec.plain.varTypes Tryz.pinned.checked.prog ++ Tryz.f12.resultTypes.toList).any (Tryz.pinned.checked.prog.wideKeysFrom ·)) = true := by kernel_rfl
theorem jfhonest_18 : Rows.targetHonestSpec.vars.all (Tryz.pinned.checked.prog.varReadable ·) = true := by kernel_rfl
theorem jfhonest_19 : Tryz.f12.resultTypes.all (fun t => Tryz.pinned.checked.prog.readableRec t && decide (t < Tryz.pinned.checked.prog.types.size)) = true := by kernel_rfl
theorem jfhonest_20 : (Rows.targetHonestRow.ifacesOut == Tryz.f12.resultTypes.toList.any (Tryz.pinned.checked.prog.ifacesRec ·)) = true := by kernel_rfl
theorem jfhonest_21 : (Rows.targetHonestRow.loopsOut == Tryz.f12.resultTypes.toList.any (Tryz.pinned.checked.prog.loopsFrom ·)) = true := by kernel_rfl
theorem jfhonest_23 : Rows.targetHonestRow.shortTexts.isNone = true := by kernel_rfl
theorem jfhonest_26 : (Rows.targetHonestRow.lifted == Tryz.pinned.checked.prog.liftsFinal) = true := by kernel_rfl
theorem jfhonest_27 : (Tryz.pinned.checked.prog.make == some Rows.targetHonestRow.make) = true := by kernel_rfl
theorem jfhonest_29 : (Rows.targetHonestRow.pinned == Rows.targetHonestRow.pinnedBy) = true := by kernel_rfl
theorem jfhonest_30 : (Rows.targetHonestRow.veiled == (Tryz.f12.params.toList ++ Rows.targetHonestSpec.plain.varTypes Tryz.pinned.checked.prog ++ Tryz.f12.resultTypes.toList).any (Tryz.pinned.checked.prog.veiledRec ·)) = true := by kernel_rfl
theorem jfhonest_31 : Rows.targetHonestRow.veiledFits Tryz.pinned.checked.prog Tryz.f12.params.toList (Tryz.f12.params.toList ++ Rows.targetHonestSpec.plain.varTypes Tryz.pinned.checked.prog ++ Tryz.f12.resultTypes.toList) = true := by kernel_rfl
theorem jfhonest : joinedFacts Tryz.pinned.checked.prog 12 Tryz.f12 Rows.targetHonestSpec Rows.targetHonestRow = true := by
 unfold joinedFacts
 refine and_t (and_t (and_t (and_t (and_t (and_t (and_t (and_t (and_t (and_t (and_t (and_t (and_t (and_t (and_t (and_t (and_t (and_t (and_t (and_t (and_t (and_t (and_t (and_t (and_t (and_t (and_t (and_t (and_t (and_t (and_t jfhonest_0 jfA) jfB) jfhonest_3) jfhonest_4) jfhonest_5) jfC) jfhonest_7) jfD) jfhonest_9) jfhonest_10) jfhonest_11) jfhonest_12) jfhonest_13) jfhonest_14) jfhonest_15) jfhonest_16) jfhonest_17) jfhonest_18) jfhonest_19) jfhonest_20) jfhonest_21) jfG) jfhonest_23) jfE) jfF) jfhonest_26) jfhonest_27) (by kernel_rfl)) jfhonest_29) jfhonest_30) jfhonest_31
theorem targetHonest_row : Rows.targetHonestRow.holds Tryz.pinned (OpenSpec.ofChange Rows.targetHonestSpec) :=
 OpenClaim.holds_of_wide 12 Tryz.f12 rfl rfl rfl rfl rfl rfl rfl ⟨rfl, rfl, rfl, rfl, rfl⟩ rfl rfl rfl rfl rfl (by kernel_rfl) Tryz.func12 jfhonest
  (of_decide_eq_true (by kernel_rfl)) (by unfold Func.isWrapper; rw [if_neg (of_decide_eq_false (by kernel_rfl))]; exact ⟨rfl, rfl⟩)
  (fun os started H enc _ => honest_lifted os started H enc)
end Go.Proofs.YtnmgpbihknjdjaaGreatDoor
