/- Distances, forces: plain laws (no program). -/
import Derived.Test.YtgjpdjihjphbdaaForcesProofsPd
/- Contracts: the neighbours of a node. -/
namespace Go.Proofs.Ytgjpdjihjphbdaa
open Go.RowKit
set_option linter.unusedVariables false

def nbS (t : Tk) (y x : Nat) : Nat → List (Nat × Nat)
  | 0 => if t.rows.contains (y : Int) then (if x + 1 < t.W then [(y, x + 1)] else []) else []
  | 1 => if t.rows.contains (y : Int) then (if 0 < x then [(y, x - 1)] else []) else []
  | 2 => if t.ties.contains (x : Int) then (if y + 1 < t.ter.length then [(y + 1, x)] else []) else []
  | _ => if t.ties.contains (x : Int) then (if 0 < y then [(y - 1, x)] else []) else []
def nbU (t : Tk) (y x i : Nat) : List (Nat × Nat) := (List.range i).flatMap (nbS t y x)
theorem nbU_succ (t : Tk) (y x i : Nat) : nbU t y x (i + 1) = nbU t y x i ++ nbS t y x i := by
  unfold nbU
  rw [List.range_succ, List.flatMap_append]; simp
theorem nbU_four (t : Tk) (y x : Nat) : nbU t y x 4 = t.nbL y x := by
  rw [nbU_succ, nbU_succ, nbU_succ, nbU_succ]
  have h0 : nbU t y x 0 = [] := rfl
  rw [h0, List.nil_append]
  unfold Tk.nbL
  simp only [nbS]
  cases t.rows.contains (y : Int) <;> cases t.ties.contains (x : Int) <;> simp [Tk.H] <;> rfl
abbrev obN (dx dy x y : Int) : MHeap := [⟨0, false, 2, [posI dx dy]⟩, ⟨0, false, 2, [posI (x + dx) (y + dy)]⟩]
def hpN (x y : Int) : Nat → MHeap
  | 0 => []
  | 1 => obN 1 0 x y
  | 2 => obN 1 0 x y ++ obN (-1) 0 x y
  | 3 => obN 1 0 x y ++ obN (-1) 0 x y ++ obN 0 1 x y
  | _ => obN 1 0 x y ++ obN (-1) 0 x y ++ obN 0 1 x y ++ obN 0 (-1) x y
abbrev stepsM : MV := .agg [I64 1, I64 0, I64 (-1), I64 0, I64 0, I64 1, I64 0, I64 (-1)]
theorem mf_neighbours1 : MT.mf 167 = some ⟨64, [], (.seq (.reg [⟨none, (some 8), (.build [(.lit (.int .i64 0)), (.lit (.int .i64 0))] [(0, (1, (.c (.lit (.int .i64 1)))))])⟩, ⟨none, (some 9), (.build [(.lit (.int .i64 0)), (.lit (.int .i64 0))] [(0, (1, (.c (.lit (.int .i64 (-1))))))])⟩, ⟨none, (some 10), (.build [(.lit (.int .i64 0)), (.lit (.int .i64 0))] [(1, (1, (.c (.lit (.int .i64 1)))))])⟩, ⟨none, (some 11), (.build [(.lit (.int .i64 0)), (.lit (.int .i64 0))] [(1, (1, (.c (.lit (.int .i64 (-1))))))])⟩, ⟨none, (some 12), (.build [(.lit (.int .i64 0)), (.lit (.int .i64 0)), (.lit (.int .i64 0)), (.lit (.int .i64 0)), (.lit (.int .i64 0)), (.lit (.int .i64 0)), (.lit (.int .i64 0)), (.lit (.int .i64 0))] [(0, (2, (.s 8))), (2, (2, (.s 9))), (4, (2, (.s 10))), (6, (2, (.s 11)))])⟩, ⟨none, (some 13), (.mv (.c (.lit (.int .i64 0))))⟩]) (.block 0 (.loop [13, 12, 1, 2, 0] (.seq (.reg [⟨none, (some 14), (.bin .lss (.s 13) (.c (.lit (.int .i64 4))))⟩]) (.seq (.cond (.s 14) .skip (.exit 0)) (.seq (.block 1 (.seq (.reg [⟨none, (some 15), (.ix (some 2) 2 4 (.s 12) (.s 13))⟩, ⟨none, (some 5), (.new (.agg [(.lit (.int .i64 0)), (.lit (.int .i64 0))]))⟩, ⟨none, none, (.st 2 (.s 5) (.s 15))⟩]) (.seq (.reg [⟨none, (some 16), (.fa 0 (.s 1))⟩, ⟨none, (some 17), (.ld none (.s 16))⟩, ⟨none, (some 18), (.fa 0 (.s 5))⟩, ⟨none, (some 19), (.ld none (.s 18))⟩, ⟨none, (some 20), (.bin .add (.s 17) (.s 19))⟩, ⟨none, (some 21), (.fa 1 (.s 1))⟩, ⟨none, (some 22), (.ld none (.s 21))⟩, ⟨none, (some 23), (.fa 1 (.s 5))⟩, ⟨none, (some 24), (.ld none (.s 23))⟩, ⟨none, (some 25), (.bin .add (.s 22) (.s 24))⟩, ⟨none, (some 26), (.build [(.lit (.int .i64 0)), (.lit (.int .i64 0))] [(0, (1, (.s 20))), (1, (1, (.s 25)))])⟩, ⟨none, (some 6), (.new (.agg [(.lit (.int .i64 0)), (.lit (.int .i64 0))]))⟩, ⟨none, none, (.st 2 (.s 6) (.s 26))⟩]) (.seq (.reg [⟨none, (some 27), (.fa 0 (.s 5))⟩, ⟨none, (some 28), (.ld none (.s 27))⟩, ⟨none, (some 29), (.bin .neq (.s 28) (.c (.lit (.int .i64 0))))⟩, ⟨none, (some 30), (.mv (.s 29))⟩, ⟨(some (30, true)), (some 31), (.fa 7 (.s 2))⟩, ⟨(some (30, true)), (some 32), (.ld none (.s 31))⟩, ⟨(some (30, true)), (some 33), (.fa 1 (.s 1))⟩, ⟨(some (30, true)), (some 34), (.ld none (.s 33))⟩, ⟨(some (30, true)), (some 35), (.ia 1 (.s 32) (.s 34))⟩, ⟨(some (30, true)), (some 36), (.ld none (.s 35))⟩, ⟨none, (some 37), (.pick (.s 30) (.s 36) (.c (.lit (.bool false))))⟩, ⟨none, (some 38), (.mv (.s 37))⟩, ⟨(some (38, false)), (some 39), (.fa 1 (.s 5))⟩, ⟨(some (38, false)), (some 40), (.ld none (.s 39))⟩, ⟨(some (38, false)), (some 41), (.bin .neq (.s 40) (.c (.lit (.int .i64 0))))⟩, ⟨(some (38, false)), (some 42), (.mv (.s 41))⟩, ⟨(some (42, true)), (some 43), (.fa 8 (.s 2))⟩, ⟨(some (42, true)), (some 44), (.ld none (.s 43))⟩, ⟨(some (42, true)), (some 45), (.fa 0 (.s 1))⟩, ⟨(some (42, true)), (some 46), (.ld none (.s 45))⟩, ⟨(some (42, true)), (some 47), (.ia 1 (.s 44) (.s 46))⟩, ⟨(some (42, true)), (some 48), (.ld none (.s 47))⟩, ⟨(some (38, false)), (some 49), (.pick (.s 42) (.s 48) (.c (.lit (.bool false))))⟩, ⟨none, (some 50), (.pick (.s 38) (.c (.lit (.bool true))) (.s 49))⟩, ⟨none, (some 7), (.mv (.s 50))⟩]) (.seq (.reg [⟨none, (some 51), (.mv (.s 7))⟩, ⟨none, (some 52), (.mv (.s 51))⟩, ⟨(some (52, true)), (some 53), (.ld (some 9) (.s 2))⟩, ⟨(some (52, true)), (some 54), (.ld (some 2) (.s 6))⟩, ⟨(some (52, true)), (some 55), (.call 155 [(.s 53), (.s 54)])⟩, ⟨none, (some 56), (.pick (.s 52) (.s 55) (.c (.lit (.bool false))))⟩, ⟨none, (some 57), (.mv (.s 56))⟩, ⟨(some (57, true)), (some 58), (.mv (.s 0))⟩, ⟨(some (57, true)), (some 59), (.ld (some 2) (.s 6))⟩, ⟨(some (57, true)), (some 60), (.callv (.s 58) [(.s 59)])⟩, ⟨(some (57, true)), (some 61), (.un .not (.s 60))⟩, ⟨none, (some 62), (.pick (.s 57) (.s 61) (.c (.lit (.bool false))))⟩]) (.cond (.s 62) .ret .skip)))))) (.reg [⟨none, (some 63), (.bin .add (.s 13) (.c (.lit (.int .i64 1))))⟩, ⟨none, (some 13), (.mv (.s 63))⟩])))))))⟩ := by kernel_rfl
set_option maxHeartbeats 2000000 in
theorem neighbours1_it (k : Nat) (t : Tk) (ok : OkT t) {y x : Nat} (hy : y < t.ter.length) (hx : x < t.W) (h : MHeap) : itA (k + 2) 167 0 [.rp (posM (y, x)) 0, .rp (encO t) 0] h = some (posY (t.nbL y x)) := by
  obtain ⟨h1, h2⟩ := ok.h1
  obtain ⟨w1, w2⟩ := ok.w1
  have hlt := encO_lt t 0
  have e1 : (bRow t.ter.length t.rows)[((y : Nat) : Int).toNat]? = some (Bo (t.rows.contains (y : Int))) := bRow_at hy
  have e2 : (bRow t.W t.ties)[((x : Nat) : Int).toNat]? = some (Bo (t.ties.contains (x : Int))) := bRow_at hx
  refine itA_of mf_neighbours1 (by kernel_rfl) (itM_of (cs := [.rp (posM (y, x)) 0, .rp (encO t) 0]) (by simp only [List.mapM_cons, List.mapM_nil]; simp [frz, MV.lt, ltL, ltL_I, ltL_W, ltL_B]) (by simp) ?_ ?_)
  · show EfI _ _ _ _ (argsL 0 [.yld, .rp (posM (y, x)) 0, .rp (encO t) 0]) _ _ _ _ _
    simp only [argsL]
    repeat (first | apply efi_seq | apply efi_block | apply seqI.normal | (apply efi_reg; exact rfl) | (apply ef_mv; exact rfl; exact rfl) | (apply ef_build; exact rfl; (repeat (apply XVs.cons; exact rfl)); exact XVs.nil; exact rfl; exact rfl) | apply ef_nil)
    refine efi_loop (α := Nat × Nat) (fun s => s.1 ≤ 4 ∧ s.2 ≤ 2 * s.1) (fun s => [(13, I64 (s.1 : Int)), (12, stepsM), (1, .rp (posM (y, x)) 0), (2, .rp (encO t) 0), (0, .yld)]) (fun s => hpN (x : Int) (y : Int) s.1) (fun s => s.2) (fun s => posY (nbU t y x s.1)) (fun s => 4 - s.1) (0, 0) (by simp) (by simp) (by ((repeat (refine Hold.cons (by exact rfl) ?_)); exact Hold.nil)) rfl rfl rfl ?_
    rintro ⟨i, ln⟩ ⟨hi, hln⟩
    simp only at hi hln ⊢
    match i, hi, hln with
    | 0, hi, hln =>
      have HS := nbU_succ t y x 0
      have hS : nbS t y x 0 = if t.rows.contains (y : Int) then (if x + 1 < t.W then [(y, x + 1)] else []) else [] := rfl
      generalize hp : t.rows.contains (y : Int) = b at *
      repeat (first | apply efi_seq | apply efi_block | apply efi_skip | apply seqI.normal | (apply efi_reg; exact rfl) | (apply efi_condt; exact rfl; (exact rfl)) | (apply ef_bin; exact rfl; exact rfl; exact rfl; (exact cmp_t rfl (by first | exact rfl | (simp only [cmpP]; omega)))) | apply ef_nil)
      (apply ef_ix; (· exact rfl); (· exact rfl); (· exact rfl); (· omega); (· omega); (· exact rd_2 rfl rfl))
      repeat (first | (apply ef_new; exact rfl))
      try (apply ef_st; (· exact rfl); (· exact rfl); (· exact rfl); (· exact rfl); (· exact rfl); (· exact decide_eq_false (by show ¬ 0 < ln; omega)); (· exact rfl); (· exact rfl))
      repeat (first | apply efi_seq | apply seqI.normal | (apply efi_reg; exact rfl) | (apply ef_bin; exact rfl; exact rfl; exact rfl; (((with_reducible refine bin_add (wrap_of ?_ ?_)) <;> omega))) | (apply ef_ldr; exact rfl; exact rfl; (exact rfl)) | (apply ef_ldp; exact rfl; exact rfl; exact rfl; exact rfl; (exact rfl); (exact rfl)) | (apply ef_fap; exact rfl; exact rfl) | (apply ef_far; exact rfl; exact rfl) | (apply ef_new; exact rfl) | (apply ef_build; exact rfl; (repeat (apply XVs.cons; exact rfl)); exact XVs.nil; exact rfl; exact rfl) | apply ef_nil)
      try (apply ef_st; (· exact rfl); (· exact rfl); (· exact rfl); (· exact rfl); (· exact rfl); (· exact decide_eq_false (by show ¬ 1 < ln; omega)); (· exact rfl); (· exact rfl))
      cases b
      · rw [show nbS t y x 0 = [] from hS, List.append_nil] at HS
        repeat (first | apply efi_seq | apply efi_skip | apply seqI.normal | apply blockI.normal | (apply efi_reg; exact rfl) | (apply efi_regy; exact rfl) | apply efy_nil | (apply efy_op; exact rfl) | (apply efy_skip; exact rfl; exact rfl; exact rfl) | (apply efi_condf; exact rfl; (exact rfl)) | (apply ef_mv; exact rfl; exact rfl) | (apply ef_bin; exact rfl; exact rfl; exact rfl; (first | exact cmp_t rfl (by first | exact rfl | (simp only [cmpP]; omega)) | exact cmp_f rfl (by simp only [cmpP]; omega) | ((with_reducible refine bin_add (wrap_of ?_ ?_)) <;> omega))) | (apply ef_gy; exact rfl; (first | exact (rfl : true = true) | exact (rfl : false = false))) | (apply ef_gn; exact rfl; (exact (rfl : false = false)); exact rfl) | (apply ef_pick; exact rfl; exact rfl; exact rfl) | (apply ef_ldr; exact rfl; exact rfl; (exact rfl)) | (apply ef_ldp; exact rfl; exact rfl; exact rfl; exact rfl; (exact rfl); (exact rfl)) | (apply ef_ias; exact rfl; exact rfl; exact rfl; (omega); assumption; exact rfl) | (apply ef_fap; exact rfl; exact rfl) | (apply ef_far; exact rfl; exact rfl) | apply ef_nil)
        (refine loopI.normal _ _ _ _ _ ⟨rfl, (0 + 1, ln), ⟨by simp only; omega, by first | (simp only; omega) | omega⟩, (by first | (simp only; omega) | omega), by ((repeat (refine Hold.cons (by exact rfl) ?_)); exact Hold.nil), rfl, rfl, (by rw [HS])⟩)
      · by_cases hc : x + 1 < t.W
        · have hn := fun h => isNode_c k t ((x : Int) + 1) ((y : Int) + 0) h (b := true) (by omega) (by omega) (by rw [Bool.and_eq_true, inB_iff, inB_iff]; omega)
          have hq : posI ((x : Int) + 1) ((y : Int) + 0) = posM (y, x + 1) := by
            rw [show ((x : Int) + 1) = (((y, x + 1).2 : Nat) : Int) by simp only; omega, show ((y : Int) + 0) = (((y, x + 1).1 : Nat) : Int) by simp only; omega]
          rw [if_pos rfl, if_pos hc] at hS
          rw [hS] at HS
          repeat (first | apply efi_seq | apply seqI.normal | (apply efi_reg; exact rfl) | (apply efi_regy; exact rfl) | (apply efy_op; exact rfl) | (apply ef_mv; exact rfl; exact rfl) | (apply ef_bin; exact rfl; exact rfl; exact rfl; (exact cmp_t rfl (by first | exact rfl | (simp only [cmpP]; omega)))) | (apply ef_gy; exact rfl; (exact (rfl : true = true))) | (apply ef_gn; exact rfl; (exact (rfl : true = true)); exact rfl) | (apply ef_gu; exact rfl; exact rfl) | (apply ef_pick; exact rfl; exact rfl; exact rfl) | (apply ef_ldr; exact rfl; exact rfl; (first | exact rd_whole rfl | exact rfl)) | (apply ef_ldp; exact rfl; exact rfl; exact rfl; exact rfl; (exact rfl); (first | exact rd_2 rfl rfl | exact rfl)) | (apply ef_ias; exact rfl; exact rfl; exact rfl; (omega); assumption; exact rfl) | (apply ef_fap; exact rfl; exact rfl) | (apply ef_far; exact rfl; exact rfl) | apply ef_nil | (apply ef_call; exact rfl; ((repeat (apply XVs.cons; exact rfl)); exact XVs.nil); (with_reducible exact hn _)))
          (apply efy_yield; (· exact rfl); (· exact rfl); (· exact rfl); (· ((repeat (apply XVs.cons; exact rfl)); exact XVs.nil)); (· exact rfl))
          · repeat (first | apply efi_skip | apply seqI.normal | apply blockI.normal | (apply efi_reg; exact rfl) | apply efy_nil | (apply efy_op; exact rfl) | (apply efi_condf; exact rfl; (exact rfl)) | (apply ef_mv; exact rfl; exact rfl) | (apply ef_bin; exact rfl; exact rfl; exact rfl; (((with_reducible refine bin_add (wrap_of ?_ ?_)) <;> omega))) | (apply ef_gy; exact rfl; (exact (rfl : true = true))) | (apply ef_pick; exact rfl; exact rfl; exact rfl) | (apply ef_notT; exact rfl; exact rfl) | apply ef_nil)
            (refine loopI.normal _ _ _ _ _ ⟨rfl, (0 + 1, 2 * (0 + 1)), ⟨by simp only; omega, by first | (simp only; omega) | omega⟩, (by first | (simp only; omega) | omega), by ((repeat (refine Hold.cons (by exact rfl) ?_)); exact Hold.nil), rfl, rfl, (by rw [HS, posY_app]; simp only [posY, List.map_cons, List.map_nil]; rw [← hq])⟩)
          · repeat (first | apply efi_ret | apply seqI.normal | apply seqI.ret | apply blockI.ret | apply efy_nil | (apply efy_op; exact rfl) | (apply efi_condt; exact rfl; (exact rfl)) | apply loopI.ret | (apply ef_gy; exact rfl; (exact (rfl : true = true))) | (apply ef_pick; exact rfl; exact rfl; exact rfl) | (apply ef_notF; exact rfl; exact rfl) | apply ef_nil)
            exact finI_stop rfl
        · have hn := fun h => isNode_c k t ((x : Int) + 1) ((y : Int) + 0) h (b := false) (by omega) (by omega) (by rw [Bool.eq_false_iff, ne_eq, Bool.and_eq_true, inB_iff, inB_iff]; omega)
          rw [if_pos rfl, if_neg hc] at hS
          rw [hS, List.append_nil] at HS
          repeat (first | apply efi_seq | apply efi_skip | apply seqI.normal | apply blockI.normal | (apply efi_reg; exact rfl) | (apply efi_regy; exact rfl) | apply efy_nil | (apply efy_op; exact rfl) | (apply efy_skip; exact rfl; exact rfl; exact rfl) | (apply efi_condf; exact rfl; (exact rfl)) | (apply ef_mv; exact rfl; exact rfl) | (apply ef_bin; exact rfl; exact rfl; exact rfl; (first | exact cmp_t rfl (by first | exact rfl | (simp only [cmpP]; omega)) | ((with_reducible refine bin_add (wrap_of ?_ ?_)) <;> omega))) | (apply ef_gy; exact rfl; (exact (rfl : true = true))) | (apply ef_gn; exact rfl; (first | exact (rfl : true = true) | exact (rfl : false = false)); exact rfl) | (apply ef_gu; exact rfl; exact rfl) | (apply ef_pick; exact rfl; exact rfl; exact rfl) | (apply ef_ldr; exact rfl; exact rfl; (first | exact rd_whole rfl | exact rfl)) | (apply ef_ldp; exact rfl; exact rfl; exact rfl; exact rfl; (exact rfl); (first | exact rd_2 rfl rfl | exact rfl)) | (apply ef_ias; exact rfl; exact rfl; exact rfl; (omega); assumption; exact rfl) | (apply ef_fap; exact rfl; exact rfl) | (apply ef_far; exact rfl; exact rfl) | apply ef_nil | (apply ef_call; exact rfl; ((repeat (apply XVs.cons; exact rfl)); exact XVs.nil); (with_reducible exact hn _)))
          (refine loopI.normal _ _ _ _ _ ⟨rfl, (0 + 1, ln), ⟨by simp only; omega, by first | (simp only; omega) | omega⟩, (by first | (simp only; omega) | omega), by ((repeat (refine Hold.cons (by exact rfl) ?_)); exact Hold.nil), rfl, rfl, (by rw [HS])⟩)
    | 1, hi, hln =>
      have HS := nbU_succ t y x 1
      have hS : nbS t y x 1 = if t.rows.contains (y : Int) then (if 0 < x then [(y, x - 1)] else []) else [] := rfl
      generalize hp : t.rows.contains (y : Int) = b at *
      repeat (first | apply efi_seq | apply efi_block | apply efi_skip | apply seqI.normal | (apply efi_reg; exact rfl) | (apply efi_condt; exact rfl; (exact rfl)) | (apply ef_bin; exact rfl; exact rfl; exact rfl; (exact cmp_t rfl (by first | exact rfl | (simp only [cmpP]; omega)))) | apply ef_nil)
      (apply ef_ix; (· exact rfl); (· exact rfl); (· exact rfl); (· omega); (· omega); (· exact rd_2 rfl rfl))
      repeat (first | (apply ef_new; exact rfl))
      try (apply ef_st; (· exact rfl); (· exact rfl); (· exact rfl); (· exact rfl); (· exact rfl); (· exact decide_eq_false (by show ¬ 2 < ln; omega)); (· exact rfl); (· exact rfl))
      repeat (first | apply efi_seq | apply seqI.normal | (apply efi_reg; exact rfl) | (apply ef_bin; exact rfl; exact rfl; exact rfl; (((with_reducible refine bin_add (wrap_of ?_ ?_)) <;> omega))) | (apply ef_ldr; exact rfl; exact rfl; (exact rfl)) | (apply ef_ldp; exact rfl; exact rfl; exact rfl; exact rfl; (exact rfl); (exact rfl)) | (apply ef_fap; exact rfl; exact rfl) | (apply ef_far; exact rfl; exact rfl) | (apply ef_new; exact rfl) | (apply ef_build; exact rfl; (repeat (apply XVs.cons; exact rfl)); exact XVs.nil; exact rfl; exact rfl) | apply ef_nil)
      try (apply ef_st; (· exact rfl); (· exact rfl); (· exact rfl); (· exact rfl); (· exact rfl); (· exact decide_eq_false (by show ¬ 3 < ln; omega)); (· exact rfl); (· exact rfl))
      cases b
      · rw [show nbS t y x 1 = [] from hS, List.append_nil] at HS
        repeat (first | apply efi_seq | apply efi_skip | apply seqI.normal | apply blockI.normal | (apply efi_reg; exact rfl) | (apply efi_regy; exact rfl) | apply efy_nil | (apply efy_op; exact rfl) | (apply efy_skip; exact rfl; exact rfl; exact rfl) | (apply efi_condf; exact rfl; (exact rfl)) | (apply ef_mv; exact rfl; exact rfl) | (apply ef_bin; exact rfl; exact rfl; exact rfl; (first | exact cmp_t rfl (by first | exact rfl | (simp only [cmpP]; omega)) | exact cmp_f rfl (by simp only [cmpP]; omega) | ((with_reducible refine bin_add (wrap_of ?_ ?_)) <;> omega))) | (apply ef_gy; exact rfl; (first | exact (rfl : true = true) | exact (rfl : false = false))) | (apply ef_gn; exact rfl; (exact (rfl : false = false)); exact rfl) | (apply ef_pick; exact rfl; exact rfl; exact rfl) | (apply ef_ldr; exact rfl; exact rfl; (exact rfl)) | (apply ef_ldp; exact rfl; exact rfl; exact rfl; exact rfl; (exact rfl); (exact rfl)) | (apply ef_ias; exact rfl; exact rfl; exact rfl; (omega); assumption; exact rfl) | (apply ef_fap; exact rfl; exact rfl) | (apply ef_far; exact rfl; exact rfl) | apply ef_nil)
        (refine loopI.normal _ _ _ _ _ ⟨rfl, (1 + 1, ln), ⟨by simp only; omega, by first | (simp only; omega) | omega⟩, (by first | (simp only; omega) | omega), by ((repeat (refine Hold.cons (by exact rfl) ?_)); exact Hold.nil), rfl, rfl, (by rw [HS])⟩)
      · by_cases hc : 0 < x
        · have hn := fun h => isNode_c k t ((x : Int) + (-1)) ((y : Int) + 0) h (b := true) (by omega) (by omega) (by rw [Bool.and_eq_true, inB_iff, inB_iff]; omega)
          have hq : posI ((x : Int) + (-1)) ((y : Int) + 0) = posM (y, x - 1) := by
            rw [show ((x : Int) + (-1)) = (((y, x - 1).2 : Nat) : Int) by simp only; omega, show ((y : Int) + 0) = (((y, x - 1).1 : Nat) : Int) by simp only; omega]
          rw [if_pos rfl, if_pos hc] at hS
          rw [hS] at HS
          repeat (first | apply efi_seq | apply seqI.normal | (apply efi_reg; exact rfl) | (apply efi_regy; exact rfl) | (apply efy_op; exact rfl) | (apply ef_mv; exact rfl; exact rfl) | (apply ef_bin; exact rfl; exact rfl; exact rfl; (exact cmp_t rfl (by first | exact rfl | (simp only [cmpP]; omega)))) | (apply ef_gy; exact rfl; (exact (rfl : true = true))) | (apply ef_gn; exact rfl; (exact (rfl : true = true)); exact rfl) | (apply ef_gu; exact rfl; exact rfl) | (apply ef_pick; exact rfl; exact rfl; exact rfl) | (apply ef_ldr; exact rfl; exact rfl; (first | exact rd_whole rfl | exact rfl)) | (apply ef_ldp; exact rfl; exact rfl; exact rfl; exact rfl; (exact rfl); (first | exact rd_2 rfl rfl | exact rfl)) | (apply ef_ias; exact rfl; exact rfl; exact rfl; (omega); assumption; exact rfl) | (apply ef_fap; exact rfl; exact rfl) | (apply ef_far; exact rfl; exact rfl) | apply ef_nil | (apply ef_call; exact rfl; ((repeat (apply XVs.cons; exact rfl)); exact XVs.nil); (with_reducible exact hn _)))
          (apply efy_yield; (· exact rfl); (· exact rfl); (· exact rfl); (· ((repeat (apply XVs.cons; exact rfl)); exact XVs.nil)); (· exact rfl))
          · repeat (first | apply efi_skip | apply seqI.normal | apply blockI.normal | (apply efi_reg; exact rfl) | apply efy_nil | (apply efy_op; exact rfl) | (apply efi_condf; exact rfl; (exact rfl)) | (apply ef_mv; exact rfl; exact rfl) | (apply ef_bin; exact rfl; exact rfl; exact rfl; (((with_reducible refine bin_add (wrap_of ?_ ?_)) <;> omega))) | (apply ef_gy; exact rfl; (exact (rfl : true = true))) | (apply ef_pick; exact rfl; exact rfl; exact rfl) | (apply ef_notT; exact rfl; exact rfl) | apply ef_nil)
            (refine loopI.normal _ _ _ _ _ ⟨rfl, (1 + 1, 2 * (1 + 1)), ⟨by simp only; omega, by first | (simp only; omega) | omega⟩, (by first | (simp only; omega) | omega), by ((repeat (refine Hold.cons (by exact rfl) ?_)); exact Hold.nil), rfl, rfl, (by rw [HS, posY_app]; simp only [posY, List.map_cons, List.map_nil]; rw [← hq])⟩)
          · repeat (first | apply efi_ret | apply seqI.normal | apply seqI.ret | apply blockI.ret | apply efy_nil | (apply efy_op; exact rfl) | (apply efi_condt; exact rfl; (exact rfl)) | apply loopI.ret | (apply ef_gy; exact rfl; (exact (rfl : true = true))) | (apply ef_pick; exact rfl; exact rfl; exact rfl) | (apply ef_notF; exact rfl; exact rfl) | apply ef_nil)
            exact finI_stop rfl
        · have hn := fun h => isNode_c k t ((x : Int) + (-1)) ((y : Int) + 0) h (b := false) (by omega) (by omega) (by rw [Bool.eq_false_iff, ne_eq, Bool.and_eq_true, inB_iff, inB_iff]; omega)
          rw [if_pos rfl, if_neg hc] at hS
          rw [hS, List.append_nil] at HS
          repeat (first | apply efi_seq | apply efi_skip | apply seqI.normal | apply blockI.normal | (apply efi_reg; exact rfl) | (apply efi_regy; exact rfl) | apply efy_nil | (apply efy_op; exact rfl) | (apply efy_skip; exact rfl; exact rfl; exact rfl) | (apply efi_condf; exact rfl; (exact rfl)) | (apply ef_mv; exact rfl; exact rfl) | (apply ef_bin; exact rfl; exact rfl; exact rfl; (first | exact cmp_t rfl (by first | exact rfl | (simp only [cmpP]; omega)) | ((with_reducible refine bin_add (wrap_of ?_ ?_)) <;> omega))) | (apply ef_gy; exact rfl; (exact (rfl : true = true))) | (apply ef_gn; exact rfl; (first | exact (rfl : true = true) | exact (rfl : false = false)); exact rfl) | (apply ef_gu; exact rfl; exact rfl) | (apply ef_pick; exact rfl; exact rfl; exact rfl) | (apply ef_ldr; exact rfl; exact rfl; (first | exact rd_whole rfl | exact rfl)) | (apply ef_ldp; exact rfl; exact rfl; exact rfl; exact rfl; (exact rfl); (first | exact rd_2 rfl rfl | exact rfl)) | (apply ef_ias; exact rfl; exact rfl; exact rfl; (omega); assumption; exact rfl) | (apply ef_fap; exact rfl; exact rfl) | (apply ef_far; exact rfl; exact rfl) | apply ef_nil | (apply ef_call; exact rfl; ((repeat (apply XVs.cons; exact rfl)); exact XVs.nil); (with_reducible exact hn _)))
          (refine loopI.normal _ _ _ _ _ ⟨rfl, (1 + 1, ln), ⟨by simp only; omega, by first | (simp only; omega) | omega⟩, (by first | (simp only; omega) | omega), by ((repeat (refine Hold.cons (by exact rfl) ?_)); exact Hold.nil), rfl, rfl, (by rw [HS])⟩)
    | 2, hi, hln =>
      have HS := nbU_succ t y x 2
      have hS : nbS t y x 2 = if t.ties.contains (x : Int) then (if y + 1 < t.ter.length then [(y + 1, x)] else []) else [] := rfl
      generalize hp : t.ties.contains (x : Int) = b at *
      repeat (first | apply efi_seq | apply efi_block | apply efi_skip | apply seqI.normal | (apply efi_reg; exact rfl) | (apply efi_condt; exact rfl; (exact rfl)) | (apply ef_bin; exact rfl; exact rfl; exact rfl; (exact cmp_t rfl (by first | exact rfl | (simp only [cmpP]; omega)))) | apply ef_nil)
      (apply ef_ix; (· exact rfl); (· exact rfl); (· exact rfl); (· omega); (· omega); (· exact rd_2 rfl rfl))
      repeat (first | (apply ef_new; exact rfl))
      try (apply ef_st; (· exact rfl); (· exact rfl); (· exact rfl); (· exact rfl); (· exact rfl); (· exact decide_eq_false (by show ¬ 4 < ln; omega)); (· exact rfl); (· exact rfl))
      repeat (first | apply efi_seq | apply seqI.normal | (apply efi_reg; exact rfl) | (apply ef_bin; exact rfl; exact rfl; exact rfl; (((with_reducible refine bin_add (wrap_of ?_ ?_)) <;> omega))) | (apply ef_ldr; exact rfl; exact rfl; (exact rfl)) | (apply ef_ldp; exact rfl; exact rfl; exact rfl; exact rfl; (exact rfl); (exact rfl)) | (apply ef_fap; exact rfl; exact rfl) | (apply ef_far; exact rfl; exact rfl) | (apply ef_new; exact rfl) | (apply ef_build; exact rfl; (repeat (apply XVs.cons; exact rfl)); exact XVs.nil; exact rfl; exact rfl) | apply ef_nil)
      try (apply ef_st; (· exact rfl); (· exact rfl); (· exact rfl); (· exact rfl); (· exact rfl); (· exact decide_eq_false (by show ¬ 5 < ln; omega)); (· exact rfl); (· exact rfl))
      cases b
      · rw [show nbS t y x 2 = [] from hS, List.append_nil] at HS
        repeat (first | apply efi_seq | apply efi_skip | apply seqI.normal | apply blockI.normal | (apply efi_reg; exact rfl) | (apply efi_regy; exact rfl) | apply efy_nil | (apply efy_op; exact rfl) | (apply efy_skip; exact rfl; exact rfl; exact rfl) | (apply efi_condf; exact rfl; (exact rfl)) | (apply ef_mv; exact rfl; exact rfl) | (apply ef_bin; exact rfl; exact rfl; exact rfl; (first | exact cmp_t rfl (by first | exact rfl | (simp only [cmpP]; omega)) | exact cmp_f rfl (by simp only [cmpP]; omega) | ((with_reducible refine bin_add (wrap_of ?_ ?_)) <;> omega))) | (apply ef_gy; exact rfl; (first | exact (rfl : true = true) | exact (rfl : false = false))) | (apply ef_gn; exact rfl; (exact (rfl : false = false)); exact rfl) | (apply ef_pick; exact rfl; exact rfl; exact rfl) | (apply ef_ldr; exact rfl; exact rfl; (exact rfl)) | (apply ef_ldp; exact rfl; exact rfl; exact rfl; exact rfl; (exact rfl); (exact rfl)) | (apply ef_ias; exact rfl; exact rfl; exact rfl; (omega); assumption; exact rfl) | (apply ef_fap; exact rfl; exact rfl) | (apply ef_far; exact rfl; exact rfl) | apply ef_nil)
        (refine loopI.normal _ _ _ _ _ ⟨rfl, (2 + 1, ln), ⟨by simp only; omega, by first | (simp only; omega) | omega⟩, (by first | (simp only; omega) | omega), by ((repeat (refine Hold.cons (by exact rfl) ?_)); exact Hold.nil), rfl, rfl, (by rw [HS])⟩)
      · by_cases hc : y + 1 < t.ter.length
        · have hn := fun h => isNode_c k t ((x : Int) + 0) ((y : Int) + 1) h (b := true) (by omega) (by omega) (by rw [Bool.and_eq_true, inB_iff, inB_iff]; omega)
          have hq : posI ((x : Int) + 0) ((y : Int) + 1) = posM (y + 1, x) := by
            rw [show ((x : Int) + 0) = (((y + 1, x).2 : Nat) : Int) by simp only; omega, show ((y : Int) + 1) = (((y + 1, x).1 : Nat) : Int) by simp only; omega]
          rw [if_pos rfl, if_pos hc] at hS
          rw [hS] at HS
          repeat (first | apply efi_seq | apply seqI.normal | (apply efi_reg; exact rfl) | (apply efi_regy; exact rfl) | (apply efy_op; exact rfl) | (apply ef_mv; exact rfl; exact rfl) | (apply ef_bin; exact rfl; exact rfl; exact rfl; (first | exact cmp_t rfl (by first | exact rfl | (simp only [cmpP]; omega)) | exact cmp_f rfl (by simp only [cmpP]; omega))) | (apply ef_gy; exact rfl; (first | exact (rfl : true = true) | exact (rfl : false = false))) | (apply ef_gn; exact rfl; (exact (rfl : false = false)); exact rfl) | (apply ef_pick; exact rfl; exact rfl; exact rfl) | (apply ef_ldr; exact rfl; exact rfl; (first | exact rd_whole rfl | exact rfl)) | (apply ef_ldp; exact rfl; exact rfl; exact rfl; exact rfl; (exact rfl); (first | exact rd_2 rfl rfl | exact rfl)) | (apply ef_ias; exact rfl; exact rfl; exact rfl; (omega); assumption; exact rfl) | (apply ef_fap; exact rfl; exact rfl) | (apply ef_far; exact rfl; exact rfl) | apply ef_nil | (apply ef_call; exact rfl; ((repeat (apply XVs.cons; exact rfl)); exact XVs.nil); (with_reducible exact hn _)))
          (apply efy_yield; (· exact rfl); (· exact rfl); (· exact rfl); (· ((repeat (apply XVs.cons; exact rfl)); exact XVs.nil)); (· exact rfl))
          · repeat (first | apply efi_skip | apply seqI.normal | apply blockI.normal | (apply efi_reg; exact rfl) | apply efy_nil | (apply efy_op; exact rfl) | (apply efi_condf; exact rfl; (exact rfl)) | (apply ef_mv; exact rfl; exact rfl) | (apply ef_bin; exact rfl; exact rfl; exact rfl; (((with_reducible refine bin_add (wrap_of ?_ ?_)) <;> omega))) | (apply ef_gy; exact rfl; (exact (rfl : true = true))) | (apply ef_pick; exact rfl; exact rfl; exact rfl) | (apply ef_notT; exact rfl; exact rfl) | apply ef_nil)
            (refine loopI.normal _ _ _ _ _ ⟨rfl, (2 + 1, 2 * (2 + 1)), ⟨by simp only; omega, by first | (simp only; omega) | omega⟩, (by first | (simp only; omega) | omega), by ((repeat (refine Hold.cons (by exact rfl) ?_)); exact Hold.nil), rfl, rfl, (by rw [HS, posY_app]; simp only [posY, List.map_cons, List.map_nil]; rw [← hq])⟩)
          · repeat (first | apply efi_ret | apply seqI.normal | apply seqI.ret | apply blockI.ret | apply efy_nil | (apply efy_op; exact rfl) | (apply efi_condt; exact rfl; (exact rfl)) | apply loopI.ret | (apply ef_gy; exact rfl; (exact (rfl : true = true))) | (apply ef_pick; exact rfl; exact rfl; exact rfl) | (apply ef_notF; exact rfl; exact rfl) | apply ef_nil)
            exact finI_stop rfl
        · have hn := fun h => isNode_c k t ((x : Int) + 0) ((y : Int) + 1) h (b := false) (by omega) (by omega) (by rw [Bool.eq_false_iff, ne_eq, Bool.and_eq_true, inB_iff, inB_iff]; omega)
          rw [if_pos rfl, if_neg hc] at hS
          rw [hS, List.append_nil] at HS
          repeat (first | apply efi_seq | apply efi_skip | apply seqI.normal | apply blockI.normal | (apply efi_reg; exact rfl) | (apply efi_regy; exact rfl) | apply efy_nil | (apply efy_op; exact rfl) | (apply efy_skip; exact rfl; exact rfl; exact rfl) | (apply efi_condf; exact rfl; (exact rfl)) | (apply ef_mv; exact rfl; exact rfl) | (apply ef_bin; exact rfl; exact rfl; exact rfl; (first | exact cmp_t rfl (by first | exact rfl | (simp only [cmpP]; omega)) | exact cmp_f rfl (by simp only [cmpP]; omega) | ((with_reducible refine bin_add (wrap_of ?_ ?_)) <;> omega))) | (apply ef_gy; exact rfl; (first | exact (rfl : true = true) | exact (rfl : false = false))) | (apply ef_gn; exact rfl; (exact (rfl : false = false)); exact rfl) | (apply ef_pick; exact rfl; exact rfl; exact rfl) | (apply ef_ldr; exact rfl; exact rfl; (first | exact rd_whole rfl | exact rfl)) | (apply ef_ldp; exact rfl; exact rfl; exact rfl; exact rfl; (exact rfl); (first | exact rd_2 rfl rfl | exact rfl)) | (apply ef_ias; exact rfl; exact rfl; exact rfl; (omega); assumption; exact rfl) | (apply ef_fap; exact rfl; exact rfl) | (apply ef_far; exact rfl; exact rfl) | apply ef_nil | (apply ef_call; exact rfl; ((repeat (apply XVs.cons; exact rfl)); exact XVs.nil); (with_reducible exact hn _)))
          (refine loopI.normal _ _ _ _ _ ⟨rfl, (2 + 1, ln), ⟨by simp only; omega, by first | (simp only; omega) | omega⟩, (by first | (simp only; omega) | omega), by ((repeat (refine Hold.cons (by exact rfl) ?_)); exact Hold.nil), rfl, rfl, (by rw [HS])⟩)
    | 3, hi, hln =>
      have HS := nbU_succ t y x 3
      have hS : nbS t y x 3 = if t.ties.contains (x : Int) then (if 0 < y then [(y - 1, x)] else []) else [] := rfl
      generalize hp : t.ties.contains (x : Int) = b at *
      repeat (first | apply efi_seq | apply efi_block | apply efi_skip | apply seqI.normal | (apply efi_reg; exact rfl) | (apply efi_condt; exact rfl; (exact rfl)) | (apply ef_bin; exact rfl; exact rfl; exact rfl; (exact cmp_t rfl (by first | exact rfl | (simp only [cmpP]; omega)))) | apply ef_nil)
      (apply ef_ix; (· exact rfl); (· exact rfl); (· exact rfl); (· omega); (· omega); (· exact rd_2 rfl rfl))
      repeat (first | (apply ef_new; exact rfl))
      try (apply ef_st; (· exact rfl); (· exact rfl); (· exact rfl); (· exact rfl); (· exact rfl); (· exact decide_eq_false (by show ¬ 6 < ln; omega)); (· exact rfl); (· exact rfl))
      repeat (first | apply efi_seq | apply seqI.normal | (apply efi_reg; exact rfl) | (apply ef_bin; exact rfl; exact rfl; exact rfl; (((with_reducible refine bin_add (wrap_of ?_ ?_)) <;> omega))) | (apply ef_ldr; exact rfl; exact rfl; (exact rfl)) | (apply ef_ldp; exact rfl; exact rfl; exact rfl; exact rfl; (exact rfl); (exact rfl)) | (apply ef_fap; exact rfl; exact rfl) | (apply ef_far; exact rfl; exact rfl) | (apply ef_new; exact rfl) | (apply ef_build; exact rfl; (repeat (apply XVs.cons; exact rfl)); exact XVs.nil; exact rfl; exact rfl) | apply ef_nil)
      try (apply ef_st; (· exact rfl); (· exact rfl); (· exact rfl); (· exact rfl); (· exact rfl); (· exact decide_eq_false (by show ¬ 7 < ln; omega)); (· exact rfl); (· exact rfl))
      cases b
      · rw [show nbS t y x 3 = [] from hS, List.append_nil] at HS
        repeat (first | apply efi_seq | apply efi_skip | apply seqI.normal | apply blockI.normal | (apply efi_reg; exact rfl) | (apply efi_regy; exact rfl) | apply efy_nil | (apply efy_op; exact rfl) | (apply efy_skip; exact rfl; exact rfl; exact rfl) | (apply efi_condf; exact rfl; (exact rfl)) | (apply ef_mv; exact rfl; exact rfl) | (apply ef_bin; exact rfl; exact rfl; exact rfl; (first | exact cmp_t rfl (by first | exact rfl | (simp only [cmpP]; omega)) | exact cmp_f rfl (by simp only [cmpP]; omega) | ((with_reducible refine bin_add (wrap_of ?_ ?_)) <;> omega))) | (apply ef_gy; exact rfl; (first | exact (rfl : true = true) | exact (rfl : false = false))) | (apply ef_gn; exact rfl; (exact (rfl : false = false)); exact rfl) | (apply ef_pick; exact rfl; exact rfl; exact rfl) | (apply ef_ldr; exact rfl; exact rfl; (exact rfl)) | (apply ef_ldp; exact rfl; exact rfl; exact rfl; exact rfl; (exact rfl); (exact rfl)) | (apply ef_ias; exact rfl; exact rfl; exact rfl; (omega); assumption; exact rfl) | (apply ef_fap; exact rfl; exact rfl) | (apply ef_far; exact rfl; exact rfl) | apply ef_nil)
        (refine loopI.normal _ _ _ _ _ ⟨rfl, (3 + 1, ln), ⟨by simp only; omega, by first | (simp only; omega) | omega⟩, (by first | (simp only; omega) | omega), by ((repeat (refine Hold.cons (by exact rfl) ?_)); exact Hold.nil), rfl, rfl, (by rw [HS])⟩)
      · by_cases hc : 0 < y
        · have hn := fun h => isNode_c k t ((x : Int) + 0) ((y : Int) + (-1)) h (b := true) (by omega) (by omega) (by rw [Bool.and_eq_true, inB_iff, inB_iff]; omega)
          have hq : posI ((x : Int) + 0) ((y : Int) + (-1)) = posM (y - 1, x) := by
            rw [show ((x : Int) + 0) = (((y - 1, x).2 : Nat) : Int) by simp only; omega, show ((y : Int) + (-1)) = (((y - 1, x).1 : Nat) : Int) by simp only; omega]
          rw [if_pos rfl, if_pos hc] at hS
          rw [hS] at HS
          repeat (first | apply efi_seq | apply seqI.normal | (apply efi_reg; exact rfl) | (apply efi_regy; exact rfl) | (apply efy_op; exact rfl) | (apply ef_mv; exact rfl; exact rfl) | (apply ef_bin; exact rfl; exact rfl; exact rfl; (first | exact cmp_t rfl (by first | exact rfl | (simp only [cmpP]; omega)) | exact cmp_f rfl (by simp only [cmpP]; omega))) | (apply ef_gy; exact rfl; (first | exact (rfl : true = true) | exact (rfl : false = false))) | (apply ef_gn; exact rfl; (exact (rfl : false = false)); exact rfl) | (apply ef_pick; exact rfl; exact rfl; exact rfl) | (apply ef_ldr; exact rfl; exact rfl; (first | exact rd_whole rfl | exact rfl)) | (apply ef_ldp; exact rfl; exact rfl; exact rfl; exact rfl; (exact rfl); (first | exact rd_2 rfl rfl | exact rfl)) | (apply ef_ias; exact rfl; exact rfl; exact rfl; (omega); assumption; exact rfl) | (apply ef_fap; exact rfl; exact rfl) | (apply ef_far; exact rfl; exact rfl) | apply ef_nil | (apply ef_call; exact rfl; ((repeat (apply XVs.cons; exact rfl)); exact XVs.nil); (with_reducible exact hn _)))
          (apply efy_yield; (· exact rfl); (· exact rfl); (· exact rfl); (· ((repeat (apply XVs.cons; exact rfl)); exact XVs.nil)); (· exact rfl))
          · repeat (first | apply efi_skip | apply seqI.normal | apply blockI.normal | (apply efi_reg; exact rfl) | apply efy_nil | (apply efy_op; exact rfl) | (apply efi_condf; exact rfl; (exact rfl)) | (apply ef_mv; exact rfl; exact rfl) | (apply ef_bin; exact rfl; exact rfl; exact rfl; (((with_reducible refine bin_add (wrap_of ?_ ?_)) <;> omega))) | (apply ef_gy; exact rfl; (exact (rfl : true = true))) | (apply ef_pick; exact rfl; exact rfl; exact rfl) | (apply ef_notT; exact rfl; exact rfl) | apply ef_nil)
            (refine loopI.normal _ _ _ _ _ ⟨rfl, (3 + 1, 2 * (3 + 1)), ⟨by simp only; omega, by first | (simp only; omega) | omega⟩, (by first | (simp only; omega) | omega), by ((repeat (refine Hold.cons (by exact rfl) ?_)); exact Hold.nil), rfl, rfl, (by rw [HS, posY_app]; simp only [posY, List.map_cons, List.map_nil]; rw [← hq])⟩)
          · repeat (first | apply efi_ret | apply seqI.normal | apply seqI.ret | apply blockI.ret | apply efy_nil | (apply efy_op; exact rfl) | (apply efi_condt; exact rfl; (exact rfl)) | apply loopI.ret | (apply ef_gy; exact rfl; (exact (rfl : true = true))) | (apply ef_pick; exact rfl; exact rfl; exact rfl) | (apply ef_notF; exact rfl; exact rfl) | apply ef_nil)
            exact finI_stop rfl
        · have hn := fun h => isNode_c k t ((x : Int) + 0) ((y : Int) + (-1)) h (b := false) (by omega) (by omega) (by rw [Bool.eq_false_iff, ne_eq, Bool.and_eq_true, inB_iff, inB_iff]; omega)
          rw [if_pos rfl, if_neg hc] at hS
          rw [hS, List.append_nil] at HS
          repeat (first | apply efi_seq | apply efi_skip | apply seqI.normal | apply blockI.normal | (apply efi_reg; exact rfl) | (apply efi_regy; exact rfl) | apply efy_nil | (apply efy_op; exact rfl) | (apply efy_skip; exact rfl; exact rfl; exact rfl) | (apply efi_condf; exact rfl; (exact rfl)) | (apply ef_mv; exact rfl; exact rfl) | (apply ef_bin; exact rfl; exact rfl; exact rfl; (first | exact cmp_t rfl (by first | exact rfl | (simp only [cmpP]; omega)) | exact cmp_f rfl (by simp only [cmpP]; omega) | ((with_reducible refine bin_add (wrap_of ?_ ?_)) <;> omega))) | (apply ef_gy; exact rfl; (first | exact (rfl : true = true) | exact (rfl : false = false))) | (apply ef_gn; exact rfl; (exact (rfl : false = false)); exact rfl) | (apply ef_pick; exact rfl; exact rfl; exact rfl) | (apply ef_ldr; exact rfl; exact rfl; (first | exact rd_whole rfl | exact rfl)) | (apply ef_ldp; exact rfl; exact rfl; exact rfl; exact rfl; (exact rfl); (first | exact rd_2 rfl rfl | exact rfl)) | (apply ef_ias; exact rfl; exact rfl; exact rfl; (omega); assumption; exact rfl) | (apply ef_fap; exact rfl; exact rfl) | (apply ef_far; exact rfl; exact rfl) | apply ef_nil | (apply ef_call; exact rfl; ((repeat (apply XVs.cons; exact rfl)); exact XVs.nil); (with_reducible exact hn _)))
          (refine loopI.normal _ _ _ _ _ ⟨rfl, (3 + 1, ln), ⟨by simp only; omega, by first | (simp only; omega) | omega⟩, (by first | (simp only; omega) | omega), by ((repeat (refine Hold.cons (by exact rfl) ?_)); exact Hold.nil), rfl, rfl, (by rw [HS])⟩)
    | 4, hi, hln =>
      repeat (first | apply efi_seq | apply efi_exit | apply seqI.normal | apply seqI.exit | apply blockI.here | (apply efi_reg; exact rfl) | (apply efi_condf; exact rfl; (exact rfl)) | apply loopI.exit | (apply ef_bin; exact rfl; exact rfl; exact rfl; (exact cmp_f rfl (by simp only [cmpP]; omega))) | apply ef_nil)
      exact finI_go rfl (by rw [nbU_four])
    | i + 5, hi, hln => omega
  · rw [List.all_eq_true]
    intro x hx
    obtain ⟨p, _, rfl⟩ := List.mem_map.1 hx
    rfl
theorem mf_neighbours : MT.mf 154 = some ⟨6, [(.tmp 4)], (.seq (.reg [⟨none, (some 2), (.box 9 (.s 0))⟩, ⟨none, (some 3), (.box 2 (.s 1))⟩, ⟨none, (some 4), (.mv (.c (.lit .nilFunc)))⟩]) (.seq (.reg [⟨none, (some 5), (.mf 167 0 [(.s 3), (.s 2)])⟩, ⟨none, (some 4), (.mv (.s 5))⟩]) .ret))⟩ := by kernel_rfl
theorem neighbours_c (k : Nat) (t : Tk) {x y : Int} (h : MHeap) : orA (k + 1) 154 [encO t, posI x y] h = some (.fn 167 0 [.rp (posI x y) 0, .rp (encO t) 0], h) := by
  have hlt := encO_lt t 0
  have hz : runZ MT (orA k) (itA k) 4000000 154 [encO t, posI x y] [] = some (.fn 167 0 [.rp (posI x y) 0, .rp (encO t) 0], []) := by
    refine runZ_of mf_neighbours (by simp) ?_
    simp only [argsL]
    repeat (first | apply ef_seq | (apply ef_mv; exact rfl; exact rfl) | (apply ef_box; exact rfl; exact rfl; exact rfl; exact rfl) | (apply ef_mf; exact rfl; (repeat (apply XVs.cons; exact rfl)); exact XVs.nil) | apply ef_nil | apply seqQ.normal | apply ef_ret)
    exact fin_frz rfl (by exact rfl) rfl (fun _ _ _ _ h => by cases h) (by simp only [frz]; simp [MV.lt, ltL, frz, List.mapM_cons, hlt, ltL_I, ltL_W, ltL_B])
  have := callA (k := k) (h := h) (frzL_lt (ms := [encO t, posI x y]) (by simp [ltL, MV.lt, ltL_I, ltL_W, ltL_B])) rfl hz (by simp [okV, ok1, ltL, ltL_I, ltL_W, ltL_B, MV.lt]) rfl
  simpa [shV, sh1] using this
end Go.Proofs.Ytgjpdjihjphbdaa

/- Memory that is told by facts: levels below which all is closed; surfaces of numbers. -/
namespace Go.Proofs.Ytgjpdjihjphbdaa
open Go.RowKit
set_option linter.unusedVariables false

mutual
theorem MV.lt_le {n m : Nat} (h : n ≤ m) : ∀ v : MV, v.lt n = true → v.lt m = true
  | .lit _, _ => rfl
  | .junk, _ => rfl
  | .yld, h1 => by simp [MV.lt] at h1
  | .agg cs, h1 => by simp only [MV.lt] at h1 ⊢; exact ltL_le h cs h1
  | .tup cs, h1 => by simp only [MV.lt] at h1 ⊢; exact ltL_le h cs h1
  | .sl cs, h1 => by simp only [MV.lt] at h1 ⊢; exact ltL_le h cs h1
  | .rp e _, h1 => by simp only [MV.lt] at h1 ⊢; exact MV.lt_le h e h1
  | .ptr id _ _ _, h1 => by simp only [MV.lt, decide_eq_true_eq] at h1 ⊢; omega
  | .arr id _ _ _, h1 => by simp only [MV.lt, decide_eq_true_eq] at h1 ⊢; omega
  | .fn _ _ cs, h1 => by simp only [MV.lt] at h1 ⊢; exact ltL_le h cs h1
  | .mp id _, h1 => by simp only [MV.lt, decide_eq_true_eq] at h1 ⊢; omega
  | .rm cs, h1 => by simp only [MV.lt] at h1 ⊢; exact ltL_le h cs h1
theorem ltL_le {n m : Nat} (h : n ≤ m) : ∀ vs : List MV, ltL n vs = true → ltL m vs = true
  | [], _ => rfl
  | v :: vs, h1 => by
    simp only [ltL, Bool.and_eq_true] at h1 ⊢
    exact ⟨MV.lt_le h v h1.1, ltL_le h vs h1.2⟩
end
/-- What lies below n speaks of what lies below n. -/
def Cl (n : Nat) (h : MHeap) : Prop := n ≤ h.length ∧ ∀ (j : Nat) o, j < n → h[j]? = some o → ltL n o.es = true
theorem Cl.head {n : Nat} {h : MHeap} (hc : Cl n h) : hltL n (h.take n) = true := by
  unfold hltL
  rw [List.all_eq_true]
  intro o ho
  obtain ⟨j, hj⟩ := List.getElem?_of_mem ho
  rw [List.getElem?_take] at hj
  split at hj
  · exact hc.2 j o (by assumption) hj
  · cases hj
theorem Cl.take {n m : Nat} {h : MHeap} (hc : Cl n h) (hm : n ≤ m) : Cl n (h.take m) :=
  ⟨by rw [List.length_take]; have := hc.1; omega, fun j o hj ho => by
    rw [List.getElem?_take] at ho
    split at ho
    · exact hc.2 j o hj ho
    · cases ho⟩
theorem Cl.app {n : Nat} {h : MHeap} (hc : Cl n h) (X : MHeap) : Cl n (h ++ X) :=
  ⟨by rw [List.length_append]; have := hc.1; omega, fun j o hj ho => by
    rw [List.getElem?_append_left (by have := hc.1; omega)] at ho
    exact hc.2 j o hj ho⟩
theorem Cl.set {n i : Nat} {h : MHeap} {o : MObj} (hc : Cl n h) (ho : i < n → ltL n o.es = true) : Cl n (h.set i o) :=
  ⟨by rw [List.length_set]; exact hc.1, fun j p hj hp => by
    rw [List.getElem?_set] at hp
    split at hp
    · rename_i e
      split at hp
      · cases hp; exact ho (by omega)
      · cases hp
    · exact hc.2 j p hj hp⟩
abbrev Full (h : MHeap) : Prop := Cl h.length h
theorem Full.app1 {h : MHeap} {o : MObj} (hc : Full h) (ho : ltL (h.length + 1) o.es = true) : Full (h ++ [o]) :=
  ⟨Nat.le_refl _, fun j p hj hp => by
    rw [List.length_append] at hj ⊢
    simp only [List.length_cons, List.length_nil] at hj ⊢
    by_cases e : j < h.length
    · rw [List.getElem?_append_left e] at hp
      exact ltL_le (by omega) _ (hc.2 j p e hp)
    · obtain rfl : j = h.length := by omega
      simp at hp
      subst hp
      exact ho⟩
theorem Full.set {h : MHeap} {i : Nat} {o : MObj} (hc : Full h) (ho : ltL h.length o.es = true) : Full (h.set i o) := by
  have := Cl.set (i := i) (o := o) hc fun _ => ho
  unfold Full
  rwa [List.length_set]
theorem Cl.full {n : Nat} {h : MHeap} (hc : Cl n h) : Full (h.take n) := by
  have h1 := hc.take (Nat.le_refl n)
  unfold Full
  have : (h.take n).length = n := by rw [List.length_take]; have := hc.1; omega
  rwa [this]

/-- A surface: rows of numbers, H of W, in objects of their own. -/
structure Srf (sid gn W H : Nat) (ids : Nat → Nat) (g : List (List Int)) (h : MHeap) : Prop where
  top : ∃ refs, h[sid]? = some ⟨gn, false, 1, refs⟩ ∧ refs.length = H ∧ ∀ y, y < H → refs[y]? = some (.arr (ids y) 0 W 0)
  row : ∀ y, y < H → h[ids y]? = some ⟨0, false, 1, (g.getD y []).map I64⟩
  gl : g.length = H
  wl : ∀ y, y < H → (g.getD y []).length = W
  inj : ∀ y y', y < H → y' < H → ids y = ids y' → y = y'
  ne : ∀ y, y < H → ids y ≠ sid
section
variable {sid gn W H : Nat} {ids : Nat → Nat} {g : List (List Int)} {h : MHeap}
theorem Srf.app (s : Srf sid gn W H ids g h) (X : MHeap) : Srf sid gn W H ids g (h ++ X) :=
  ⟨by obtain ⟨refs, h1, h2, h3⟩ := s.top; exact ⟨refs, at_app h1 X, h2, h3⟩, fun y hy => at_app (s.row y hy) X, s.gl, s.wl, s.inj, s.ne⟩
theorem Srf.other (s : Srf sid gn W H ids g h) {i : Nat} {o : MObj} (h1 : i ≠ sid) (h2 : ∀ y, y < H → i ≠ ids y) : Srf sid gn W H ids g (h.set i o) :=
  ⟨by obtain ⟨refs, k1, k2, k3⟩ := s.top; exact ⟨refs, by rw [List.getElem?_set_ne h1]; exact k1, k2, k3⟩, fun y hy => by rw [List.getElem?_set_ne (h2 y hy)]; exact s.row y hy, s.gl, s.wl, s.inj, s.ne⟩
theorem Srf.take (s : Srf sid gn W H ids g h) {m : Nat} (h1 : sid < m) (h2 : ∀ y, y < H → ids y < m) : Srf sid gn W H ids g (h.take m) :=
  ⟨by obtain ⟨refs, k1, k2, k3⟩ := s.top; exact ⟨refs, by rw [List.getElem?_take, if_pos h1]; exact k1, k2, k3⟩, fun y hy => by rw [List.getElem?_take, if_pos (h2 y hy)]; exact s.row y hy, s.gl, s.wl, s.inj, s.ne⟩
theorem Srf.lt (s : Srf sid gn W H ids g h) : sid < h.length ∧ ∀ y, y < H → ids y < h.length :=
  ⟨by obtain ⟨refs, k1, _⟩ := s.top; exact (List.getElem?_eq_some_iff.1 k1).1, fun y hy => (List.getElem?_eq_some_iff.1 (s.row y hy)).1⟩
theorem set2_row {y x y' : Nat} {v : Int} (hy : y < g.length) : (set2 g y x v).getD y' [] = if y' = y then (g.getD y []).set x v else g.getD y' [] := by
  unfold set2
  rw [List.getD_eq_getElem?_getD, List.getElem?_set]
  by_cases e : y = y'
  · subst e
    rw [if_pos rfl, if_pos hy, if_pos rfl]; rfl
  · rw [if_neg e, if_neg (Ne.symm e), List.getD_eq_getElem?_getD]
theorem Srf.put (s : Srf sid gn W H ids g h) {y x : Nat} {v : Int} (hy : y < H) : Srf sid gn W H ids (set2 g y x v) (h.set (ids y) ⟨0, false, 1, ((g.getD y []).map I64).set x (I64 v)⟩) := by
  have hl := (s.lt.2 y hy)
  have hgl := s.gl
  refine ⟨?_, fun y' hy' => ?_, by unfold set2; rw [List.length_set]; exact s.gl, fun y' hy' => ?_, s.inj, s.ne⟩
  · obtain ⟨refs, k1, k2, k3⟩ := s.top
    exact ⟨refs, by rw [List.getElem?_set_ne (s.ne y hy)]; exact k1, k2, k3⟩
  · rw [set2_row (by omega)]
    by_cases e : y' = y
    · subst e
      rw [if_pos rfl, List.getElem?_set_self hl, List.map_set]
    · rw [if_neg e, List.getElem?_set_ne (fun e2 => e (s.inj _ _ hy' hy e2.symm))]
      exact s.row y' hy'
  · rw [set2_row (by omega)]
    split
    · rename_i e; rw [List.length_set]; exact s.wl y hy
    · exact s.wl y' hy'
/-- Where a number of the surface lies. -/
theorem Srf.rd (s : Srf sid gn W H ids g h) {y x : Nat} (hy : y < H) (hx : x < W) : ∃ refs, h[sid]? = some ⟨gn, false, 1, refs⟩ ∧ MHeap.ok h sid gn 1 = true ∧ refs[0 + ((y : Nat) : Int).toNat]? = some (.arr (ids y) 0 W 0) ∧ h[ids y]? = some ⟨0, false, 1, (g.getD y []).map I64⟩ ∧ MHeap.ok h (ids y) 0 1 = true ∧ ((g.getD y []).map I64)[0 + ((x : Nat) : Int).toNat]? = some (I64 (at2 g y x)) := by
  obtain ⟨refs, k1, k2, k3⟩ := s.top
  have k4 := s.row y hy
  refine ⟨refs, k1, ok_of k1 rfl rfl, by rw [Nat.zero_add, Int.toNat_natCast]; exact k3 y hy, k4, ok_of k4 rfl rfl, ?_⟩
  rw [Nat.zero_add, Int.toNat_natCast, List.getElem?_map]
  have hl := s.wl y hy
  unfold at2
  rw [List.getD_eq_getElem?_getD (l := g.getD y []), List.getElem?_eq_getElem (by omega)]; rfl
end
section
variable {O : Oracle} {I : Iter} {N n : Nat} {lk : Nat → Bool} {A : Sl} {h : MHeap} {Q : MX2 → Sl → MHeap → Prop}
/-- A new cell, and what is laid into it. -/
theorem ef_newst {t sz : Nat} {z v : MV} {x : MX} {os : List GO} (ht : Nat.blt t n = true) (hx : XV ((t, .ptr h.length 0 0 0) :: A) x v) (hk : v.sOk sz = true) (hlk : lk h.length = false) (hw : wrElem z 0 v = some v) (hE : Ef O I N n lk (.reg os) ((t, .ptr h.length 0 0 0) :: A) (h ++ [⟨0, false, z.cells.length, [v]⟩]) Q) :
    Ef O I N n lk (.reg (⟨none, some t, .new z⟩ :: ⟨none, none, .st sz (.s t) x⟩ :: os)) A h Q := by
  refine ef_new (ht := ht) ?_
  refine ef_st (o := ⟨0, false, z.cells.length, [z]⟩) hx hk (show look ((t, .ptr h.length 0 0 0) :: A) t = _ from look_here) (at_end _ _) rfl hlk rfl hw ?_
  rw [set_end]
  exact hE
end
end Go.Proofs.Ytgjpdjihjphbdaa

/- Memory of lowest surfaces: facts and rules. -/
namespace Go.Proofs.Ytgjpdjihjphbdaa
open Go.RowKit
set_option linter.unusedVariables false

/-- There is a lowest surface. -/
theorem lea_ex {t : Tk} {K : Int} (hK : ∀ s, Pre t s → tot s ≤ K) : ∃ s, Lea t s := by
  have key : ∀ (n : Nat) s, Pre t s → (K - tot s).toNat < n → ∃ s, Lea t s := by
    intro n
    induction n with
    | zero => intro s _ h; omega
    | succ n ih =>
      intro s hp hn
      by_cases hall : ∀ y x y' x', y < t.H → x < t.W → t.fl y x = true → t.Nb y x y' x' → at2 s y x - t.cb ≤ at2 s y' x'
      · exact ⟨s, hp.lea hall⟩
      · apply Classical.byContradiction
        intro hno
        apply hall
        intro y x y' x' hy hx hf hnb
        apply Decidable.byContradiction
        intro hlt
        have hr : at2 s y' x' < at2 s y x - t.cb := by omega
        have h2 := hp.raise hy hx hf hnb hr
        have h3 := tot_le_up (s0 := s) hp.sh hnb.1 hnb.2.1 hr
        have h4 := hK _ h2
        exact hno (ih _ h2 (by omega))
  exact key _ t.s0 (s0_pre t) (Nat.lt_succ_self _)
theorem OkT.top {t : Tk} (ok : OkT t) {s : List (List Int)} (h : Pre t s) : ∀ y x, y < t.H → x < t.W → 0 ≤ at2 s y x ∧ at2 s y x ≤ 20000 := fun y x hy hx =>
  ⟨h.pos (fun y x hy hx => (ok.need hy hx).1) y x hy hx, h.top (B := 20000) (fun y x hy hx => (ok.need hy hx).2) (by omega) ok.cb.1 y x hy hx⟩
theorem OkT.tot {t : Tk} (ok : OkT t) {s : List (List Int)} (h : Pre t s) : 0 ≤ tot s ∧ tot s ≤ 2880000 := by
  have h1 := tot_le h.sh (B := 20000) fun y x hy hx => (ok.top h y x hy hx).2
  have h2 := tot_pos h.sh fun y x hy hx => (ok.top h y x hy hx).1
  have h3 : (t.W : Int) * 20000 ≤ 240000 := by have := ok.w1; omega
  have h4 : (t.H : Int) * ((t.W : Int) * 20000) ≤ 12 * 240000 := Int.mul_le_mul (by have := ok.h1; unfold Tk.H; omega) h3 (by omega) (by omega)
  omega
theorem OkT.lea {t : Tk} (ok : OkT t) : ∃ s, Lea t s := lea_ex fun s hs => (ok.tot hs).2

/-- A queue of nodes. -/
inductive QuM (m0 B : Nat) (h : MHeap) : MV → List (Nat × Nat) → Prop
  | nil : QuM m0 B h (.lit (.slice none 0 0)) []
  | arr (id gen : Nat) (P Q : List (Nat × Nat)) : h[id]? = some ⟨gen, false, 2, (P ++ Q).map posM⟩ → m0 ≤ id → P.length + Q.length ≤ B → QuM m0 B h (.arr id P.length Q.length gen) Q
theorem QuM.cell {m0 B : Nat} {h : MHeap} {v : MV} {Q : List (Nat × Nat)} (q : QuM m0 B h v Q) : rdCells v.cells 0 none = some v := by
  cases q <;> rfl
theorem QuM.app {m0 B : Nat} {h : MHeap} {v : MV} {Q : List (Nat × Nat)} (q : QuM m0 B h v Q) (X : MHeap) : QuM m0 B (h ++ X) v Q := by
  cases q with
  | nil => exact .nil
  | arr id gen P Q h1 h2 h3 => exact .arr id gen P Q (at_app h1 X) h2 h3
theorem QuM.set {m0 B i : Nat} {h : MHeap} {o : MObj} {v : MV} {Q : List (Nat × Nat)} (q : QuM m0 B h v Q) (hi : i < m0) : QuM m0 B (h.set i o) v Q := by
  cases q with
  | nil => exact .nil
  | arr id gen P Q h1 h2 h3 => exact .arr id gen P Q (by rw [List.getElem?_set_ne (by omega)]; exact h1) h2 h3
theorem ltL_P (n : Nat) (l : List (Nat × Nat)) : ltL n (l.map posM) = true := ltL_lits (fun _ => rfl) l
/-- The memory of lowest. -/
structure LoM (t : Tk) (N : Nat → Prop) (g : List (List Int)) (B : Nat) (qv : MV) (Q : List (Nat × Nat)) (h : MHeap) : Prop where
  b0 : h[0]? = some ⟨0, false, 9, [encO t]⟩
  b3 : h[3]? = some ⟨0, false, 1, [.arr 2 0 t.ter.length 0]⟩
  sf : Srf 2 0 t.W t.ter.length (4 + ·) g h
  qc : h[4 + t.ter.length]? = some ⟨0, false, 1, [qv]⟩
  qu : QuM (5 + t.ter.length) B h qv Q
  fu : Full h
  lv : ∀ n, N n → 5 + t.ter.length ≤ n ∧ Cl n h
section
variable {t : Tk} {N : Nat → Prop} {g : List (List Int)} {B : Nat} {qv : MV} {Q : List (Nat × Nat)} {h : MHeap}
theorem LoM.app1 (m : LoM t N g B qv Q h) (o : MObj) (ho : ltL (h.length + 1) o.es = true) : LoM t N g B qv Q (h ++ [o]) :=
  ⟨at_app m.b0 _, at_app m.b3 _, m.sf.app _, at_app m.qc _, m.qu.app _, m.fu.app1 ho, fun n hn => ⟨(m.lv n hn).1, (m.lv n hn).2.app _⟩⟩
theorem LoM.len (m : LoM t N g B qv Q h) : 4 + t.ter.length < h.length := (List.getElem?_eq_some_iff.1 m.qc).1
theorem LoM.put (m : LoM t N g B qv Q h) {y x : Nat} {v : Int} (hy : y < t.ter.length) : LoM t N (set2 g y x v) B qv Q (h.set (4 + y) ⟨0, false, 1, ((g.getD y []).map I64).set x (I64 v)⟩) := by
  have hl : ∀ n, ltL n (((g.getD y []).map I64).set x (I64 v)) = true := fun n => by
    rw [show ((g.getD y []).map I64).set x (I64 v) = ((g.getD y []).set x v).map I64 by rw [List.map_set]]; exact ltL_I n _
  exact ⟨by rw [List.getElem?_set_ne (by omega)]; exact m.b0, by rw [List.getElem?_set_ne (by omega)]; exact m.b3, m.sf.put hy, by rw [List.getElem?_set_ne (by omega)]; exact m.qc, m.qu.set (by omega), m.fu.set (hl _), fun n hn => ⟨(m.lv n hn).1, (m.lv n hn).2.set fun _ => hl _⟩⟩
theorem LoM.qlt (m : LoM t N g B qv Q h) {n : Nat} (hc : Cl n h) (hn : 5 + t.ter.length ≤ n) : qv.lt n = true := by
  have := hc.2 _ _ (by omega) m.qc
  simpa [ltL] using this
theorem LoM.take (m : LoM t N g B qv Q h) {n : Nat} (hn : N n) (hN : ∀ k, N k → k ≤ n) : LoM t N g B qv Q (h.take n) := by
  obtain ⟨h1, h2⟩ := m.lv n hn
  have hq := m.qlt h2 h1
  refine ⟨by rw [List.getElem?_take, if_pos (by omega)]; exact m.b0, by rw [List.getElem?_take, if_pos (by omega)]; exact m.b3, m.sf.take (by omega) (fun y hy => by omega), by rw [List.getElem?_take, if_pos (by omega)]; exact m.qc, ?_, h2.full, fun k hk => ⟨(m.lv k hk).1, (m.lv k hk).2.take (hN k hk)⟩⟩
  have := m.qu
  cases this with
  | nil => exact .nil
  | arr id gen P Q k1 k2 k3 =>
    simp only [MV.lt, decide_eq_true_eq] at hq
    exact .arr id gen P Q (by rw [List.getElem?_take, if_pos hq]; exact k1) k2 k3
theorem LoM.lev (m : LoM t N g B qv Q h) : LoM t (fun n => N n ∨ n = h.length) g B qv Q h :=
  ⟨m.b0, m.b3, m.sf, m.qc, m.qu, m.fu, fun n hn => by
    rcases hn with hn | rfl
    · exact m.lv n hn
    · exact ⟨by have := m.len; omega, m.fu⟩⟩
theorem LoM.less (m : LoM t N g B qv Q h) {N' : Nat → Prop} (hN : ∀ n, N' n → N n) : LoM t N' g B qv Q h :=
  ⟨m.b0, m.b3, m.sf, m.qc, m.qu, m.fu, fun n hn => m.lv n (hN n hn)⟩
end
end Go.Proofs.Ytgjpdjihjphbdaa

/- One more node at the end of a queue. -/
namespace Go.Proofs.Ytgjpdjihjphbdaa
open Go.RowKit
set_option linter.unusedVariables false

theorem HeadIs.tk {keep : List Nat} {m : Nat} {A : Sl} {h : MHeap} (hc : Cl m h) (hk : ∀ t ∈ keep, ∃ v, look A t = some v ∧ v.lt m = true) : HeadIs keep m A h (h.take m) := by
  by_cases hl : h.length ≤ m
  · rw [List.take_of_length_le hl]; exact .all hl
  · exact .cut hk hc.head
theorem LoM.pop {t : Tk} {N : Nat → Prop} {g : List (List Int)} {B id gen : Nat} {P Q : List (Nat × Nat)} {q : Nat × Nat} {h : MHeap} (m : LoM t N g B (.arr id P.length (Q.length + 1) gen) (q :: Q) h) (hk : h[id]? = some ⟨gen, false, 2, (P ++ q :: Q).map posM⟩) (hi : 5 + t.ter.length ≤ id) (hB : P.length + (Q.length + 1) ≤ B) :
    LoM t N g B (.arr id (P.length + 1) Q.length gen) Q (h.set (4 + t.ter.length) ⟨0, false, 1, [.arr id (P.length + 1) Q.length gen]⟩) := by
  have hl := m.len
  have hc : ∀ k, 5 + t.ter.length ≤ k → Cl k h → ltL k [MV.arr id (P.length + 1) Q.length gen] = true := fun k hk hcl => by
    have := m.qlt hcl hk
    simpa [ltL, MV.lt] using this
  refine ⟨by rw [List.getElem?_set_ne (by omega)]; exact m.b0, by rw [List.getElem?_set_ne (by omega)]; exact m.b3, m.sf.other (by omega) (fun y hy => by omega), by rw [List.getElem?_set_self hl], ?_, m.fu.set (hc _ (by omega) m.fu), fun k hk => ⟨(m.lv k hk).1, (m.lv k hk).2.set fun _ => hc k (m.lv k hk).1 (m.lv k hk).2⟩⟩
  have e : QuM (5 + t.ter.length) B (h.set (4 + t.ter.length) ⟨0, false, 1, [.arr id (P.length + 1) Q.length gen]⟩) (.arr id (P ++ [q]).length Q.length gen) Q :=
    .arr id gen (P ++ [q]) Q (by rw [List.getElem?_set_ne (by omega), hk]; simp) hi (by simp; omega)
  simpa using e
section
variable {O : Oracle} {I : Iter} {M n : Nat} {lk : Nat → Bool} {A : Sl} {h : MHeap} {Qc : MX2 → Sl → MHeap → Prop}
variable {t : Tk} {N : Nat → Prop} {g : List (List Int)} {B : Nat} {qv : MV} {Q : List (Nat × Nat)}
theorem ef_pushA {t2 tp t1 c : Nat} {q : Nat × Nat} {os : List GO} (ht2 : Nat.blt t2 n = true) (hp : look A tp = some qv) (h1 : look A t1 = some (.arr h.length 0 1 0)) (hc : ∀ v, look ((t2, v) :: A) c = some (.ptr (4 + t.ter.length) 0 0 0)) (hlk : ∀ i, lk i = false)
    (hm : LoM t N g B qv Q h) (hq : qv ≠ .lit (.slice none 0 0)) (hB : B < 4000000)
    (hE : ∀ h' qv', LoM t N g (B + 1) qv' (Q ++ [q]) h' → qv' ≠ .lit (.slice none 0 0) → (∀ k, qv'.lt k = qv.lt k) → h.length ≤ h'.length → (∀ j, j < h.length → qv.lt j = true → j ≠ 4 + t.ter.length → h'[j]? = h[j]?) → Ef O I M n lk (.reg os) ((t2, qv') :: A) h' Qc) :
    Ef O I M n lk (.reg (⟨none, some t2, .app 2 (.s tp) (.s t1)⟩ :: ⟨none, none, .st 1 (.s c) (.s t2)⟩ :: os)) A (h ++ [⟨0, false, 2, [posM q]⟩]) Qc := by
  have hlen := hm.len
  have hqu := hm.qu
  cases hqu with
  | nil => exact absurd rfl hq
  | arr id gen P Q k1 k2 k3 =>
    have hid : id < h.length := (List.getElem?_eq_some_iff.1 k1).1
    have e1 : (h ++ [(⟨0, false, 2, [posM q]⟩ : MObj)])[id]? = some ⟨gen, false, 2, (P ++ Q).map posM⟩ := at_app k1 _
    have hes : ((P ++ Q).map posM).drop P.length ++ [posM q] = ([] ++ (Q ++ [q])).map posM := by
      rw [List.map_append, List.drop_append_of_le_length (by simp), List.drop_of_length_le (by simp)]; simp
    have hl2 : ∀ k, ltL k (((P ++ Q).map posM).drop P.length ++ [posM q]) = true := fun k => by rw [hes]; exact ltL_P k _
    have mA := hm.app1 ⟨0, false, 2, [posM q]⟩ rfl
    refine ef_app (ht := ht2) (o := ⟨gen, false, 2, (P ++ Q).map posM⟩) (v := .arr h.length 0 1 0) (e := posM q) (xs := []) hp h1 (by simp [MV.elems]) e1 rfl (by simp) rfl (by simp; omega) rfl (hlk _) ?_
    refine ef_st (o := ⟨0, false, 1, [.arr id P.length Q.length gen]⟩) look_here rfl (hc _) (by rw [List.getElem?_set_ne (by omega)]; exact mA.qc) rfl (hlk _) rfl rfl ?_
    refine hE _ (.arr id 0 (Q.length + 1) (gen + 1)) ?_ (fun h => by cases h) (fun k => by simp [MV.lt]) (by simp) (fun j hj hlt hne => ?_)
    · have hqc : ((h ++ [(⟨0, false, 2, [posM q]⟩ : MObj)]).set id ⟨gen + 1, false, 2, ((P ++ Q).map posM).drop P.length ++ [posM q]⟩)[4 + t.ter.length]? = some ⟨0, false, 1, [.arr id P.length Q.length gen]⟩ := by rw [List.getElem?_set_ne (by omega)]; exact mA.qc
      have hlt3 : ∀ k, 5 + t.ter.length ≤ k → Cl k (h ++ [(⟨0, false, 2, [posM q]⟩ : MObj)]) → ltL k [MV.arr id 0 (Q.length + 1) (gen + 1)] = true := fun k hk hcl => by
        have := mA.qlt hcl hk
        simpa [ltL, MV.lt] using this
      refine ⟨?_, ?_, ?_, ?_, ?_, ?_, fun k hk => ?_⟩
      · rw [List.getElem?_set_ne (by omega), List.getElem?_set_ne (by omega)]; exact mA.b0
      · rw [List.getElem?_set_ne (by omega), List.getElem?_set_ne (by omega)]; exact mA.b3
      · exact (mA.sf.other (by omega) fun y hy => by omega).other (by omega) fun y hy => by omega
      · rw [List.getElem?_set_self (by simp; omega)]; rfl
      · have e : QuM (5 + t.ter.length) (B + 1) (((h ++ [(⟨0, false, 2, [posM q]⟩ : MObj)]).set id ⟨gen + 1, false, 2, ((P ++ Q).map posM).drop P.length ++ [posM q]⟩).set (4 + t.ter.length) ⟨0, false, 1, [.arr id 0 (Q.length + 1) (gen + 1)]⟩) (.arr id ([] : List (Nat × Nat)).length (Q ++ [q]).length (gen + 1)) (Q ++ [q]) :=
          .arr id (gen + 1) [] (Q ++ [q]) (by rw [List.getElem?_set_ne (by omega), List.getElem?_set_self (by simp; omega), hes]) k2 (by simp; omega)
        simpa using e
      · exact (mA.fu.set (hl2 _)).set (by simpa using hlt3 (h ++ [(⟨0, false, 2, [posM q]⟩ : MObj)]).length (by simp; omega) mA.fu)
      · exact ⟨(mA.lv k hk).1, (((mA.lv k hk).2.set fun _ => hl2 k).set fun _ => hlt3 k (mA.lv k hk).1 (mA.lv k hk).2)⟩
    · simp only [MV.lt, decide_eq_true_eq] at hlt
      rw [List.getElem?_set_ne (by omega), List.getElem?_set_ne (by omega), List.getElem?_append_left hj]
theorem ef_pushN {t2 tp t1 c : Nat} {q : Nat × Nat} {os : List GO} (ht2 : Nat.blt t2 n = true) (hp : look A tp = some (.lit (.slice none 0 0))) (h1 : look A t1 = some (.arr h.length 0 1 0)) (hc : ∀ v, look ((t2, v) :: A) c = some (.ptr (4 + t.ter.length) 0 0 0)) (hlk : ∀ i, lk i = false)
    (hm : LoM t N g B (.lit (.slice none 0 0)) [] h)
    (hE : ∀ h' qv', LoM t (fun _ => False) g (B + 1) qv' [q] h' → qv' ≠ .lit (.slice none 0 0) → (∀ k, k ≤ h.length → qv'.lt k = false) → Ef O I M n lk (.reg os) ((t2, qv') :: A) h' Qc) :
    Ef O I M n lk (.reg (⟨none, some t2, .app 2 (.s tp) (.s t1)⟩ :: ⟨none, none, .st 1 (.s c) (.s t2)⟩ :: os)) A (h ++ [⟨0, false, 2, [posM q]⟩]) Qc := by
  have hlen := hm.len
  have mA := (hm.less (N' := fun _ => False) fun _ h => h.elim).app1 ⟨0, false, 2, [posM q]⟩ rfl
  have mB := mA.app1 ⟨0, false, 2, [posM q]⟩ rfl
  refine ef_appn (ht := ht2) (v := .arr h.length 0 1 0) (e := posM q) (xs := []) hp h1 (by simp [MV.elems]) (by simp) rfl ?_
  refine ef_st (o := ⟨0, false, 1, [.lit (.slice none 0 0)]⟩) look_here rfl (hc _) mB.qc rfl (hlk _) rfl rfl ?_
  refine hE _ _ ?_ (fun h => by cases h) (fun k hk => by simp [MV.lt]; omega)
  refine ⟨?_, ?_, ?_, ?_, ?_, ?_, fun k hk => hk.elim⟩
  · rw [List.getElem?_set_ne (by omega)]; exact mB.b0
  · rw [List.getElem?_set_ne (by omega)]; exact mB.b3
  · exact mB.sf.other (by omega) fun y hy => by omega
  · rw [List.getElem?_set_self (by simp; omega)]; rfl
  · have e : QuM (5 + t.ter.length) (B + 1) (((h ++ [(⟨0, false, 2, [posM q]⟩ : MObj)]) ++ [(⟨0, false, 2, [posM q]⟩ : MObj)]).set (4 + t.ter.length) ⟨0, false, 1, [.arr (h.length + 1) 0 1 0]⟩) (.arr (h.length + 1) ([] : List (Nat × Nat)).length [q].length 0) [q] :=
      .arr (h.length + 1) 0 [] [q] (by rw [List.getElem?_set_ne (by omega)]; simp) (by omega) (by simp)
    simpa using e
  · exact mB.fu.set (by simp [ltL, MV.lt])
end
end Go.Proofs.Ytgjpdjihjphbdaa

/- The contract of lowest: heights are raised along a queue. -/
namespace Go.Proofs.Ytgjpdjihjphbdaa
open Go.RowKit
set_option linter.unusedVariables false

def rRow (H W y : Nat) : List MV := (List.range H).map fun j => if j < y then .arr (4 + j) 0 W 0 else .lit (.slice none 0 0)
theorem rRow_at {H W y j : Nat} (h : j < H) : (rRow H W y)[j]? = some (if j < y then .arr (4 + j) 0 W 0 else .lit (.slice none 0 0)) := rng_get _ h
theorem rRow_zero (H W : Nat) : rRow H W 0 = List.replicate H (.lit (.slice none 0 0)) := by
  apply List.ext_getElem?
  intro j
  by_cases hj : j < H
  · rw [rRow_at hj, List.getElem?_replicate, if_pos hj]; rfl
  · rw [List.getElem?_eq_none (by simp [rRow]; omega), List.getElem?_replicate, if_neg hj]
theorem rRow_set {H W y : Nat} : (rRow H W y).set (0 + ((y : Nat) : Int).toNat) (.arr (4 + y) 0 W 0) = rRow H W (y + 1) := by
  rw [Nat.zero_add, Int.toNat_natCast]
  unfold rRow
  rw [rng_set]
  refine rng_congr fun j hj => ?_
  by_cases h : j = y
  · subst h; rw [if_pos rfl, if_pos (by omega)]
  · rw [if_neg h]
    by_cases h2 : j < y
    · rw [if_pos h2, if_pos (by omega)]
    · rw [if_neg h2, if_neg (by omega)]
theorem rRow_lt {H W y : Nat} (h : y < H) : ltL 4 (rRow H W (y + 1)) = false := by
  rw [Bool.eq_false_iff]
  intro hc
  have h1 := rRow_at (W := W) (y := y + 1) h
  rw [if_pos (by omega)] at h1
  have := ltL_iff'.1 hc _ (List.mem_of_getElem? h1)
  simp [MV.lt] at this
  try omega
theorem HeadIs.cellE {keep : List Nat} {m : Nat} {A : Sl} {h h1 : MHeap} (e : h = h1) (hn : hltL m (h1.take m) = false) : HeadIs keep m A h h1 := by
  subst e; exact .cell hn
abbrev loH (t : Tk) (y : Nat) : MHeap := [⟨0, false, 9, [encO t]⟩, ⟨0, true, 1, []⟩, ⟨0, false, 1, rRow t.ter.length t.W y⟩, ⟨0, false, 1, [.arr 2 0 t.ter.length 0]⟩] ++ List.replicate y ⟨0, false, 1, List.replicate t.W (I64 0)⟩
theorem loH_len (t : Tk) (y : Nat) : (loH t y).length = 4 + y := by simp [loH]; omega
theorem loH_get {t : Tk} {y : Nat} (hy : y < t.ter.length) : (loH t t.ter.length)[4 + y]? = some ⟨0, false, 1, List.replicate t.W (I64 0)⟩ := by
  unfold loH
  rw [List.getElem?_append_right (by simp)]
  rw [List.getElem?_replicate, if_pos (by simp; try omega)]
theorem zeros_at {H W : Nat} {y : Nat} (hy : y < H) : (List.replicate H (List.replicate W (0 : Int))).getD y [] = List.replicate W 0 := by
  rw [List.getD_eq_getElem?_getD, List.getElem?_replicate, if_pos hy]; rfl
/-- The memory when nodes are visited first. -/
theorem loM0 (t : Tk) (ok : OkT t) : LoM t (fun n => n = 5 + t.ter.length) (List.replicate t.ter.length (List.replicate t.W 0)) 0 (.lit (.slice none 0 0)) [] (loH t t.ter.length ++ [⟨0, false, 1, [.lit (.slice none 0 0)]⟩]) := by
  have hL := loH_len t t.ter.length
  have hfull : Full (loH t t.ter.length ++ [(⟨0, false, 1, [.lit (.slice none 0 0)]⟩ : MObj)]) := by
    refine Full.app1 ⟨Nat.le_refl _, fun j o hj ho => ?_⟩ rfl
    rw [hL] at hj ⊢
    have hm := List.mem_of_getElem? ho
    simp only [loH, List.cons_append, List.nil_append, List.mem_cons, List.mem_replicate] at hm
    rcases hm with rfl | rfl | rfl | rfl | ⟨_, rfl⟩
    · simp [ltL, MV.lt, ltL_I, ltL_W, ltL_B]
    · rfl
    · refine ltL_iff'.2 fun m hm => ?_
      obtain ⟨i, hi⟩ := List.getElem?_of_mem hm
      have hi2 : i < t.ter.length := by have := (List.getElem?_eq_some_iff.1 hi).1; simpa [rRow] using this
      rw [rRow_at hi2, if_pos hi2] at hi
      cases hi
      simp [MV.lt]; omega
    · simp [ltL, MV.lt]; omega
    · refine ltL_iff'.2 fun m hm => ?_
      rw [List.mem_replicate] at hm
      rw [hm.2]; rfl
  refine ⟨rfl, rfl, ⟨⟨rRow t.ter.length t.W t.ter.length, rfl, by simp [rRow], fun y hy => by rw [rRow_at hy, if_pos hy]⟩, fun y hy => ?_, by simp, fun y hy => by rw [zeros_at hy]; simp, fun y y' _ _ h => Nat.add_left_cancel h, fun y hy => by show 4 + y ≠ 2; omega⟩, ?_, .nil, hfull, fun n hn => ?_⟩
  · rw [zeros_at hy]
    show (loH t t.ter.length ++ _)[4 + y]? = _
    rw [List.getElem?_append_left (by omega), loH_get hy]
    simp
  · rw [List.getElem?_append_right (by omega), hL]; simp
  · subst hn
    refine ⟨Nat.le_refl _, ?_⟩
    have := hfull
    unfold Full at this
    rw [List.length_append, hL] at this
    simpa [Nat.add_comm, Nat.add_left_comm, Nat.add_assoc] using this
theorem nodesP_mem {H W y x : Nat} : (y, x) ∈ nodesP H W ↔ y < H ∧ x < W := by
  unfold nodesP
  simp only [List.mem_flatMap, List.mem_range, List.mem_map, Prod.mk.injEq]
  constructor
  · rintro ⟨a, h1, b, h2, rfl, rfl⟩; exact ⟨h1, h2⟩
  · rintro ⟨h1, h2⟩; exact ⟨y, h1, x, h2, rfl, rfl⟩
theorem nodesP_len (H W : Nat) : (nodesP H W).length = H * W := by
  induction H with
  | zero => simp [nodesP]
  | succ n ih => rw [nodesP_succ, List.length_append, ih, List.length_map, List.length_range, Nat.succ_mul]
theorem mf_lowest : MT.mf 115 = some ⟨96, [(.tmp 2)], (.seq (.reg [⟨none, (some 1), (.box 9 (.s 0))⟩, ⟨none, (some 2), (.nil0 1)⟩]) (.seq (.reg [⟨none, (some 10), (.fa 6 (.s 1))⟩, ⟨none, (some 11), (.ld none (.s 10))⟩, ⟨none, (some 12), (.mks (.lit (.slice none 0 0)) (.s 11))⟩, ⟨none, (some 3), (.new (.lit (.slice none 0 0)))⟩, ⟨none, none, (.st 1 (.s 3) (.s 12))⟩]) (.seq (.seq (.reg [⟨none, (some 13), (.ld none (.s 3))⟩, ⟨none, (some 14), (.len (.s 13))⟩, ⟨none, (some 15), (.mv (.c (.lit (.int .i64 0))))⟩]) (.block 0 (.loop [15, 14, 3, 1] (.seq (.reg [⟨none, (some 16), (.bin .lss (.s 15) (.s 14))⟩]) (.seq (.cond (.s 16) .skip (.exit 0)) (.seq (.block 1 (.seq (.reg [⟨none, (some 17), (.mv (.s 15))⟩, ⟨none, (some 4), (.mv (.s 17))⟩]) (.reg [⟨none, (some 18), (.ld none (.s 3))⟩, ⟨none, (some 19), (.mv (.s 4))⟩, ⟨none, (some 20), (.fa 5 (.s 1))⟩, ⟨none, (some 21), (.ld none (.s 20))⟩, ⟨none, (some 22), (.mks (.lit (.int .i64 0)) (.s 21))⟩, ⟨none, (some 23), (.ia 1 (.s 18) (.s 19))⟩, ⟨none, none, (.st 1 (.s 23) (.s 22))⟩]))) (.reg [⟨none, (some 24), (.bin .add (.s 15) (.c (.lit (.int .i64 1))))⟩, ⟨none, (some 15), (.mv (.s 24))⟩]))))))) (.seq (.reg [⟨none, (some 5), (.new (.lit (.slice none 0 0)))⟩]) (.seq (.seq (.reg [⟨none, (some 25), (.ld (some 9) (.s 1))⟩, ⟨none, (some 26), (.mf 114 1 [(.s 25)])⟩]) (.block 2 (.rf [1, 3, 5] (.s 26) [27] (.reg [⟨none, (some 6), (.new (.agg [(.lit (.int .i64 0)), (.lit (.int .i64 0))]))⟩, ⟨none, none, (.st 2 (.s 6) (.s 27))⟩]) (.block 3 (.seq (.reg [⟨none, (some 28), (.ld (some 9) (.s 1))⟩, ⟨none, (some 29), (.ld (some 2) (.s 6))⟩, ⟨none, (some 30), (.call 116 [(.s 28), (.s 29)])⟩]) (.cond (.s 30) (.seq (.reg [⟨none, (some 31), (.ld none (.s 3))⟩, ⟨none, (some 32), (.fa 1 (.s 6))⟩, ⟨none, (some 33), (.ld none (.s 32))⟩, ⟨none, (some 34), (.ia 1 (.s 31) (.s 33))⟩, ⟨none, (some 35), (.ld none (.s 34))⟩, ⟨none, (some 36), (.fa 0 (.s 6))⟩, ⟨none, (some 37), (.ld none (.s 36))⟩, ⟨none, (some 38), (.ld (some 9) (.s 1))⟩, ⟨none, (some 39), (.ld (some 2) (.s 6))⟩, ⟨none, (some 40), (.call 117 [(.s 38), (.s 39)])⟩, ⟨none, (some 41), (.ia 1 (.s 35) (.s 37))⟩, ⟨none, none, (.st 1 (.s 41) (.s 40))⟩]) (.reg [⟨none, (some 42), (.ld none (.s 5))⟩, ⟨none, (some 43), (.ld (some 2) (.s 6))⟩, ⟨none, (some 44), (.bsl (.agg [(.lit (.int .i64 0)), (.lit (.int .i64 0))]) 2 1 [(0, (.s 43))])⟩, ⟨none, (some 45), (.app 2 (.s 42) (.s 44))⟩, ⟨none, none, (.st 1 (.s 5) (.s 45))⟩])) .skip)))))) (.seq (.block 4 (.loop [5, 1, 3] (.seq (.seq (.reg [⟨none, (some 46), (.ld none (.s 5))⟩, ⟨none, (some 47), (.len (.s 46))⟩, ⟨none, (some 48), (.bin .gtr (.s 47) (.c (.lit (.int .i64 0))))⟩]) (.cond (.s 48) .skip (.exit 4))) (.block 5 (.seq (.reg [⟨none, (some 49), (.ld none (.s 5))⟩, ⟨none, (some 50), (.ia 2 (.s 49) (.c (.lit (.int .i64 0))))⟩, ⟨none, (some 51), (.ld (some 2) (.s 50))⟩, ⟨none, (some 7), (.new (.agg [(.lit (.int .i64 0)), (.lit (.int .i64 0))]))⟩, ⟨none, none, (.st 2 (.s 7) (.s 51))⟩]) (.seq (.reg [⟨none, (some 52), (.ld none (.s 5))⟩, ⟨none, (some 53), (.slc 2 (.s 52) (some (.c (.lit (.int .i64 1)))) none)⟩, ⟨none, none, (.st 1 (.s 5) (.s 53))⟩]) (.seq (.reg [⟨none, (some 54), (.ld (some 9) (.s 1))⟩, ⟨none, (some 55), (.ld (some 2) (.s 7))⟩, ⟨none, (some 56), (.call 154 [(.s 54), (.s 55)])⟩]) (.block 6 (.rf [3, 7, 1, 5] (.s 56) [57] (.reg [⟨none, (some 8), (.new (.agg [(.lit (.int .i64 0)), (.lit (.int .i64 0))]))⟩, ⟨none, none, (.st 2 (.s 8) (.s 57))⟩]) (.block 7 (.seq (.reg [⟨none, (some 58), (.ld none (.s 3))⟩, ⟨none, (some 59), (.fa 1 (.s 7))⟩, ⟨none, (some 60), (.ld none (.s 59))⟩, ⟨none, (some 61), (.ia 1 (.s 58) (.s 60))⟩, ⟨none, (some 62), (.ld none (.s 61))⟩, ⟨none, (some 63), (.fa 0 (.s 7))⟩, ⟨none, (some 64), (.ld none (.s 63))⟩, ⟨none, (some 65), (.ia 1 (.s 62) (.s 64))⟩, ⟨none, (some 66), (.ld none (.s 65))⟩, ⟨none, (some 67), (.fa 0 (.s 1))⟩, ⟨none, (some 68), (.fa 4 (.s 67))⟩, ⟨none, (some 69), (.ld none (.s 68))⟩, ⟨none, (some 70), (.bin .sub (.s 66) (.s 69))⟩, ⟨none, (some 9), (.mv (.s 70))⟩]) (.seq (.reg [⟨none, (some 71), (.mv (.s 9))⟩, ⟨none, (some 72), (.ld none (.s 3))⟩, ⟨none, (some 73), (.fa 1 (.s 8))⟩, ⟨none, (some 74), (.ld none (.s 73))⟩, ⟨none, (some 75), (.ia 1 (.s 72) (.s 74))⟩, ⟨none, (some 76), (.ld none (.s 75))⟩, ⟨none, (some 77), (.fa 0 (.s 8))⟩, ⟨none, (some 78), (.ld none (.s 77))⟩, ⟨none, (some 79), (.ia 1 (.s 76) (.s 78))⟩, ⟨none, (some 80), (.ld none (.s 79))⟩, ⟨none, (some 81), (.bin .gtr (.s 71) (.s 80))⟩]) (.cond (.s 81) (.seq (.reg [⟨none, (some 82), (.ld none (.s 3))⟩, ⟨none, (some 83), (.fa 1 (.s 8))⟩, ⟨none, (some 84), (.ld none (.s 83))⟩, ⟨none, (some 85), (.ia 1 (.s 82) (.s 84))⟩, ⟨none, (some 86), (.ld none (.s 85))⟩, ⟨none, (some 87), (.fa 0 (.s 8))⟩, ⟨none, (some 88), (.ld none (.s 87))⟩, ⟨none, (some 89), (.mv (.s 9))⟩, ⟨none, (some 90), (.ia 1 (.s 86) (.s 88))⟩, ⟨none, none, (.st 1 (.s 90) (.s 89))⟩]) (.reg [⟨none, (some 91), (.ld none (.s 5))⟩, ⟨none, (some 92), (.ld (some 2) (.s 8))⟩, ⟨none, (some 93), (.bsl (.agg [(.lit (.int .i64 0)), (.lit (.int .i64 0))]) 2 1 [(0, (.s 92))])⟩, ⟨none, (some 94), (.app 2 (.s 91) (.s 93))⟩, ⟨none, none, (.st 1 (.s 5) (.s 94))⟩])) .skip))))))))))))) (.seq (.reg [⟨none, (some 95), (.ld none (.s 3))⟩, ⟨none, (some 2), (.mv (.s 95))⟩]) .ret)))))))⟩ := by kernel_rfl
set_option maxHeartbeats 4000000 in
theorem lowest_z (k : Nat) (t : Tk) (ok : OkT t) {g : List (List Int)} (hg : Lea t g) : runZ MT (orA (k + 4)) (itA (k + 4)) 4000000 115 [encO t] [] = some (.arr 0 0 t.ter.length 0, [⟨0, false, 1, g.map encW⟩]) := by
  obtain ⟨h1, h2⟩ := ok.h1
  obtain ⟨w1, w2⟩ := ok.w1
  refine runZ_of mf_lowest (by simp) ?_
  simp only [argsL]
  repeat (first | apply ef_seq | (apply ef_mv; exact rfl; exact rfl) | (apply ef_len; exact rfl; exact rfl; (exact rfl)) | (apply ef_ldp; exact rfl; exact rfl; (exact rfl); exact rfl; (exact rfl); (exact rfl)) | (apply ef_fap; exact rfl; exact rfl) | (apply ef_box; exact rfl; exact rfl; exact rfl; exact rfl) | (apply ef_newst; exact rfl; exact rfl; exact rfl; exact rfl; exact rfl) | (apply ef_nil0; exact rfl) | (apply ef_mks; exact rfl; exact rfl; (omega); (omega)) | apply ef_nil | apply seqQ.normal | apply ef_block)
  refine ef_loopg (α := Nat) (fun y => y ≤ t.ter.length) (fun y => [(15, I64 (y : Int))]) [(14, _), (3, .ptr 3 0 0 0), (1, .ptr 0 0 0 0)] (fun y => loH t y) (fun y => t.ter.length - y) 0 [15] (fun _ => rfl) (by ((repeat (refine Hold.cons (by exact rfl) ?_)); exact Hold.nil)) (by ((repeat (refine Hold.cons (by exact rfl) ?_)); exact Hold.nil)) rfl rfl (by rw [loH, rRow_zero]; rfl) (by simp) (by simp; omega) ?_
  intro y hy
  by_cases hlt : y < t.ter.length
  · have hcell : (rRow t.ter.length t.W y)[0 + ((y : Nat) : Int).toNat]? = some (.lit (.slice none 0 0)) := by
      rw [Nat.zero_add, Int.toNat_natCast, rRow_at hlt, if_neg (by omega)]
    repeat (first | apply ef_seq | (apply ef_mv; exact rfl; exact rfl) | (apply ef_bin; exact rfl; exact rfl; exact rfl; (first | exact cmp_t rfl (by first | exact rfl | (simp only [cmpP]; omega)) | ((with_reducible refine bin_add (wrap_of ?_ ?_)) <;> omega))) | (apply ef_ldp; exact rfl; exact rfl; (exact rfl); exact rfl; (exact rfl); (exact rfl)) | (apply ef_iaa; exact rfl; exact rfl; exact rfl; (omega); (omega); (exact rfl)) | (apply ef_fap; exact rfl; exact rfl) | (apply ef_mks; exact rfl; exact rfl; (omega); (omega)) | (apply ef_st; exact rfl; exact rfl; exact rfl; exact rfl; exact rfl; exact rfl; (assumption); exact rfl) | apply ef_nil | apply seqQ.normal | apply blockQ.normal | apply ef_block | apply ef_skip | (apply ef_condt; exact rfl; (exact (rfl : true = true))))
    refine loopQ.normal _ _ ⟨y + 1, hlt, by omega, ⟨by ((repeat (refine Hold.cons (by exact rfl) ?_)); exact Hold.nil), by ((repeat (refine Hold.cons (by exact rfl) ?_)); exact Hold.nil)⟩, HeadIs.cellE ?_ (hltL_no (m := 4) (j := 2) (o := ⟨0, false, 1, rRow t.ter.length t.W (y + 1)⟩) (by decide) rfl (rRow_lt hlt))⟩
    show List.set (loH t y ++ [⟨0, false, 1, List.replicate ((t.W : Int)).toNat (I64 0)⟩]) 2 ⟨0, false, 1, (rRow t.ter.length t.W y).set (0 + ((y : Nat) : Int).toNat) (.arr (loH t y).length 0 ((t.W : Int)).toNat 0)⟩ = _
    rw [loH_len, Int.toNat_natCast t.W, rRow_set]
    simp [loH, List.replicate_succ']
  · obtain rfl : y = t.ter.length := by omega
    repeat (first | apply ef_seq | (apply ef_bin; exact rfl; exact rfl; exact rfl; (exact cmp_f rfl (by simp only [cmpP]; omega))) | (apply ef_ldp; exact rfl; exact rfl; (exact rfl); exact rfl; (exact rfl); (exact rd_whole rfl)) | (apply ef_new; exact rfl) | (apply ef_mf; exact rfl; (repeat (apply XVs.cons; exact rfl)); exact XVs.nil) | apply ef_nil | apply seqQ.normal | apply loopQ.exit | apply ef_exit | apply seqQ.exit | apply blockQ.here | apply ef_block | (apply ef_condf; exact rfl; (exact (rfl : false = false))))
    rw [loH_len]
    have hm0 := loM0 t ok
    show Ef _ _ _ _ _ _ _ (loH t t.ter.length ++ [⟨0, false, 1, [.lit (.slice none 0 0)]⟩]) _
    have hlen0 : (loH t t.ter.length ++ [(⟨0, false, 1, [.lit (.slice none 0 0)]⟩ : MObj)]).length = 5 + t.ter.length := by rw [List.length_append, loH_len]; simp; omega
    generalize (loH t t.ter.length ++ [(⟨0, false, 1, [.lit (.slice none 0 0)]⟩ : MObj)]) = hh0 at *
    refine ef_rf (α := List (List Int) × Nat × MV × List (Nat × Nat) × MHeap) (ids := [])
      (fun i s => Shp t s.1 ∧ (∀ y x, y < t.H → x < t.W → at2 s.1 y x = if (y, x) ∈ (nodesP t.ter.length t.W).take i then t.base y x else 0) ∧ s.2.2.2.1 = ((nodesP t.ter.length t.W).take i).filter (fun p => t.fl p.1 p.2) ∧ s.2.1 ≤ i ∧ LoM t (fun n => s.2.2.2.1 = [] ∧ n = 5 + t.ter.length) s.1 s.2.1 s.2.2.1 s.2.2.2.1 s.2.2.2.2 ∧ (s.2.2.2.1 = [] → s.2.2.1 = .lit (.slice none 0 0)) ∧ (s.2.2.2.1 ≠ [] → s.2.2.1.lt (5 + t.ter.length) = false ∧ s.2.2.1 ≠ .lit (.slice none 0 0)))
      [(1, .ptr 0 0 0 0), (3, .ptr 3 0 0 0), (5, .ptr (4 + t.ter.length) 0 0 0)] (fun s => s.2.2.2.2) (fun s => if s.2.2.2.1 = [] then s.2.2.2.2.take (5 + t.ter.length) else s.2.2.2.2)
      (List.replicate t.ter.length (List.replicate t.W 0), 0, .lit (.slice none 0 0), [], hh0) (by exact rfl) (nodes_it (k + 4) t ok _) (by simp [posY]) (idsL_lt0 (by simp [ltL, MV.lt, ltL_I, ltL_W, ltL_B])) (by ((repeat (refine Hold.cons (by exact rfl) ?_)); exact Hold.nil)) rfl rfl rfl ⟨⟨by simp [Tk.H], fun y h => by simp⟩, fun y x hy hx => by
        simp only [List.take_zero, List.not_mem_nil, if_false]
        unfold at2
        rw [zeros_at (H := t.ter.length) hy, List.getD_eq_getElem?_getD, List.getElem?_replicate, if_pos hx]; rfl, rfl, by simp, hm0.less fun n h => h.2, fun _ => rfl, fun h => absurd rfl h⟩ rfl ?_ ?_ ?_
    · rintro i ⟨s, B, qv, Q, h⟩ ⟨_, _, _, _, hm, _, hq⟩
      simp only at hm hq ⊢
      rw [hlen0]
      by_cases hQ : Q = []
      · rw [if_pos hQ]
        refine HeadIs.tk (hm.lv _ ⟨hQ, rfl⟩).2 fun u hu => ?_
        simp only [List.mem_cons, List.not_mem_nil, or_false] at hu
        rcases hu with rfl | rfl | rfl
        · exact ⟨.ptr 0 0 0 0, by exact rfl, by simp [MV.lt]; omega⟩
        · exact ⟨.ptr 3 0 0 0, by exact rfl, by simp [MV.lt]; omega⟩
        · exact ⟨.ptr (4 + t.ter.length) 0 0 0, by exact rfl, by simp [MV.lt]⟩
      · rw [if_neg hQ]
        exact .cell (hltL_no (j := 4 + t.ter.length) (by omega) hm.qc (by simp [ltL, (hq hQ).1]))
    · rintro i ⟨s, B, qv, Q, h⟩ x hx ⟨hsh, hat, hQ, hB, hm, hq1, hq2⟩
      simp only at hsh hat hQ hB hm hq1 hq2 ⊢
      obtain ⟨⟨y, x⟩, hp, rfl⟩ : ∃ p, (nodesP t.ter.length t.W)[i]? = some p ∧ x = [posM p] := by
        simp only [posY, List.getElem?_map, Option.map_eq_some_iff] at hx
        obtain ⟨w, h1, h2⟩ := hx
        exact ⟨w, h1, h2.symm⟩
      obtain ⟨hy, hxw⟩ := nodesP_mem.1 (List.mem_of_getElem? hp)
      have hi := (List.getElem?_eq_some_iff.1 hp).1
      have htk : (nodesP t.ter.length t.W).take (i + 1) = (nodesP t.ter.length t.W).take i ++ [(y, x)] := by rw [List.take_add_one, hp]; rfl
      have hm1 : LoM t (fun n => Q = [] ∧ n = 5 + t.ter.length) s B qv Q (if Q = [] then h.take (5 + t.ter.length) else h) := by
        by_cases hQ0 : Q = []
        · rw [if_pos hQ0]
          exact hm.take ⟨hQ0, rfl⟩ fun k hk => by omega
        · rw [if_neg hQ0]; exact hm
      generalize (if Q = [] then h.take (5 + t.ter.length) else h) = hh at *
      simp only [putA]
      have hm2 := hm1.app1 ⟨0, false, 2, [posM (y, x)]⟩ rfl
      have hpc : (hh ++ [(⟨0, false, 2, [posM (y, x)]⟩ : MObj)])[hh.length]? = some ⟨0, false, 2, [posM (y, x)]⟩ := at_end _ _
      have hpl := hm1.len
      have f0 := hm2.b0
      have f3 := hm2.b3
      have fq := hm2.qc
      obtain ⟨refs, r1, r2, r3, r4, r5, r6⟩ := hm2.sf.rd hy hxw
      try simp only at r3 r4 r5
      repeat (first | (apply ef_newst; exact rfl; exact rfl; exact rfl; exact rfl; exact rfl) | apply ef_nil)
      apply preQ.normal
      cases hf : t.fl y x
      · have hfl := fun h => flown_c (k + 1) t (x : Int) (y : Int) h (by omega) (by omega) ((t.flI_nat hy hxw).trans hf)
        repeat (first | apply ef_seq | (apply ef_ldp; exact rfl; exact rfl; (assumption); exact rfl; (exact rfl); (first | exact rd_2 rfl rfl | exact rd_whole rfl)) | apply ef_nil | apply seqQ.normal | apply blockQ.normal | apply ef_block | apply ef_skip | (apply ef_condf; exact rfl; (exact (rfl : false = false))) | (apply ef_call; exact rfl; ((repeat (apply XVs.cons; exact rfl)); exact XVs.nil); (with_reducible exact hfl _)))
        apply rfQ.normal
        refine ⟨(s, B, qv, Q, hh ++ [⟨0, false, 2, [posM (y, x)]⟩]), ⟨hsh, fun a b ha hb => ?_, ?_, by simp only; omega, hm2, hq1, hq2⟩, rfl⟩
        · simp only
          rw [hat a b ha hb, htk]
          by_cases e : (a, b) = (y, x)
          · cases e
            have : t.base y x = 0 := by simp [Tk.base, hf]
            simp [this]
          · simp [List.mem_append, e]
        · simp only
          rw [hQ, htk, List.filter_append]
          simp [hf]
      · have hfl := fun h => flown_c (k + 1) t (x : Int) (y : Int) h (by omega) (by omega) ((t.flI_nat hy hxw).trans hf)
        have hown := fun h => own_c (k + 3) t ok hy hxw h
        repeat (first | apply ef_seq | (apply ef_ldp; exact rfl; exact rfl; (assumption); exact rfl; (first | exact rfl | assumption); (first | exact rd_2 rfl rfl | exact rd_whole rfl | exact rfl)) | (apply ef_iaa; exact rfl; exact rfl; exact rfl; (omega); (omega); (assumption)) | (apply ef_fap; exact rfl; exact rfl) | apply ef_nil | apply seqQ.normal | apply ef_block | (apply ef_condt; exact rfl; (exact (rfl : true = true))) | (apply ef_call; exact rfl; ((repeat (apply XVs.cons; exact rfl)); exact XVs.nil); (with_reducible first | exact hfl _ | exact hown _)))
        refine ef_st (o := ⟨0, false, 1, (s.getD y []).map I64⟩) (v := I64 (t.need y x)) (by exact rfl) rfl (by exact rfl) r4 rfl rfl r6 rfl ?_
        have m3 := hm2.put (x := x) (v := t.need y x) hy
        have hpc3 : ((hh ++ [(⟨0, false, 2, [posM (y, x)]⟩ : MObj)]).set (4 + y) ⟨0, false, 1, ((s.getD y []).map I64).set x (I64 (t.need y x))⟩)[hh.length]? = some ⟨0, false, 2, [posM (y, x)]⟩ := by
          rw [List.getElem?_set_ne (by omega)]; exact hpc
        show Ef _ _ _ _ _ _ _ ((hh ++ [(⟨0, false, 2, [posM (y, x)]⟩ : MObj)]).set (4 + y) ⟨0, false, 1, ((s.getD y []).map I64).set (0 + ((x : Nat) : Int).toNat) (I64 (t.need y x))⟩) _
        rw [show 0 + ((x : Nat) : Int).toNat = x by simp]
        clear f0 f3 fq r1 r2 r3 r4 r5 r6 hpc
        generalize ((hh ++ [(⟨0, false, 2, [posM (y, x)]⟩ : MObj)]).set (4 + y) ⟨0, false, 1, ((s.getD y []).map I64).set x (I64 (t.need y x))⟩) = h3 at m3 hpc3 ⊢
        have fq := m3.qc
        have hset := fun a b => at2_set (g := s) (y := y) (x := x) (y' := a) (x' := b) (v := t.need y x) (by rw [hsh.hl]; exact hy) (by rw [hsh.row hy]; exact hxw)
        have hat2 : ∀ a b, a < t.H → b < t.W → at2 (set2 s y x (t.need y x)) a b = if (a, b) ∈ (nodesP t.ter.length t.W).take (i + 1) then t.base a b else 0 := fun a b ha hb => by
          rw [hset, hat a b ha hb, htk]
          by_cases e : a = y ∧ b = x
          · obtain ⟨rfl, rfl⟩ := e
            simp [Tk.base, hf]
          · rw [if_neg e]
            have : ¬ ((a, b) = (y, x)) := fun h => e (by cases h; exact ⟨rfl, rfl⟩)
            simp [List.mem_append, this]
        have hfil : ((nodesP t.ter.length t.W).take (i + 1)).filter (fun p => t.fl p.1 p.2) = Q ++ [(y, x)] := by
          rw [htk, List.filter_append, ← hQ]
          simp [hf]
        have hnl : i < 144 := by
          rw [nodesP_len] at hi
          have := Nat.mul_le_mul h2 w2
          omega
        have hl3 := m3.len
        repeat (first | apply ef_nil | apply seqQ.normal)
        (apply ef_ldp; (· exact rfl); (· exact rfl); (· exact fq); (· exact rfl); (· exact rfl); (· exact m3.qu.cell))
        repeat (first | (apply ef_ldp; exact rfl; exact rfl; (assumption); exact rfl; (exact rfl); (exact rd_2 rfl rfl)) | (apply ef_bsl; exact rfl; (repeat (apply XVs.cons; exact rfl)); exact XVs.nil; exact rfl))
        by_cases hQ0 : Q = []
        · have hqn := hq1 hQ0
          rw [hQ0, hqn] at m3
          rw [hQ0, List.nil_append] at hfil
          subst hqn
          (apply ef_pushN (t := t) (q := (y, x)); (· exact rfl); (· exact rfl); (· exact rfl); (· exact fun _ => rfl); (· exact fun _ => rfl); (· exact m3))
          intro h4 qv4 m4 n4 l4
          repeat (first | apply ef_nil | apply blockQ.normal)
          apply rfQ.normal
          exact ⟨(set2 s y x (t.need y x), B + 1, qv4, [(y, x)], h4), ⟨hsh.set hy, hat2, hfil.symm, by simp only; omega, m4.less (fun n hn => by cases hn.1), (fun h => by cases h), fun _ => ⟨l4 _ (by omega), n4⟩⟩, rfl⟩
        · obtain ⟨q1, q2⟩ := hq2 hQ0
          (apply ef_pushA (t := t) (q := (y, x)); (· exact rfl); (· exact rfl); (· exact rfl); (· exact fun _ => rfl); (· exact fun _ => rfl); (· exact m3); (· exact q2); (· omega))
          intro h4 qv4 m4 n4 l4 _ _
          repeat (first | apply ef_nil | apply blockQ.normal)
          apply rfQ.normal
          exact ⟨(set2 s y x (t.need y x), B + 1, qv4, Q ++ [(y, x)], h4), ⟨hsh.set hy, hat2, hfil.symm, by simp only; omega, m4.less (fun n hn => by have := hn.1; simp at this), (fun h => by simp at h), fun _ => ⟨by rw [l4]; exact q1, n4⟩⟩, rfl⟩
    · rintro ⟨s, B, qv, Q, h⟩ ⟨hsh, hat, hQ, hB, hm, hq1, hq2⟩
      simp only at hsh hat hQ hB hm hq1 hq2 ⊢
      have hlenY : (posY (nodesP t.ter.length t.W)).length = (nodesP t.ter.length t.W).length := by simp [posY]
      rw [hlenY, List.take_length] at hQ hat
      rw [hlenY, nodesP_len] at hB
      have hs0 : s = t.s0 := hsh.ext (s0_shp t) fun y x hy hx => by rw [hat y x hy hx, if_pos (nodesP_mem (H := t.ter.length).2 ⟨hy, hx⟩), s0_at hy hx]
      have h144 : t.ter.length * t.W ≤ 12 * 12 := Nat.mul_le_mul h2 w2
      have hQl : Q.length ≤ 144 := by
        rw [hQ]
        have := List.length_filter_le (fun p => t.fl p.1 p.2) (nodesP t.ter.length t.W)
        rw [nodesP_len] at this
        omega
      have hqi : QuI t s Q none := by
        subst hs0
        refine ⟨s0_pre t, fun p hp => ?_, fun y x hy hx hf hn _ => ?_⟩
        · rw [hQ, List.mem_filter] at hp
          obtain ⟨a, b⟩ := p
          exact ⟨(nodesP_mem.1 hp.1).1, (nodesP_mem.1 hp.1).2, hp.2⟩
        · exact absurd (by rw [hQ, List.mem_filter]; exact ⟨nodesP_mem.2 ⟨hy, hx⟩, hf⟩) hn
      have hq3 : Q ≠ [] → qv ≠ .lit (.slice none 0 0) := fun h => (hq2 h).2
      have hm3 := hm.lev.less (N' := fun n => n = h.length) fun n hn => .inr hn
      clear hQ hat hq1 hq2 hs0 hsh hm hm0 hlenY
      have ht0 := ok.tot hqi.pre
      repeat (first | apply ef_seq | apply seqQ.normal | apply blockQ.normal | apply ef_block)
      refine ef_loopg (α := List (List Int) × Nat × MV × List (Nat × Nat) × MHeap)
        (fun s => QuI t s.1 s.2.2.2.1 none ∧ LoM t (fun n => n = h.length) s.1 s.2.1 s.2.2.1 s.2.2.2.1 s.2.2.2.2 ∧ s.2.2.2.2.length = h.length ∧ (s.2.1 : Int) ≤ 144 + tot s.1 ∧ (s.2.2.2.1 ≠ [] → s.2.2.1 ≠ .lit (.slice none 0 0)))
        (fun _ => []) [(5, .ptr (4 + t.ter.length) 0 0 0), (1, .ptr 0 0 0 0), (3, .ptr 3 0 0 0)] (fun s => s.2.2.2.2) (fun s => s.2.2.2.1.length + (2880000 - tot s.1).toNat) (s, B, qv, Q, h) [] (fun _ => rfl) (by ((repeat (refine Hold.cons (by exact rfl) ?_)); exact Hold.nil)) (by ((repeat (refine Hold.cons (by exact rfl) ?_)); exact Hold.nil)) rfl rfl rfl ⟨hqi, hm3, rfl, by simp only; omega, hq3⟩ (by simp only; omega) ?_
      clear hqi hm3 hB hQl hq3 ht0 hlen0 s B qv Q
      rintro ⟨s, B, qv, Q, h5⟩ ⟨hqi, hm, hl5, hB, hq3⟩
      simp only at hqi hm hl5 hB hq3 ⊢
      have ht0 := ok.tot hqi.pre
      have fq := hm.qc
      have f3 := hm.b3
      cases Q with
      | nil =>
        have hlea := hqi.done
        have hsg : s = g := hlea.uniq hg
        obtain ⟨refs, k1, k2, k3⟩ := hm.sf.top
        have hrow := hm.sf.row
        have hwl := hm.sf.wl
        have hgl := hm.sf.gl
        have he : refs.mapM (frz 0 [2] h5 8) = some (g.map encW) := by
          rw [← hsg]
          refine mapM_get (by rw [k2, List.length_map, hgl]) fun j a b ha hb => ?_
          have hj : j < t.ter.length := by have := (List.getElem?_eq_some_iff.1 ha).1; omega
          rw [k3 j hj] at ha
          cases ha
          have hr := hrow j hj
          have hw := hwl j hj
          have hb2 : b = encW (s.getD j []) := by
            rw [List.getElem?_map, List.getElem?_eq_getElem (by omega)] at hb
            cases hb
            rw [List.getD_eq_getElem?_getD, List.getElem?_eq_getElem (by omega)]; rfl
          rw [hb2]
          clear hb hb2
          generalize s.getD j [] = r at *
          have q1 : ([2] : List Nat).contains (4 + j) = false := by simp; omega
          have q2 : (r.map I64).take t.W = r.map I64 := List.take_of_length_le (by simp; omega)
          simp only [frz, MV.lt, Nat.not_lt_zero, decide_false, Bool.false_eq_true, if_false, q1, hr]
          simp only [ltL_I, if_true, List.drop_zero, q2]
          simp [hw]
        have hlf : ltL 0 refs = true → refs = g.map encW := fun hl => by
          have := ltL_iff'.1 hl _ (List.mem_of_getElem? (k3 0 h1))
          simp [MV.lt] at this
        have hqu := hm.qu
        cases hqu with
        | nil =>
          repeat (first | apply ef_seq | (apply ef_mv; exact rfl; exact rfl) | (apply ef_bin; exact rfl; exact rfl; exact rfl; (exact cmp_f rfl (by simp only [cmpP]; omega))) | (apply ef_len; exact rfl; exact rfl; (exact rfl)) | (apply ef_ldp; exact rfl; exact rfl; (assumption); exact rfl; (exact rfl); (exact rfl)) | apply ef_nil | apply seqQ.normal | apply loopQ.exit | apply ef_ret | apply ef_exit | apply seqQ.exit | apply blockQ.here | (apply ef_condf; exact rfl; (exact (rfl : false = false))))
          (apply fin_arrF; (· exact rfl); (· exact rfl); (· exact k1); (· exact rfl); (· exact k2.symm); (· exact he); (· exact hlf); (· exact rfl); (· exact rfl))
        | arr id gen P _ k1' k2' k3' =>
          repeat (first | apply ef_seq | (apply ef_mv; exact rfl; exact rfl) | (apply ef_bin; exact rfl; exact rfl; exact rfl; (exact rfl)) | (apply ef_len; exact rfl; exact rfl; (exact rfl)) | (apply ef_ldp; exact rfl; exact rfl; (assumption); exact rfl; (exact rfl); (exact rfl)) | apply ef_nil | apply seqQ.normal | apply loopQ.exit | apply ef_ret | apply ef_exit | apply seqQ.exit | apply blockQ.here | (apply ef_condf; exact rfl; (exact (rfl : false = false))))
          (apply fin_arrF; (· exact rfl); (· exact rfl); (· exact k1); (· exact rfl); (· exact k2.symm); (· exact he); (· exact hlf); (· exact rfl); (· exact rfl))
      | cons q Q =>
        obtain ⟨y, x⟩ := q
        have hq4 := hq3 (by simp)
        have hqu := hm.qu
        cases hqu with
        | arr id gen P _ k1 k2 k3 =>
          have hok : MHeap.ok h5 id gen 2 = true := ok_of k1 rfl rfl
          have hlq : ((y, x) :: Q).length = Q.length + 1 := rfl
          have hel : ((P ++ (y, x) :: Q).map posM)[P.length + (0 : Int).toNat]? = some (posM (y, x)) := by simp
          have hm1 := (hm.app1 ⟨0, false, 2, [posM (y, x)]⟩ rfl)
          have fq1 := hm1.qc
          have hpc : (h5 ++ [(⟨0, false, 2, [posM (y, x)]⟩ : MObj)])[h5.length]? = some ⟨0, false, 2, [posM (y, x)]⟩ := at_end _ _
          have hok1 : MHeap.ok (h5 ++ [(⟨0, false, 2, [posM (y, x)]⟩ : MObj)]) id gen 2 = true := ok_of (at_app k1 _) rfl rfl
          repeat (first | apply ef_seq | (apply ef_bin; exact rfl; exact rfl; exact rfl; (exact cmp_t rfl (by first | exact rfl | (simp only [cmpP]; omega)))) | (apply ef_len; exact rfl; exact rfl; (exact rfl)) | (apply ef_ldp; exact rfl; exact rfl; (assumption); exact rfl; (first | exact rfl | assumption); (first | exact rd_2 rfl rfl | exact rfl)) | (apply ef_iaa; exact rfl; exact rfl; exact rfl; (omega); (omega); (assumption)) | (apply ef_newst; exact rfl; exact rfl; exact rfl; exact rfl; exact rfl) | apply ef_nil | apply seqQ.normal | apply ef_block | apply ef_skip | (apply ef_condt; exact rfl; (exact (rfl : true = true))))
          refine ef_slca1 (ht := by exact rfl) (l := 1) (m := ((y, x) :: Q).length) (by exact rfl) (by exact rfl) (by omega) hok1 ?_
          (apply ef_st; (· exact rfl); (· exact rfl); (· exact rfl); (· exact fq1); (· exact rfl); (· exact rfl); (· exact rfl); (· exact rfl))
          have hid : id < h.length := by
            have := hm.qlt (hm.lv h.length rfl).2 (hm.lv h.length rfl).1
            simpa [MV.lt] using this
          have h5l := hm.len
          have m2 := hm1.pop (at_app k1 _) k2 k3
          show Ef _ _ _ _ _ _ _ ((h5 ++ [(⟨0, false, 2, [posM (y, x)]⟩ : MObj)]).set (4 + t.ter.length) ⟨0, false, 1, [.arr id (P.length + 1) Q.length gen]⟩) _
          have hpc2 : ((h5 ++ [(⟨0, false, 2, [posM (y, x)]⟩ : MObj)]).set (4 + t.ter.length) ⟨0, false, 1, [.arr id (P.length + 1) Q.length gen]⟩)[h5.length]? = some ⟨0, false, 2, [posM (y, x)]⟩ := by
            rw [List.getElem?_set_ne (by omega)]; exact hpc
          have hl6 : ((h5 ++ [(⟨0, false, 2, [posM (y, x)]⟩ : MObj)]).set (4 + t.ter.length) ⟨0, false, 1, [.arr id (P.length + 1) Q.length gen]⟩).length = h.length + 1 := by simp [hl5]
          obtain ⟨hyb, hxb, hfb⟩ := hqi.mem (y, x) List.mem_cons_self
          simp only at hyb hxb hfb
          have hqp := hqi.pop
          clear hm1 hpc hok hok1 fq fq1 hel k1 hm hqi hq3 hq4 f3
          generalize ((h5 ++ [(⟨0, false, 2, [posM (y, x)]⟩ : MObj)]).set (4 + t.ter.length) ⟨0, false, 1, [.arr id (P.length + 1) Q.length gen]⟩) = h6 at *
          have f0 := m2.b0
          repeat (first | apply ef_seq | (apply ef_ldp; exact rfl; exact rfl; (assumption); exact rfl; (exact rfl); (first | exact rd_2 rfl rfl | exact rd_whole rfl)) | apply ef_nil | apply seqQ.normal | apply ef_block | (apply ef_call; exact rfl; ((repeat (apply XVs.cons; exact rfl)); exact XVs.nil); (with_reducible exact neighbours_c (k + 3) t _)))
          refine ef_rf (α := List (List Int) × Nat × MV × List (Nat × Nat) × MHeap) (ids := [])
            (fun j s' => QuI t s'.1 s'.2.2.2.1 (some (y, x)) ∧ (∀ p ∈ (t.nbL y x).take j, at2 s'.1 y x - t.cb ≤ at2 s'.1 p.1 p.2) ∧ LoM t (fun n => n = h.length ∨ n = h6.length) s'.1 s'.2.1 s'.2.2.1 s'.2.2.2.1 s'.2.2.2.2 ∧ s'.2.2.1 ≠ .lit (.slice none 0 0) ∧ s'.2.2.1.lt h.length = true ∧ (s'.2.1 : Int) ≤ 144 + tot s'.1 ∧ (s'.2.2.2.1.length : Int) - tot s'.1 ≤ (Q.length : Int) - tot s ∧ s'.2.2.2.2[h5.length]? = some ⟨0, false, 2, [posM (y, x)]⟩)
            [(3, .ptr 3 0 0 0), (7, .ptr h5.length 0 0 0), (1, .ptr 0 0 0 0), (5, .ptr (4 + t.ter.length) 0 0 0)] (fun s => s.2.2.2.2) (fun s => s.2.2.2.2.take h6.length)
            (s, B, .arr id (P.length + 1) Q.length gen, Q, h6) (by exact rfl) (neighbours1_it (k + 2) t ok hyb hxb _) (by simp [posY]) (idsL_lt0 (by simp [ltL, MV.lt, ltL_I, ltL_W, ltL_B])) (by ((repeat (refine Hold.cons (by exact rfl) ?_)); exact Hold.nil)) rfl rfl rfl
            ⟨hqp, by simp, m2.lev, (fun h => by cases h), by simp [MV.lt]; omega, hB, Int.le_refl _, hpc2⟩ rfl ?_ ?_ ?_
          · rintro j ⟨s', B', qv', Q', h7⟩ ⟨_, _, hm7, _⟩
            simp only at hm7 ⊢
            refine HeadIs.tk (hm7.lv _ (.inr rfl)).2 fun u hu => ?_
            simp only [List.mem_cons, List.not_mem_nil, or_false] at hu
            rcases hu with rfl | rfl | rfl | rfl
            · exact ⟨.ptr 3 0 0 0, by exact rfl, by simp [MV.lt]; omega⟩
            · exact ⟨.ptr h5.length 0 0 0, by exact rfl, by simp [MV.lt]; omega⟩
            · exact ⟨.ptr 0 0 0 0, by exact rfl, by simp [MV.lt]; omega⟩
            · exact ⟨.ptr (4 + t.ter.length) 0 0 0, by exact rfl, by simp [MV.lt]; omega⟩
          · rintro j ⟨s', B', qv', Q', h7⟩ x' hx' ⟨hqi, hall, hm7, hqn, hql, hB7, hms, hpc7⟩
            simp only at hqi hall hm7 hqn hql hB7 hms hpc7 ⊢
            obtain ⟨⟨y1, x1⟩, hp, rfl⟩ : ∃ p, (t.nbL y x)[j]? = some p ∧ x' = [posM p] := by
              simp only [posY, List.getElem?_map, Option.map_eq_some_iff] at hx'
              obtain ⟨w, h1, h2⟩ := hx'
              exact ⟨w, h1, h2.symm⟩
            have hnb := (Tk.nbL_mem hyb hxb).1 (List.mem_of_getElem? hp)
            simp only at hnb
            have htk : (t.nbL y x).take (j + 1) = (t.nbL y x).take j ++ [(y1, x1)] := by rw [List.take_add_one, hp]; rfl
            have hm8 := hm7.take (n := h6.length) (.inr rfl) fun k hk => by omega
            have hpc8 : (h7.take h6.length)[h5.length]? = some ⟨0, false, 2, [posM (y, x)]⟩ := by rw [List.getElem?_take, if_pos (by omega)]; exact hpc7
            clear hm7 hpc7 hx'
            generalize h7.take h6.length = h8 at *
            have hm9 := hm8.app1 ⟨0, false, 2, [posM (y1, x1)]⟩ rfl
            have hpc9 := at_app hpc8 [(⟨0, false, 2, [posM (y1, x1)]⟩ : MObj)]
            have hpd9 : (h8 ++ [(⟨0, false, 2, [posM (y1, x1)]⟩ : MObj)])[h8.length]? = some ⟨0, false, 2, [posM (y1, x1)]⟩ := at_end _ _
            have h8l := (hm8.lv h6.length (.inr rfl)).2.1
            have f0 := hm9.b0
            have f3 := hm9.b3
            obtain ⟨refs, r1, r2, r3, r4, r5, r6⟩ := hm9.sf.rd hyb hxb
            obtain ⟨refs', p1, p2, p3, p4, p5, p6⟩ := hm9.sf.rd hnb.1 hnb.2.1
            have hrr : refs' = refs := by rw [p1] at r1; cases r1; rfl
            subst hrr
            try simp only at r3 r4 r5 p3 p4 p5
            obtain ⟨b1, b2⟩ := ok.top hqi.pre y x hyb hxb
            obtain ⟨b3, b4⟩ := ok.top hqi.pre y1 x1 hnb.1 hnb.2.1
            obtain ⟨c1, c2⟩ := ok.cb
            have hy1 : y1 < t.ter.length := hnb.1
            have hx1 := hnb.2.1
            have hyb2 : y < t.ter.length := hyb
            simp only [putA]
            repeat (first | (apply ef_newst; exact rfl; exact rfl; exact rfl; exact rfl; exact rfl) | apply ef_nil)
            apply preQ.normal
            by_cases hr : at2 s' y1 x1 < at2 s' y x - t.cb
            · repeat (first | apply ef_seq | (apply ef_mv; exact rfl; exact rfl) | (apply ef_bin; exact rfl; exact rfl; exact rfl; (first | exact cmp_t rfl (by first | exact rfl | (simp only [cmpP]; omega)) | ((with_reducible refine bin_sub (wrap_of ?_ ?_)) <;> omega))) | (apply ef_ldp; exact rfl; exact rfl; (assumption); exact rfl; (first | exact rfl | assumption); (exact rfl)) | (apply ef_iaa; exact rfl; exact rfl; exact rfl; (omega); (omega); (assumption)) | (apply ef_fap; exact rfl; exact rfl) | apply ef_nil | apply seqQ.normal | apply ef_block | (apply ef_condt; exact rfl; (exact (rfl : true = true))))
              refine ef_st (o := ⟨0, false, 1, (s'.getD y1 []).map I64⟩) (v := I64 (at2 s' y x - t.cb)) (by exact rfl) rfl (by exact rfl) p4 rfl rfl p6 rfl ?_
              have m10 := hm9.put (x := x1) (v := at2 s' y x - t.cb) hnb.1
              have hpc10 : ((h8 ++ [(⟨0, false, 2, [posM (y1, x1)]⟩ : MObj)]).set (4 + y1) ⟨0, false, 1, ((s'.getD y1 []).map I64).set x1 (I64 (at2 s' y x - t.cb))⟩)[h5.length]? = some ⟨0, false, 2, [posM (y, x)]⟩ := by
                rw [List.getElem?_set_ne (by omega)]; exact hpc9
              have hpd10 : ((h8 ++ [(⟨0, false, 2, [posM (y1, x1)]⟩ : MObj)]).set (4 + y1) ⟨0, false, 1, ((s'.getD y1 []).map I64).set x1 (I64 (at2 s' y x - t.cb))⟩)[h8.length]? = some ⟨0, false, 2, [posM (y1, x1)]⟩ := by
                rw [List.getElem?_set_ne (by omega)]; exact hpd9
              show Ef _ _ _ _ _ _ _ ((h8 ++ [(⟨0, false, 2, [posM (y1, x1)]⟩ : MObj)]).set (4 + y1) ⟨0, false, 1, ((s'.getD y1 []).map I64).set (0 + ((x1 : Nat) : Int).toNat) (I64 (at2 s' y x - t.cb))⟩) _
              rw [show 0 + ((x1 : Nat) : Int).toNat = x1 by simp]
              have hl10 : ((h8 ++ [(⟨0, false, 2, [posM (y1, x1)]⟩ : MObj)]).set (4 + y1) ⟨0, false, 1, ((s'.getD y1 []).map I64).set x1 (I64 (at2 s' y x - t.cb))⟩).length = h8.length + 1 := by simp
              clear f0 f3 r1 r2 r3 r4 r5 r6 p1 p2 p3 p4 p5 p6 hpc9 hpd9 hm9
              generalize ((h8 ++ [(⟨0, false, 2, [posM (y1, x1)]⟩ : MObj)]).set (4 + y1) ⟨0, false, 1, ((s'.getD y1 []).map I64).set x1 (I64 (at2 s' y x - t.cb))⟩) = h10 at m10 hpc10 hpd10 hl10 ⊢
              have fq := m10.qc
              have hsh := hqi.pre.sh
              have hset := fun a b => at2_set (g := s') (y := y1) (x := x1) (y' := a) (x' := b) (v := at2 s' y x - t.cb) (by rw [hsh.hl]; exact hnb.1) (by rw [hsh.row hnb.1]; exact hnb.2.1)
              have hrs := hqi.raise hyb hxb hfb hnb hr
              have htot := tot_le_up (s0 := s') hsh hnb.1 hnb.2.1 hr
              have ht1 := ok.tot hqi.pre
              have hsame : at2 (set2 s' y1 x1 (at2 s' y x - t.cb)) y x = at2 s' y x := by rw [hset, if_neg hnb.ne]
              have hall2 : ∀ p ∈ (t.nbL y x).take (j + 1), at2 (set2 s' y1 x1 (at2 s' y x - t.cb)) y x - t.cb ≤ at2 (set2 s' y1 x1 (at2 s' y x - t.cb)) p.1 p.2 := fun p hp => by
                rw [hsame, hset]
                by_cases e : p.1 = y1 ∧ p.2 = x1
                · rw [if_pos e]; exact Int.le_refl _
                · rw [if_neg e]
                  rw [htk, List.mem_append] at hp
                  rcases hp with hp | hp
                  · exact hall p hp
                  · exact absurd (by rw [List.mem_singleton] at hp; subst hp; exact ⟨rfl, rfl⟩) e
              repeat (first | apply ef_nil | apply seqQ.normal)
              (apply ef_ldp; (· exact rfl); (· exact rfl); (· exact fq); (· exact rfl); (· exact rfl); (· exact m10.qu.cell))
              repeat (first | (apply ef_ldp; exact rfl; exact rfl; (assumption); exact rfl; (exact rfl); (exact rd_2 rfl rfl)) | (apply ef_bsl; exact rfl; (repeat (apply XVs.cons; exact rfl)); exact XVs.nil; exact rfl))
              (apply ef_pushA (t := t) (q := (y1, x1)); (· exact rfl); (· exact rfl); (· exact rfl); (· exact fun _ => rfl); (· exact fun _ => rfl); (· exact m10); (· exact hqn); (· omega))
              intro h11 qv11 m11 n11 l11 hlen11 hkeep
              have hpc11 : h11[h5.length]? = some ⟨0, false, 2, [posM (y, x)]⟩ := by
                rw [hkeep h5.length (by omega) (by rw [hl5]; exact hql) (by omega)]; exact hpc10
              repeat (first | apply ef_nil | apply blockQ.normal)
              apply rfQ.normal
              exact ⟨(set2 s' y1 x1 (at2 s' y x - t.cb), B' + 1, qv11, Q' ++ [(y1, x1)], h11), ⟨hrs, hall2, m11, n11, by rw [l11]; exact hql, by simp only; omega, by simp only [List.length_append, List.length_cons, List.length_nil]; omega, hpc11⟩, rfl⟩
            · repeat (first | apply ef_seq | (apply ef_mv; exact rfl; exact rfl) | (apply ef_bin; exact rfl; exact rfl; exact rfl; (first | exact cmp_f rfl (by simp only [cmpP]; omega) | ((with_reducible refine bin_sub (wrap_of ?_ ?_)) <;> omega))) | (apply ef_ldp; exact rfl; exact rfl; (assumption); exact rfl; (first | exact rfl | assumption); (exact rfl)) | (apply ef_iaa; exact rfl; exact rfl; exact rfl; (omega); (omega); (assumption)) | (apply ef_fap; exact rfl; exact rfl) | apply ef_nil | apply seqQ.normal | apply blockQ.normal | apply ef_block | apply ef_skip | (apply ef_condf; exact rfl; (exact (rfl : false = false))))
              apply rfQ.normal
              refine ⟨(s', B', qv', Q', h8 ++ [⟨0, false, 2, [posM (y1, x1)]⟩]), ⟨hqi, fun p hp => ?_, hm9, hqn, hql, hB7, hms, hpc9⟩, rfl⟩
              simp only at hp ⊢
              rw [htk, List.mem_append] at hp
              rcases hp with hp | hp
              · exact hall p hp
              · rw [List.mem_singleton] at hp
                subst hp
                simp only
                omega
          · rintro ⟨s', B', qv', Q', h7⟩ ⟨hqi, hall, hm7, hqn, hql, hB7, hms, hpc7⟩
            simp only at hqi hall hm7 hqn hql hB7 hms hpc7 ⊢
            have hlenY : (posY (t.nbL y x)).length = (t.nbL y x).length := by simp [posY]
            rw [hlenY, List.take_length] at hall
            have hqc := hqi.close (n := (y, x)) fun y1 x1 hnb => hall (y1, x1) ((Tk.nbL_mem hyb hxb).2 hnb)
            have ht1 := ok.tot hqc.pre
            have hm8 := (hm7.less (N' := fun n => n = h.length) fun n hn => .inl hn)
            have hlv := (hm8.lv _ rfl).2
            repeat (first | apply blockQ.normal)
            refine loopQ.normal _ _ ⟨(s', B', qv', Q', h7.take h.length), ⟨hqc, hm8.take rfl (fun k hk => by omega), by simp only [List.length_take]; have := hlv.1; omega, hB7, fun _ => hqn⟩, by simp only [hlq]; omega, ⟨by ((repeat (refine Hold.cons (by exact rfl) ?_)); exact Hold.nil), by ((repeat (refine Hold.cons (by exact rfl) ?_)); exact Hold.nil)⟩, HeadIs.tk hlv fun u hu => ?_⟩
            simp only [List.mem_cons, List.not_mem_nil, or_false] at hu
            rcases hu with rfl | rfl | rfl
            · exact ⟨.ptr (4 + t.ter.length) 0 0 0, by exact rfl, by simp [MV.lt]; omega⟩
            · exact ⟨.ptr 0 0 0 0, by exact rfl, by simp [MV.lt]; omega⟩
            · exact ⟨.ptr 3 0 0 0, by exact rfl, by simp [MV.lt]; omega⟩
theorem lowest_c (k : Nat) (t : Tk) (ok : OkT t) {g : List (List Int)} (hg : Lea t g) (h : MHeap) : orA (k + 5) 115 [encO t] h = some (.arr h.length 0 t.ter.length 0, h ++ [⟨0, false, 1, g.map encW⟩]) := by
  have := callA (k := k + 4) (h := h) (frzL_lt (ms := [encO t]) (by simp [ltL, MV.lt, ltL_I, ltL_W, ltL_B])) rfl (lowest_z k t ok hg) rfl (by simp [okH, ltL_W, ltL, MV.lt, ltL_I, ltL_B])
  simpa [shV, sh1] using this
end Go.Proofs.Ytgjpdjihjphbdaa

/- Contracts of the reference: flown nodes, neighbours. -/
namespace Go.Proofs.Ytgjpdjihjphbdaa
open Go.RowKit
set_option linter.unusedVariables false

theorem mf_rFlown : MT.mf 47 = some ⟨35, [(.tmp 6)], (.seq (.reg [⟨none, (some 3), (.box 5 (.s 0))⟩, ⟨none, (some 6), (.mv (.c (.lit (.bool false))))⟩]) (.seq (.reg [⟨none, (some 7), (.mv (.s 2))⟩, ⟨none, (some 8), (.fa 0 (.s 3))⟩, ⟨none, (some 9), (.ld none (.s 8))⟩, ⟨none, (some 10), (.len (.s 9))⟩, ⟨none, (some 11), (.bin .sub (.s 10) (.c (.lit (.int .i64 1))))⟩, ⟨none, (some 12), (.call 22 [(.s 7), (.c (.lit (.int .i64 0))), (.s 11)])⟩, ⟨none, (some 13), (.mv (.s 12))⟩, ⟨(some (13, true)), (some 14), (.mv (.s 1))⟩, ⟨(some (13, true)), (some 15), (.fa 0 (.s 3))⟩, ⟨(some (13, true)), (some 16), (.ld none (.s 15))⟩, ⟨(some (13, true)), (some 17), (.ia 1 (.s 16) (.c (.lit (.int .i64 0))))⟩, ⟨(some (13, true)), (some 18), (.ld none (.s 17))⟩, ⟨(some (13, true)), (some 19), (.len (.s 18))⟩, ⟨(some (13, true)), (some 20), (.bin .sub (.s 19) (.c (.lit (.int .i64 1))))⟩, ⟨(some (13, true)), (some 21), (.call 22 [(.s 14), (.c (.lit (.int .i64 0))), (.s 20)])⟩, ⟨none, (some 22), (.pick (.s 13) (.s 21) (.c (.lit (.bool false))))⟩, ⟨none, (some 23), (.mv (.s 22))⟩, ⟨(some (23, true)), (some 24), (.fa 1 (.s 3))⟩, ⟨(some (23, true)), (some 25), (.ld none (.s 24))⟩, ⟨(some (23, true)), (some 26), (.mv (.s 2))⟩, ⟨(some (23, true)), (some 27), (.call 71 [(.s 25), (.s 26)])⟩, ⟨(some (23, true)), (some 28), (.mv (.s 27))⟩, ⟨(some (28, false)), (some 29), (.fa 2 (.s 3))⟩, ⟨(some (28, false)), (some 30), (.ld none (.s 29))⟩, ⟨(some (28, false)), (some 31), (.mv (.s 1))⟩, ⟨(some (28, false)), (some 32), (.call 71 [(.s 30), (.s 31)])⟩, ⟨(some (23, true)), (some 33), (.pick (.s 28) (.c (.lit (.bool true))) (.s 32))⟩, ⟨none, (some 34), (.pick (.s 23) (.s 33) (.c (.lit (.bool false))))⟩, ⟨none, (some 6), (.mv (.s 34))⟩]) .ret))⟩ := by kernel_rfl
theorem rFlown_c (k : Nat) (t : Tk) (hb : Bd t) (h0 : 0 < t.ter.length) (x y : Int) (h : MHeap) {b : Bool} (hf : t.flI x y = b) : orA (k + 2) 47 [encT t, I64 x, I64 y] h = some (Bo b, h) := by
  refine callL (args' := [encT t, I64 x, I64 y]) (frzL_lt (by simp [ltL, MV.lt, ltL_I, ltL_W])) rfl (runZ_of mf_rFlown (by simp) ?_)
  simp only [argsL]
  have hs1 : (MV.sl (t.ter.map encW)).slen = some t.ter.length := by simp [MV.slen]
  have hbw := hb.w
  obtain ⟨b1, b2, b3, b4⟩ := hb
  have e0 := Tk.head h0
  have hsw := Tk.headW t
  generalize t.ter.getD 0 [] = r0 at e0 hsw
  have hH1 := fun h => bHas_c k t.rows y h (v := .sl (t.rows.map I64)) b2 (frz_sl (ltL_I 0 t.rows)) rfl
  have hH2 := fun h => bHas_c k t.ties x h (v := .sl (t.ties.map I64)) b3 (frz_sl (ltL_I 0 t.ties)) rfl
  unfold Tk.flI at hf
  generalize t.rows.contains y = p at hH1 hf
  generalize t.ties.contains x = q at hH2 hf
  cases g1 : inB y 0 ((t.ter.length : Int) - 1)
  · rw [g1, Bool.and_false, Bool.false_and] at hf
    repeat (first | apply ef_seq | (apply ef_mv; exact rfl; exact rfl) | (apply ef_bin; exact rfl; exact rfl; exact rfl; (((with_reducible refine bin_sub (wrap_of ?_ ?_)) <;> omega))) | (apply ef_gn; exact rfl; (exact (rfl : false = false)); exact rfl) | (apply ef_gu; exact rfl; exact rfl) | (apply ef_pick; exact rfl; exact rfl; exact rfl) | (apply ef_len; exact rfl; exact rfl; (assumption)) | (apply ef_ldp; exact rfl; exact rfl; (exact rfl); exact rfl; (exact rfl); (exact rfl)) | (apply ef_fap; exact rfl; exact rfl) | (apply ef_box; exact rfl; exact rfl; exact rfl; exact rfl) | apply ef_nil | apply seqQ.normal | apply ef_ret | (apply ef_call; exact rfl; ((repeat (apply XVs.cons; exact rfl)); exact XVs.nil); (with_reducible exact Within_c _ _ _ _ _ (by assumption))))
    (refine fin1 rfl (by exact rfl) rfl ?_)
    rw [← hf]
  · cases g2 : inB x 0 ((t.W : Int) - 1)
    · rw [g2, Bool.false_and, Bool.false_and] at hf
      repeat (first | apply ef_seq | (apply ef_mv; exact rfl; exact rfl) | (apply ef_bin; exact rfl; exact rfl; exact rfl; (((with_reducible refine bin_sub (wrap_of ?_ ?_)) <;> omega))) | (apply ef_gy; exact rfl; (exact (rfl : true = true))) | (apply ef_gn; exact rfl; (exact (rfl : false = false)); exact rfl) | (apply ef_gu; exact rfl; exact rfl) | (apply ef_pick; exact rfl; exact rfl; exact rfl) | (apply ef_len; exact rfl; exact rfl; (assumption)) | (apply ef_ldr; exact rfl; exact rfl; (exact rfl)) | (apply ef_ldp; exact rfl; exact rfl; (exact rfl); exact rfl; (exact rfl); (exact rfl)) | (apply ef_ias; exact rfl; exact rfl; exact rfl; (omega); assumption; exact rfl) | (apply ef_fap; exact rfl; exact rfl) | (apply ef_box; exact rfl; exact rfl; exact rfl; exact rfl) | apply ef_nil | apply seqQ.normal | apply ef_ret | (apply ef_call; exact rfl; ((repeat (apply XVs.cons; exact rfl)); exact XVs.nil); (with_reducible exact Within_c _ _ _ _ _ (by assumption))))
      (refine fin1 rfl (by exact rfl) rfl ?_)
      rw [← hf]
    · rw [g1, g2, Bool.true_and, Bool.true_and] at hf
      cases p
      · repeat (first | apply ef_seq | (apply ef_mv; exact rfl; exact rfl) | (apply ef_bin; exact rfl; exact rfl; exact rfl; (((with_reducible refine bin_sub (wrap_of ?_ ?_)) <;> omega))) | (apply ef_gy; exact rfl; (first | exact (rfl : true = true) | exact (rfl : false = false))) | (apply ef_pick; exact rfl; exact rfl; exact rfl) | (apply ef_len; exact rfl; exact rfl; (assumption)) | (apply ef_ldr; exact rfl; exact rfl; (exact rfl)) | (apply ef_ldp; exact rfl; exact rfl; (exact rfl); exact rfl; (exact rfl); (exact rfl)) | (apply ef_ias; exact rfl; exact rfl; exact rfl; (omega); assumption; exact rfl) | (apply ef_fap; exact rfl; exact rfl) | (apply ef_box; exact rfl; exact rfl; exact rfl; exact rfl) | apply ef_nil | apply seqQ.normal | apply ef_ret | (apply ef_call; exact rfl; ((repeat (apply XVs.cons; exact rfl)); exact XVs.nil); (with_reducible first | exact Within_c _ _ _ _ _ (by assumption) | exact hH1 _ | exact hH2 _)))
        (refine fin1 rfl (by exact rfl) rfl ?_)
        rw [← hf]; rfl
      · repeat (first | apply ef_seq | (apply ef_mv; exact rfl; exact rfl) | (apply ef_bin; exact rfl; exact rfl; exact rfl; (((with_reducible refine bin_sub (wrap_of ?_ ?_)) <;> omega))) | (apply ef_gy; exact rfl; (exact (rfl : true = true))) | (apply ef_gn; exact rfl; (exact (rfl : true = true)); exact rfl) | (apply ef_pick; exact rfl; exact rfl; exact rfl) | (apply ef_len; exact rfl; exact rfl; (assumption)) | (apply ef_ldr; exact rfl; exact rfl; (exact rfl)) | (apply ef_ldp; exact rfl; exact rfl; (exact rfl); exact rfl; (exact rfl); (exact rfl)) | (apply ef_ias; exact rfl; exact rfl; exact rfl; (omega); assumption; exact rfl) | (apply ef_fap; exact rfl; exact rfl) | (apply ef_box; exact rfl; exact rfl; exact rfl; exact rfl) | apply ef_nil | apply seqQ.normal | apply ef_ret | (apply ef_call; exact rfl; ((repeat (apply XVs.cons; exact rfl)); exact XVs.nil); (with_reducible first | exact Within_c _ _ _ _ _ (by assumption) | exact hH1 _)))
        (refine fin1 rfl (by exact rfl) rfl ?_)
        rw [← hf]; rfl
theorem mf_rNeed : MT.mf 51 = some ⟨18, [(.tmp 6)], (.seq (.reg [⟨none, (some 3), (.box 5 (.s 0))⟩, ⟨none, (some 6), (.mv (.c (.lit (.int .i64 0))))⟩]) (.seq (.reg [⟨none, (some 7), (.fa 0 (.s 3))⟩, ⟨none, (some 8), (.ld none (.s 7))⟩, ⟨none, (some 9), (.mv (.s 2))⟩, ⟨none, (some 10), (.ia 1 (.s 8) (.s 9))⟩, ⟨none, (some 11), (.ld none (.s 10))⟩, ⟨none, (some 12), (.mv (.s 1))⟩, ⟨none, (some 13), (.ia 1 (.s 11) (.s 12))⟩, ⟨none, (some 14), (.ld none (.s 13))⟩, ⟨none, (some 15), (.fa 3 (.s 3))⟩, ⟨none, (some 16), (.ld none (.s 15))⟩, ⟨none, (some 17), (.bin .add (.s 14) (.s 16))⟩, ⟨none, (some 6), (.mv (.s 17))⟩]) .ret))⟩ := by kernel_rfl
theorem rNeed_c (k : Nat) (t : Tk) (ok : OkT t) {y x : Nat} (hy : y < t.H) (hx : x < t.W) (h : MHeap) : orA (k + 1) 51 [encT t, I64 (x : Int), I64 (y : Int)] h = some (I64 (t.need y x), h) := by
  refine callL (args' := [encT t, I64 (x : Int), I64 (y : Int)]) (frzL_lt (by simp [ltL, MV.lt, ltL_I, ltL_W])) rfl (runZ_of mf_rNeed (by simp) ?_)
  simp only [argsL]
  have e1 := row_at (t := t) hy
  obtain ⟨a1, a2, a3⟩ := ok.at (y := y) (x := x) hy hx
  have e2 := cell_at a1
  obtain ⟨c1, c2⟩ := ok.cl
  have HN := Lib.hid (show t.need y x = (t.ter.getD y []).getD x 0 + t.cl from rfl)
  generalize (t.ter.getD y []).getD x 0 = v at *
  generalize t.ter.getD y [] = r at *
  repeat (first | apply ef_seq | (apply ef_mv; exact rfl; exact rfl) | (apply ef_bin; exact rfl; exact rfl; exact rfl; (((with_reducible refine bin_add (wrap_of ?_ ?_)) <;> omega))) | (apply ef_ldr; exact rfl; exact rfl; (exact rfl)) | (apply ef_ldp; exact rfl; exact rfl; (exact rfl); exact rfl; (exact rfl); (exact rfl)) | (apply ef_ias; exact rfl; exact rfl; exact rfl; (omega); assumption; exact rfl) | (apply ef_fap; exact rfl; exact rfl) | (apply ef_box; exact rfl; exact rfl; exact rfl; exact rfl) | apply ef_nil | apply seqQ.normal | apply ef_ret)
  (refine fin1 rfl (by exact rfl) rfl ?_)
  rw [HN.out]

/-- The neighbours, as the reference lists them. -/
def nbA (c d : Bool) (p : Nat × Nat) : List (Nat × Nat) := if c && d then [p] else []
def nbR (t : Tk) (y x : Nat) : List (Nat × Nat) :=
  nbA (t.rows.contains (y : Int)) (decide (0 < x)) (y, x - 1) ++ nbA (t.ties.contains (x : Int)) (decide (0 < y)) (y - 1, x) ++ nbA (t.rows.contains (y : Int)) (decide (x + 1 < t.W)) (y, x + 1) ++ nbA (t.ties.contains (x : Int)) (decide (y + 1 < t.ter.length)) (y + 1, x)
theorem nbR_mem {t : Tk} {y x : Nat} (hy : y < t.H) (hx : x < t.W) {p : Nat × Nat} : p ∈ nbR t y x ↔ t.Nb y x p.1 p.2 := by
  rw [← Tk.nbL_mem hy hx]
  unfold nbR nbA Tk.nbL Tk.H
  cases t.rows.contains (y : Int) <;> cases t.ties.contains (x : Int) <;> by_cases h1 : 0 < x <;> by_cases h2 : 0 < y <;> by_cases h3 : x + 1 < t.W <;> by_cases h4 : y + 1 < t.ter.length <;> simp [h1, h2, h3, h4, or_comm, or_left_comm, or_assoc]
def nbP (t : Tk) (y x : Nat) : Nat → List (Nat × Nat)
  | 0 => []
  | 1 => nbA (t.rows.contains (y : Int)) (decide (0 < x)) (y, x - 1) ++ nbA (t.ties.contains (x : Int)) (decide (0 < y)) (y - 1, x)
  | _ => nbR t y x
abbrev nbHp (t : Tk) (L : List (Nat × Nat)) : MHeap := [⟨0, false, 5, [encT t]⟩, ⟨0, true, 2, []⟩, ⟨L.length, nlN L.length, 2, L.map posM⟩]
theorem nbHp_cl (t : Tk) (L : List (Nat × Nat)) (G : MHeap) : Cl 3 (nbHp t L ++ G) := by
  refine ⟨by simp, fun j o hj ho => ?_⟩
  match j, hj with
  | 0, _ => cases ho; simp [ltL, MV.lt, ltL_I, ltL_W]
  | 1, _ => cases ho; rfl
  | 2, _ => cases ho; exact ltL_P 3 L
theorem HeadIs.tkE {keep : List Nat} {m : Nat} {A : Sl} {h h1 : MHeap} (X : MHeap) (e : h = h1 ++ X) (hm : h1.length = m) (hc : Cl m (h1 ++ X)) (hk : ∀ t ∈ keep, ∃ v, look A t = some v ∧ v.lt m = true) : HeadIs keep m A h h1 := by
  subst e
  have := HeadIs.tk hc hk
  rwa [List.take_left' hm] at this
section
variable {O : Oracle} {I : Iter} {M n : Nat} {lk : Nat → Bool} {A : Sl} {Qc : MX2 → Sl → MHeap → Prop}
theorem ef_nbapp {t : Tk} {t2 tp t1 : Nat} {L : List (Nat × Nat)} {p : Nat × Nat} {G : MHeap} {m : MV} {os : List GO} (ht2 : Nat.blt t2 n = true) (hp : look A tp = some (.arr 2 0 L.length L.length)) (h1 : look A t1 = some (.arr (nbHp t L ++ G).length 0 1 0)) (hL : L.length ≤ 1000) (hm : m = posM p) (hlk : ∀ i, lk i = false)
    (hE : Ef O I M n lk (.reg os) ((t2, .arr 2 0 (L ++ [p]).length (L ++ [p]).length) :: A) (nbHp t (L ++ [p]) ++ (G ++ [⟨0, false, 2, [posM p]⟩])) Qc) :
    Ef O I M n lk (.reg (⟨none, some t2, .app 2 (.s tp) (.s t1)⟩ :: os)) A ((nbHp t L ++ G) ++ [⟨0, false, 2, [m]⟩]) Qc := by
  subst hm
  refine ef_app (ht := ht2) (o := ⟨L.length, nlN L.length, 2, L.map posM⟩) (v := .arr (nbHp t L ++ G).length 0 1 0) (e := posM p) (xs := []) hp h1 (elems_end rfl rfl rfl rfl) rfl rfl (by simp) rfl (by simp; omega) rfl (hlk _) ?_
  have e1 : L.length + (posM p :: []).length = (L ++ [p]).length := by simp
  rw [e1]
  have e2 : L.length + 1 = (L ++ [p]).length := by simp
  show Ef _ _ _ _ _ _ ((t2, .arr 2 0 (L ++ [p]).length (L.length + 1)) :: A) ((nbHp t L ++ G ++ [(⟨0, false, 2, [posM p]⟩ : MObj)]).set 2 ⟨L.length + 1, false, 2, (L.map posM).drop 0 ++ [posM p]⟩) _
  rw [e2]
  have e3 : ((nbHp t L ++ G ++ [(⟨0, false, 2, [posM p]⟩ : MObj)]).set 2 ⟨(L ++ [p]).length, false, 2, (L.map posM).drop 0 ++ [posM p]⟩) = nbHp t (L ++ [p]) ++ (G ++ [⟨0, false, 2, [posM p]⟩]) := by
    simp [nlN]
  rw [e3]
  exact hE
end
theorem nbK {A : Sl} {u : Nat} {a b : Int} {c : Int} {n : Nat} (hu : u ∈ [8, 3, 2, 1, 7]) (h8 : look A 8 = some (I64 a)) (h3 : look A 3 = some (.ptr 0 0 0 0)) (h2 : look A 2 = some (I64 b)) (h1 : look A 1 = some (I64 c)) (h7 : look A 7 = some (.arr 2 0 n n)) : ∃ v, look A u = some v ∧ v.lt 3 = true := by
  simp only [List.mem_cons, List.not_mem_nil, or_false] at hu
  rcases hu with rfl | rfl | rfl | rfl | rfl
  · exact ⟨_, h8, rfl⟩
  · exact ⟨_, h3, by simp [MV.lt]⟩
  · exact ⟨_, h2, rfl⟩
  · exact ⟨_, h1, rfl⟩
  · exact ⟨_, h7, by simp [MV.lt]⟩
theorem mf_rNeighbours : MT.mf 119 = some ⟨60, [(.tmp 6)], (.seq (.reg [⟨none, (some 3), (.box 5 (.s 0))⟩, ⟨none, (some 6), (.nil0 2)⟩]) (.seq (.reg [⟨none, (some 7), (.nil0 2)⟩]) (.seq (.seq (.reg [⟨none, (some 8), (.mv (.c (.lit (.int .i64 (-1)))))⟩]) (.block 0 (.loop [8, 3, 2, 1, 7] (.seq (.seq (.reg [⟨none, (some 9), (.mv (.s 8))⟩, ⟨none, (some 10), (.bin .leq (.s 9) (.c (.lit (.int .i64 1))))⟩]) (.cond (.s 10) .skip (.exit 0))) (.seq (.block 1 (.seq (.seq (.reg [⟨none, (some 13), (.fa 1 (.s 3))⟩, ⟨none, (some 14), (.ld none (.s 13))⟩, ⟨none, (some 15), (.mv (.s 2))⟩, ⟨none, (some 16), (.call 71 [(.s 14), (.s 15)])⟩, ⟨none, (some 17), (.mv (.s 16))⟩, ⟨(some (17, true)), (some 18), (.mv (.s 1))⟩, ⟨(some (17, true)), (some 19), (.mv (.s 8))⟩, ⟨(some (17, true)), (some 20), (.bin .add (.s 18) (.s 19))⟩, ⟨(some (17, true)), (some 21), (.fa 0 (.s 3))⟩, ⟨(some (17, true)), (some 22), (.ld none (.s 21))⟩, ⟨(some (17, true)), (some 23), (.ia 1 (.s 22) (.c (.lit (.int .i64 0))))⟩, ⟨(some (17, true)), (some 24), (.ld none (.s 23))⟩, ⟨(some (17, true)), (some 25), (.len (.s 24))⟩, ⟨(some (17, true)), (some 26), (.bin .sub (.s 25) (.c (.lit (.int .i64 1))))⟩, ⟨(some (17, true)), (some 27), (.call 22 [(.s 20), (.c (.lit (.int .i64 0))), (.s 26)])⟩, ⟨none, (some 28), (.pick (.s 17) (.s 27) (.c (.lit (.bool false))))⟩]) (.cond (.s 28) (.reg [⟨none, (some 29), (.mv (.s 7))⟩, ⟨none, (some 30), (.mv (.s 1))⟩, ⟨none, (some 31), (.mv (.s 8))⟩, ⟨none, (some 32), (.bin .add (.s 30) (.s 31))⟩, ⟨none, (some 33), (.mv (.s 2))⟩, ⟨none, (some 34), (.build [(.lit (.int .i64 0)), (.lit (.int .i64 0))] [(0, (1, (.s 32))), (1, (1, (.s 33)))])⟩, ⟨none, (some 35), (.bsl (.agg [(.lit (.int .i64 0)), (.lit (.int .i64 0))]) 2 1 [(0, (.s 34))])⟩, ⟨none, (some 36), (.app 2 (.s 29) (.s 35))⟩, ⟨none, (some 7), (.mv (.s 36))⟩]) .skip)) (.seq (.reg [⟨none, (some 37), (.fa 2 (.s 3))⟩, ⟨none, (some 38), (.ld none (.s 37))⟩, ⟨none, (some 39), (.mv (.s 1))⟩, ⟨none, (some 40), (.call 71 [(.s 38), (.s 39)])⟩, ⟨none, (some 41), (.mv (.s 40))⟩, ⟨(some (41, true)), (some 42), (.mv (.s 2))⟩, ⟨(some (41, true)), (some 43), (.mv (.s 8))⟩, ⟨(some (41, true)), (some 44), (.bin .add (.s 42) (.s 43))⟩, ⟨(some (41, true)), (some 45), (.fa 0 (.s 3))⟩, ⟨(some (41, true)), (some 46), (.ld none (.s 45))⟩, ⟨(some (41, true)), (some 47), (.len (.s 46))⟩, ⟨(some (41, true)), (some 48), (.bin .sub (.s 47) (.c (.lit (.int .i64 1))))⟩, ⟨(some (41, true)), (some 49), (.call 22 [(.s 44), (.c (.lit (.int .i64 0))), (.s 48)])⟩, ⟨none, (some 50), (.pick (.s 41) (.s 49) (.c (.lit (.bool false))))⟩]) (.cond (.s 50) (.reg [⟨none, (some 51), (.mv (.s 7))⟩, ⟨none, (some 52), (.mv (.s 1))⟩, ⟨none, (some 53), (.mv (.s 2))⟩, ⟨none, (some 54), (.mv (.s 8))⟩, ⟨none, (some 55), (.bin .add (.s 53) (.s 54))⟩, ⟨none, (some 56), (.build [(.lit (.int .i64 0)), (.lit (.int .i64 0))] [(0, (1, (.s 52))), (1, (1, (.s 55)))])⟩, ⟨none, (some 57), (.bsl (.agg [(.lit (.int .i64 0)), (.lit (.int .i64 0))]) 2 1 [(0, (.s 56))])⟩, ⟨none, (some 58), (.app 2 (.s 51) (.s 57))⟩, ⟨none, (some 7), (.mv (.s 58))⟩]) .skip)))) (.reg [⟨none, (some 11), (.mv (.s 8))⟩, ⟨none, (some 12), (.bin .add (.s 11) (.c (.lit (.int .i64 2))))⟩, ⟨none, (some 8), (.mv (.s 12))⟩])))))) (.seq (.reg [⟨none, (some 59), (.mv (.s 7))⟩, ⟨none, (some 6), (.mv (.s 59))⟩]) .ret))))⟩ := by kernel_rfl
set_option maxHeartbeats 4000000 in
theorem rNeighbours_z (k : Nat) (t : Tk) (ok : OkT t) (hb : Bd t) {y x : Nat} (hy : y < t.ter.length) (hx : x < t.W) : runZ MT (orA (k + 1)) (itA (k + 1)) 4000000 119 [encT t, I64 (x : Int), I64 (y : Int)] [] = some (.arr 0 0 (nbR t y x).length 0, [⟨0, nlN (nbR t y x).length, 2, (nbR t y x).map posM⟩]) := by
  obtain ⟨h1, h2⟩ := ok.h1
  obtain ⟨w1, w2⟩ := ok.w1
  obtain ⟨b1, b2, b3, b4⟩ := hb
  have hs1 : (MV.sl (t.ter.map encW)).slen = some t.ter.length := by simp [MV.slen]
  have e0 := Tk.head h1
  have hsw := Tk.headW t
  generalize t.ter.getD 0 [] = r0 at e0 hsw
  have hH1 := fun h => bHas_c k t.rows (y : Int) h (v := .sl (t.rows.map I64)) b2 (frz_sl (ltL_I 0 t.rows)) rfl
  have hH2 := fun h => bHas_c k t.ties (x : Int) h (v := .sl (t.ties.map I64)) b3 (frz_sl (ltL_I 0 t.ties)) rfl
  refine runZ_of mf_rNeighbours (by simp) ?_
  simp only [argsL]
  repeat (first | apply ef_seq | (apply ef_mv; exact rfl; exact rfl) | (apply ef_box; exact rfl; exact rfl; exact rfl; exact rfl) | (apply ef_nil0; exact rfl) | apply ef_nil | apply seqQ.normal | apply ef_block)
  refine ef_loopg (α := Nat × List (Nat × Nat)) (fun s => s.1 ≤ 2 ∧ s.2 = nbP t y x s.1 ∧ s.2.length ≤ 10 * s.1) (fun s => [(8, I64 (2 * (s.1 : Int) - 1)), (7, .arr 2 0 s.2.length s.2.length)]) [(3, .ptr 0 0 0 0), (2, _), (1, _)] (fun s => nbHp t s.2) (fun s => 2 - s.1) (0, []) [8, 7] (fun _ => rfl) (by ((repeat (refine Hold.cons (by exact rfl) ?_)); exact Hold.nil)) (by ((repeat (refine Hold.cons (by exact rfl) ?_)); exact Hold.nil)) rfl rfl rfl ⟨by simp, rfl, by simp⟩ (by simp) ?_
  rintro ⟨i, L⟩ ⟨hi, hL, hLl⟩
  simp only at hi hL hLl ⊢
  match i, hi, hL, hLl with
  | 0, hi, hL, hLl =>
    have HN := (show nbP t y x (0 + 1) = nbP t y x 0 ++ (nbA (t.rows.contains (y : Int)) (decide (0 < x)) (y, x - 1) ++ nbA (t.ties.contains (x : Int)) (decide (0 < y)) (y - 1, x)) from rfl)
    rw [← hL] at HN
    generalize t.rows.contains (y : Int) = p at hH1 HN
    generalize t.ties.contains (x : Int) = q at hH2 HN
    cases p
    · cases q
      · repeat (first | apply ef_seq | (apply ef_mv; exact rfl; exact rfl) | (apply ef_bin; exact rfl; exact rfl; exact rfl; (first | exact cmp_t rfl (by first | exact rfl | (simp only [cmpP]; omega)) | ((with_reducible refine bin_add (wrap_of ?_ ?_)) <;> omega))) | (apply ef_gn; exact rfl; (exact (rfl : false = false)); exact rfl) | (apply ef_pick; exact rfl; exact rfl; exact rfl) | (apply ef_ldp; exact rfl; exact rfl; (exact rfl); exact rfl; (exact rfl); (exact rfl)) | (apply ef_fap; exact rfl; exact rfl) | apply ef_nil | apply seqQ.normal | apply blockQ.normal | apply ef_block | apply ef_skip | (apply ef_condt; exact rfl; (exact (rfl : true = true))) | (apply ef_condf; exact rfl; (exact (rfl : false = false))) | (apply ef_call; exact rfl; ((repeat (apply XVs.cons; exact rfl)); exact XVs.nil); (with_reducible first | exact hH1 _ | exact hH2 _)))
        refine loopQ.normal _ _ ⟨(0 + 1, L), ⟨by simp only; omega, by rw [HN]; simp [nbA, *], by (try simp only [List.length_append, List.length_cons, List.length_nil] at hLl ⊢); omega⟩, by simp only; omega, ⟨by ((repeat (refine Hold.cons (by exact rfl) ?_)); exact Hold.nil), by ((repeat (refine Hold.cons (by exact rfl) ?_)); exact Hold.nil)⟩, HeadIs.tkE [] (by first | exact rfl | simp) rfl (nbHp_cl t _ _) fun u hu => ?_⟩
        exact nbK hu (by exact rfl) (by exact rfl) (by exact rfl) (by exact rfl) (by exact rfl)
      · by_cases d2 : 0 < y
        · have g2 : inB ((y : Int) + (2 * ((0 : Nat) : Int) - 1)) 0 ((t.ter.length : Int) - 1) = true := inB_iff.2 (by omega)
          repeat (first | apply ef_seq | (apply ef_mv; exact rfl; exact rfl) | (apply ef_bin; exact rfl; exact rfl; exact rfl; (first | exact cmp_t rfl (by first | exact rfl | (simp only [cmpP]; omega)) | ((with_reducible refine bin_add (wrap_of ?_ ?_)) <;> omega) | ((with_reducible refine bin_sub (wrap_of ?_ ?_)) <;> omega))) | (apply ef_gy; exact rfl; (exact (rfl : true = true))) | (apply ef_gn; exact rfl; (exact (rfl : false = false)); exact rfl) | (apply ef_pick; exact rfl; exact rfl; exact rfl) | (apply ef_len; exact rfl; exact rfl; (assumption)) | (apply ef_ldp; exact rfl; exact rfl; (exact rfl); exact rfl; (exact rfl); (exact rfl)) | (apply ef_fap; exact rfl; exact rfl) | (apply ef_build; exact rfl; (repeat (apply XVs.cons; exact rfl)); exact XVs.nil; exact rfl; exact rfl) | (apply ef_bsl; exact rfl; (repeat (apply XVs.cons; exact rfl)); exact XVs.nil; exact rfl) | apply ef_nil | apply seqQ.normal | apply ef_block | apply ef_skip | (apply ef_condt; exact rfl; (exact (rfl : true = true))) | (apply ef_condf; exact rfl; (exact (rfl : false = false))) | (apply ef_call; exact rfl; ((repeat (apply XVs.cons; exact rfl)); exact XVs.nil); (with_reducible first | exact Within_c _ _ _ _ _ (by assumption) | exact hH1 _ | exact hH2 _)))
          (apply ef_nbapp (t := t) (L := L) (p := (y - 1, x)) (G := []); (· exact rfl); (· exact rfl); (· exact rfl); (· (try simp only [List.length_append, List.length_cons, List.length_nil] at hLl ⊢); omega); (· exact show posI (x : Int) ((y : Int) + (2 * ((0 : Nat) : Int) - 1)) = posM (y - 1, x) from by rw [show ((y : Int) + (2 * ((0 : Nat) : Int) - 1)) = (((y - 1, x).1 : Nat) : Int) by simp only; omega]); (· exact fun _ => rfl))
          repeat (first | (apply ef_mv; exact rfl; exact rfl) | (apply ef_bin; exact rfl; exact rfl; exact rfl; (((with_reducible refine bin_add (wrap_of ?_ ?_)) <;> omega))) | apply ef_nil | apply seqQ.normal | apply blockQ.normal)
          refine loopQ.normal _ _ ⟨(0 + 1, (L ++ [(y - 1, x)])), ⟨by simp only; omega, by rw [HN]; simp [nbA, *], by (try simp only [List.length_append, List.length_cons, List.length_nil] at hLl ⊢); omega⟩, by simp only; omega, ⟨by ((repeat (refine Hold.cons (by exact rfl) ?_)); exact Hold.nil), by ((repeat (refine Hold.cons (by exact rfl) ?_)); exact Hold.nil)⟩, HeadIs.tkE [⟨0, false, 2, [posM (y - 1, x)]⟩] (by first | exact rfl | simp) rfl (nbHp_cl t _ _) fun u hu => ?_⟩
          exact nbK hu (by exact rfl) (by exact rfl) (by exact rfl) (by exact rfl) (by exact rfl)
        · have g2 : inB ((y : Int) + (2 * ((0 : Nat) : Int) - 1)) 0 ((t.ter.length : Int) - 1) = false := inB_not.2 (by omega)
          repeat (first | apply ef_seq | (apply ef_mv; exact rfl; exact rfl) | (apply ef_bin; exact rfl; exact rfl; exact rfl; (first | exact cmp_t rfl (by first | exact rfl | (simp only [cmpP]; omega)) | ((with_reducible refine bin_add (wrap_of ?_ ?_)) <;> omega) | ((with_reducible refine bin_sub (wrap_of ?_ ?_)) <;> omega))) | (apply ef_gy; exact rfl; (exact (rfl : true = true))) | (apply ef_gn; exact rfl; (exact (rfl : false = false)); exact rfl) | (apply ef_pick; exact rfl; exact rfl; exact rfl) | (apply ef_len; exact rfl; exact rfl; (assumption)) | (apply ef_ldp; exact rfl; exact rfl; (exact rfl); exact rfl; (exact rfl); (exact rfl)) | (apply ef_fap; exact rfl; exact rfl) | apply ef_nil | apply seqQ.normal | apply blockQ.normal | apply ef_block | apply ef_skip | (apply ef_condt; exact rfl; (exact (rfl : true = true))) | (apply ef_condf; exact rfl; (exact (rfl : false = false))) | (apply ef_call; exact rfl; ((repeat (apply XVs.cons; exact rfl)); exact XVs.nil); (with_reducible first | exact Within_c _ _ _ _ _ (by assumption) | exact hH1 _ | exact hH2 _)))
          refine loopQ.normal _ _ ⟨(0 + 1, L), ⟨by simp only; omega, by rw [HN]; simp [nbA, *], by (try simp only [List.length_append, List.length_cons, List.length_nil] at hLl ⊢); omega⟩, by simp only; omega, ⟨by ((repeat (refine Hold.cons (by exact rfl) ?_)); exact Hold.nil), by ((repeat (refine Hold.cons (by exact rfl) ?_)); exact Hold.nil)⟩, HeadIs.tkE [] (by first | exact rfl | simp) rfl (nbHp_cl t _ _) fun u hu => ?_⟩
          exact nbK hu (by exact rfl) (by exact rfl) (by exact rfl) (by exact rfl) (by exact rfl)
    · by_cases d1 : 0 < x
      · have g1 : inB ((x : Int) + (2 * ((0 : Nat) : Int) - 1)) 0 ((t.W : Int) - 1) = true := inB_iff.2 (by omega)
        cases q
        · repeat (first | apply ef_seq | (apply ef_mv; exact rfl; exact rfl) | (apply ef_bin; exact rfl; exact rfl; exact rfl; (first | exact cmp_t rfl (by first | exact rfl | (simp only [cmpP]; omega)) | ((with_reducible refine bin_add (wrap_of ?_ ?_)) <;> omega) | ((with_reducible refine bin_sub (wrap_of ?_ ?_)) <;> omega))) | (apply ef_gy; exact rfl; (exact (rfl : true = true))) | (apply ef_pick; exact rfl; exact rfl; exact rfl) | (apply ef_len; exact rfl; exact rfl; (assumption)) | (apply ef_ldr; exact rfl; exact rfl; (exact rfl)) | (apply ef_ldp; exact rfl; exact rfl; (exact rfl); exact rfl; (exact rfl); (exact rfl)) | (apply ef_ias; exact rfl; exact rfl; exact rfl; (omega); assumption; exact rfl) | (apply ef_fap; exact rfl; exact rfl) | (apply ef_build; exact rfl; (repeat (apply XVs.cons; exact rfl)); exact XVs.nil; exact rfl; exact rfl) | (apply ef_bsl; exact rfl; (repeat (apply XVs.cons; exact rfl)); exact XVs.nil; exact rfl) | apply ef_nil | apply seqQ.normal | apply ef_block | apply ef_skip | (apply ef_condt; exact rfl; (exact (rfl : true = true))) | (apply ef_call; exact rfl; ((repeat (apply XVs.cons; exact rfl)); exact XVs.nil); (with_reducible first | exact Within_c _ _ _ _ _ (by assumption) | exact hH1 _)))
          (apply ef_nbapp (t := t) (L := L) (p := (y, x - 1)) (G := []); (· exact rfl); (· exact rfl); (· exact rfl); (· (try simp only [List.length_append, List.length_cons, List.length_nil] at hLl ⊢); omega); (· exact show posI ((x : Int) + (2 * ((0 : Nat) : Int) - 1)) (y : Int) = posM (y, x - 1) from by rw [show ((x : Int) + (2 * ((0 : Nat) : Int) - 1)) = (((y, x - 1).2 : Nat) : Int) by simp only; omega]); (· exact fun _ => rfl))
          repeat (first | apply ef_seq | (apply ef_mv; exact rfl; exact rfl) | (apply ef_bin; exact rfl; exact rfl; exact rfl; (((with_reducible refine bin_add (wrap_of ?_ ?_)) <;> omega))) | (apply ef_gn; exact rfl; (exact (rfl : false = false)); exact rfl) | (apply ef_pick; exact rfl; exact rfl; exact rfl) | (apply ef_ldp; exact rfl; exact rfl; (exact rfl); exact rfl; (exact rfl); (exact rfl)) | (apply ef_fap; exact rfl; exact rfl) | apply ef_nil | apply seqQ.normal | apply blockQ.normal | apply ef_skip | (apply ef_condf; exact rfl; (exact (rfl : false = false))) | (apply ef_call; exact rfl; ((repeat (apply XVs.cons; exact rfl)); exact XVs.nil); (with_reducible exact hH2 _)))
          refine loopQ.normal _ _ ⟨(0 + 1, (L ++ [(y, x - 1)])), ⟨by simp only; omega, by rw [HN]; simp [nbA, *], by (try simp only [List.length_append, List.length_cons, List.length_nil] at hLl ⊢); omega⟩, by simp only; omega, ⟨by ((repeat (refine Hold.cons (by exact rfl) ?_)); exact Hold.nil), by ((repeat (refine Hold.cons (by exact rfl) ?_)); exact Hold.nil)⟩, HeadIs.tkE [⟨0, false, 2, [posM (y, x - 1)]⟩] (by first | exact rfl | simp) rfl (nbHp_cl t _ _) fun u hu => ?_⟩
          exact nbK hu (by exact rfl) (by exact rfl) (by exact rfl) (by exact rfl) (by exact rfl)
        · by_cases d2 : 0 < y
          · have g2 : inB ((y : Int) + (2 * ((0 : Nat) : Int) - 1)) 0 ((t.ter.length : Int) - 1) = true := inB_iff.2 (by omega)
            repeat (first | apply ef_seq | (apply ef_mv; exact rfl; exact rfl) | (apply ef_bin; exact rfl; exact rfl; exact rfl; (first | exact cmp_t rfl (by first | exact rfl | (simp only [cmpP]; omega)) | ((with_reducible refine bin_add (wrap_of ?_ ?_)) <;> omega) | ((with_reducible refine bin_sub (wrap_of ?_ ?_)) <;> omega))) | (apply ef_gy; exact rfl; (exact (rfl : true = true))) | (apply ef_pick; exact rfl; exact rfl; exact rfl) | (apply ef_len; exact rfl; exact rfl; (assumption)) | (apply ef_ldr; exact rfl; exact rfl; (exact rfl)) | (apply ef_ldp; exact rfl; exact rfl; (exact rfl); exact rfl; (exact rfl); (exact rfl)) | (apply ef_ias; exact rfl; exact rfl; exact rfl; (omega); assumption; exact rfl) | (apply ef_fap; exact rfl; exact rfl) | (apply ef_build; exact rfl; (repeat (apply XVs.cons; exact rfl)); exact XVs.nil; exact rfl; exact rfl) | (apply ef_bsl; exact rfl; (repeat (apply XVs.cons; exact rfl)); exact XVs.nil; exact rfl) | apply ef_nil | apply seqQ.normal | apply ef_block | apply ef_skip | (apply ef_condt; exact rfl; (exact (rfl : true = true))) | (apply ef_call; exact rfl; ((repeat (apply XVs.cons; exact rfl)); exact XVs.nil); (with_reducible first | exact Within_c _ _ _ _ _ (by assumption) | exact hH1 _)))
            (apply ef_nbapp (t := t) (L := L) (p := (y, x - 1)) (G := []); (· exact rfl); (· exact rfl); (· exact rfl); (· (try simp only [List.length_append, List.length_cons, List.length_nil] at hLl ⊢); omega); (· exact show posI ((x : Int) + (2 * ((0 : Nat) : Int) - 1)) (y : Int) = posM (y, x - 1) from by rw [show ((x : Int) + (2 * ((0 : Nat) : Int) - 1)) = (((y, x - 1).2 : Nat) : Int) by simp only; omega]); (· exact fun _ => rfl))
            repeat (first | apply ef_seq | (apply ef_mv; exact rfl; exact rfl) | (apply ef_bin; exact rfl; exact rfl; exact rfl; (first | ((with_reducible refine bin_add (wrap_of ?_ ?_)) <;> omega) | ((with_reducible refine bin_sub (wrap_of ?_ ?_)) <;> omega))) | (apply ef_gy; exact rfl; (exact (rfl : true = true))) | (apply ef_pick; exact rfl; exact rfl; exact rfl) | (apply ef_len; exact rfl; exact rfl; (assumption)) | (apply ef_ldp; exact rfl; exact rfl; (exact rfl); exact rfl; (exact rfl); (exact rfl)) | (apply ef_fap; exact rfl; exact rfl) | (apply ef_build; exact rfl; (repeat (apply XVs.cons; exact rfl)); exact XVs.nil; exact rfl; exact rfl) | (apply ef_bsl; exact rfl; (repeat (apply XVs.cons; exact rfl)); exact XVs.nil; exact rfl) | apply ef_nil | apply seqQ.normal | (apply ef_condt; exact rfl; (exact (rfl : true = true))) | (apply ef_call; exact rfl; ((repeat (apply XVs.cons; exact rfl)); exact XVs.nil); (with_reducible first | exact Within_c _ _ _ _ _ (by assumption) | exact hH2 _)))
            (apply ef_nbapp (t := t) (L := (L ++ [(y, x - 1)])) (p := (y - 1, x)) (G := [⟨0, false, 2, [posM (y, x - 1)]⟩]); (· exact rfl); (· exact rfl); (· exact rfl); (· (try simp only [List.length_append, List.length_cons, List.length_nil] at hLl ⊢); omega); (· exact show posI (x : Int) ((y : Int) + (2 * ((0 : Nat) : Int) - 1)) = posM (y - 1, x) from by rw [show ((y : Int) + (2 * ((0 : Nat) : Int) - 1)) = (((y - 1, x).1 : Nat) : Int) by simp only; omega]); (· exact fun _ => rfl))
            repeat (first | (apply ef_mv; exact rfl; exact rfl) | (apply ef_bin; exact rfl; exact rfl; exact rfl; (((with_reducible refine bin_add (wrap_of ?_ ?_)) <;> omega))) | apply ef_nil | apply seqQ.normal | apply blockQ.normal)
            refine loopQ.normal _ _ ⟨(0 + 1, ((L ++ [(y, x - 1)]) ++ [(y - 1, x)])), ⟨by simp only; omega, by rw [HN]; simp [nbA, *], by (try simp only [List.length_append, List.length_cons, List.length_nil] at hLl ⊢); omega⟩, by simp only; omega, ⟨by ((repeat (refine Hold.cons (by exact rfl) ?_)); exact Hold.nil), by ((repeat (refine Hold.cons (by exact rfl) ?_)); exact Hold.nil)⟩, HeadIs.tkE [⟨0, false, 2, [posM (y, x - 1)]⟩, ⟨0, false, 2, [posM (y - 1, x)]⟩] (by first | exact rfl | simp) rfl (nbHp_cl t _ _) fun u hu => ?_⟩
            exact nbK hu (by exact rfl) (by exact rfl) (by exact rfl) (by exact rfl) (by exact rfl)
          · have g2 : inB ((y : Int) + (2 * ((0 : Nat) : Int) - 1)) 0 ((t.ter.length : Int) - 1) = false := inB_not.2 (by omega)
            repeat (first | apply ef_seq | (apply ef_mv; exact rfl; exact rfl) | (apply ef_bin; exact rfl; exact rfl; exact rfl; (first | exact cmp_t rfl (by first | exact rfl | (simp only [cmpP]; omega)) | ((with_reducible refine bin_add (wrap_of ?_ ?_)) <;> omega) | ((with_reducible refine bin_sub (wrap_of ?_ ?_)) <;> omega))) | (apply ef_gy; exact rfl; (exact (rfl : true = true))) | (apply ef_pick; exact rfl; exact rfl; exact rfl) | (apply ef_len; exact rfl; exact rfl; (assumption)) | (apply ef_ldr; exact rfl; exact rfl; (exact rfl)) | (apply ef_ldp; exact rfl; exact rfl; (exact rfl); exact rfl; (exact rfl); (exact rfl)) | (apply ef_ias; exact rfl; exact rfl; exact rfl; (omega); assumption; exact rfl) | (apply ef_fap; exact rfl; exact rfl) | (apply ef_build; exact rfl; (repeat (apply XVs.cons; exact rfl)); exact XVs.nil; exact rfl; exact rfl) | (apply ef_bsl; exact rfl; (repeat (apply XVs.cons; exact rfl)); exact XVs.nil; exact rfl) | apply ef_nil | apply seqQ.normal | apply ef_block | apply ef_skip | (apply ef_condt; exact rfl; (exact (rfl : true = true))) | (apply ef_call; exact rfl; ((repeat (apply XVs.cons; exact rfl)); exact XVs.nil); (with_reducible first | exact Within_c _ _ _ _ _ (by assumption) | exact hH1 _)))
            (apply ef_nbapp (t := t) (L := L) (p := (y, x - 1)) (G := []); (· exact rfl); (· exact rfl); (· exact rfl); (· (try simp only [List.length_append, List.length_cons, List.length_nil] at hLl ⊢); omega); (· exact show posI ((x : Int) + (2 * ((0 : Nat) : Int) - 1)) (y : Int) = posM (y, x - 1) from by rw [show ((x : Int) + (2 * ((0 : Nat) : Int) - 1)) = (((y, x - 1).2 : Nat) : Int) by simp only; omega]); (· exact fun _ => rfl))
            repeat (first | apply ef_seq | (apply ef_mv; exact rfl; exact rfl) | (apply ef_bin; exact rfl; exact rfl; exact rfl; (first | ((with_reducible refine bin_add (wrap_of ?_ ?_)) <;> omega) | ((with_reducible refine bin_sub (wrap_of ?_ ?_)) <;> omega))) | (apply ef_gy; exact rfl; (exact (rfl : true = true))) | (apply ef_pick; exact rfl; exact rfl; exact rfl) | (apply ef_len; exact rfl; exact rfl; (assumption)) | (apply ef_ldp; exact rfl; exact rfl; (exact rfl); exact rfl; (exact rfl); (exact rfl)) | (apply ef_fap; exact rfl; exact rfl) | apply ef_nil | apply seqQ.normal | apply blockQ.normal | apply ef_skip | (apply ef_condf; exact rfl; (exact (rfl : false = false))) | (apply ef_call; exact rfl; ((repeat (apply XVs.cons; exact rfl)); exact XVs.nil); (with_reducible first | exact Within_c _ _ _ _ _ (by assumption) | exact hH2 _)))
            refine loopQ.normal _ _ ⟨(0 + 1, (L ++ [(y, x - 1)])), ⟨by simp only; omega, by rw [HN]; simp [nbA, *], by (try simp only [List.length_append, List.length_cons, List.length_nil] at hLl ⊢); omega⟩, by simp only; omega, ⟨by ((repeat (refine Hold.cons (by exact rfl) ?_)); exact Hold.nil), by ((repeat (refine Hold.cons (by exact rfl) ?_)); exact Hold.nil)⟩, HeadIs.tkE [⟨0, false, 2, [posM (y, x - 1)]⟩] (by first | exact rfl | simp) rfl (nbHp_cl t _ _) fun u hu => ?_⟩
            exact nbK hu (by exact rfl) (by exact rfl) (by exact rfl) (by exact rfl) (by exact rfl)
      · have g1 : inB ((x : Int) + (2 * ((0 : Nat) : Int) - 1)) 0 ((t.W : Int) - 1) = false := inB_not.2 (by omega)
        cases q
        · repeat (first | apply ef_seq | (apply ef_mv; exact rfl; exact rfl) | (apply ef_bin; exact rfl; exact rfl; exact rfl; (first | exact cmp_t rfl (by first | exact rfl | (simp only [cmpP]; omega)) | ((with_reducible refine bin_add (wrap_of ?_ ?_)) <;> omega) | ((with_reducible refine bin_sub (wrap_of ?_ ?_)) <;> omega))) | (apply ef_gy; exact rfl; (exact (rfl : true = true))) | (apply ef_gn; exact rfl; (exact (rfl : false = false)); exact rfl) | (apply ef_pick; exact rfl; exact rfl; exact rfl) | (apply ef_len; exact rfl; exact rfl; (assumption)) | (apply ef_ldr; exact rfl; exact rfl; (exact rfl)) | (apply ef_ldp; exact rfl; exact rfl; (exact rfl); exact rfl; (exact rfl); (exact rfl)) | (apply ef_ias; exact rfl; exact rfl; exact rfl; (omega); assumption; exact rfl) | (apply ef_fap; exact rfl; exact rfl) | apply ef_nil | apply seqQ.normal | apply blockQ.normal | apply ef_block | apply ef_skip | (apply ef_condt; exact rfl; (exact (rfl : true = true))) | (apply ef_condf; exact rfl; (exact (rfl : false = false))) | (apply ef_call; exact rfl; ((repeat (apply XVs.cons; exact rfl)); exact XVs.nil); (with_reducible first | exact Within_c _ _ _ _ _ (by assumption) | exact hH1 _ | exact hH2 _)))
          refine loopQ.normal _ _ ⟨(0 + 1, L), ⟨by simp only; omega, by rw [HN]; simp [nbA, *], by (try simp only [List.length_append, List.length_cons, List.length_nil] at hLl ⊢); omega⟩, by simp only; omega, ⟨by ((repeat (refine Hold.cons (by exact rfl) ?_)); exact Hold.nil), by ((repeat (refine Hold.cons (by exact rfl) ?_)); exact Hold.nil)⟩, HeadIs.tkE [] (by first | exact rfl | simp) rfl (nbHp_cl t _ _) fun u hu => ?_⟩
          exact nbK hu (by exact rfl) (by exact rfl) (by exact rfl) (by exact rfl) (by exact rfl)
        · by_cases d2 : 0 < y
          · have g2 : inB ((y : Int) + (2 * ((0 : Nat) : Int) - 1)) 0 ((t.ter.length : Int) - 1) = true := inB_iff.2 (by omega)
            repeat (first | apply ef_seq | (apply ef_mv; exact rfl; exact rfl) | (apply ef_bin; exact rfl; exact rfl; exact rfl; (first | exact cmp_t rfl (by first | exact rfl | (simp only [cmpP]; omega)) | ((with_reducible refine bin_add (wrap_of ?_ ?_)) <;> omega) | ((with_reducible refine bin_sub (wrap_of ?_ ?_)) <;> omega))) | (apply ef_gy; exact rfl; (exact (rfl : true = true))) | (apply ef_pick; exact rfl; exact rfl; exact rfl) | (apply ef_len; exact rfl; exact rfl; (assumption)) | (apply ef_ldr; exact rfl; exact rfl; (exact rfl)) | (apply ef_ldp; exact rfl; exact rfl; (exact rfl); exact rfl; (exact rfl); (exact rfl)) | (apply ef_ias; exact rfl; exact rfl; exact rfl; (omega); assumption; exact rfl) | (apply ef_fap; exact rfl; exact rfl) | (apply ef_build; exact rfl; (repeat (apply XVs.cons; exact rfl)); exact XVs.nil; exact rfl; exact rfl) | (apply ef_bsl; exact rfl; (repeat (apply XVs.cons; exact rfl)); exact XVs.nil; exact rfl) | apply ef_nil | apply seqQ.normal | apply ef_block | apply ef_skip | (apply ef_condt; exact rfl; (exact (rfl : true = true))) | (apply ef_condf; exact rfl; (exact (rfl : false = false))) | (apply ef_call; exact rfl; ((repeat (apply XVs.cons; exact rfl)); exact XVs.nil); (with_reducible first | exact Within_c _ _ _ _ _ (by assumption) | exact hH1 _ | exact hH2 _)))
            (apply ef_nbapp (t := t) (L := L) (p := (y - 1, x)) (G := []); (· exact rfl); (· exact rfl); (· exact rfl); (· (try simp only [List.length_append, List.length_cons, List.length_nil] at hLl ⊢); omega); (· exact show posI (x : Int) ((y : Int) + (2 * ((0 : Nat) : Int) - 1)) = posM (y - 1, x) from by rw [show ((y : Int) + (2 * ((0 : Nat) : Int) - 1)) = (((y - 1, x).1 : Nat) : Int) by simp only; omega]); (· exact fun _ => rfl))
            repeat (first | (apply ef_mv; exact rfl; exact rfl) | (apply ef_bin; exact rfl; exact rfl; exact rfl; (((with_reducible refine bin_add (wrap_of ?_ ?_)) <;> omega))) | apply ef_nil | apply seqQ.normal | apply blockQ.normal)
            refine loopQ.normal _ _ ⟨(0 + 1, (L ++ [(y - 1, x)])), ⟨by simp only; omega, by rw [HN]; simp [nbA, *], by (try simp only [List.length_append, List.length_cons, List.length_nil] at hLl ⊢); omega⟩, by simp only; omega, ⟨by ((repeat (refine Hold.cons (by exact rfl) ?_)); exact Hold.nil), by ((repeat (refine Hold.cons (by exact rfl) ?_)); exact Hold.nil)⟩, HeadIs.tkE [⟨0, false, 2, [posM (y - 1, x)]⟩] (by first | exact rfl | simp) rfl (nbHp_cl t _ _) fun u hu => ?_⟩
            exact nbK hu (by exact rfl) (by exact rfl) (by exact rfl) (by exact rfl) (by exact rfl)
          · have g2 : inB ((y : Int) + (2 * ((0 : Nat) : Int) - 1)) 0 ((t.ter.length : Int) - 1) = false := inB_not.2 (by omega)
            repeat (first | apply ef_seq | (apply ef_mv; exact rfl; exact rfl) | (apply ef_bin; exact rfl; exact rfl; exact rfl; (first | exact cmp_t rfl (by first | exact rfl | (simp only [cmpP]; omega)) | ((with_reducible refine bin_add (wrap_of ?_ ?_)) <;> omega) | ((with_reducible refine bin_sub (wrap_of ?_ ?_)) <;> omega))) | (apply ef_gy; exact rfl; (exact (rfl : true = true))) | (apply ef_pick; exact rfl; exact rfl; exact rfl) | (apply ef_len; exact rfl; exact rfl; (assumption)) | (apply ef_ldr; exact rfl; exact rfl; (exact rfl)) | (apply ef_ldp; exact rfl; exact rfl; (exact rfl); exact rfl; (exact rfl); (exact rfl)) | (apply ef_ias; exact rfl; exact rfl; exact rfl; (omega); assumption; exact rfl) | (apply ef_fap; exact rfl; exact rfl) | apply ef_nil | apply seqQ.normal | apply blockQ.normal | apply ef_block | apply ef_skip | (apply ef_condt; exact rfl; (exact (rfl : true = true))) | (apply ef_condf; exact rfl; (exact (rfl : false = false))) | (apply ef_call; exact rfl; ((repeat (apply XVs.cons; exact rfl)); exact XVs.nil); (with_reducible first | exact Within_c _ _ _ _ _ (by assumption) | exact hH1 _ | exact hH2 _)))
            refine loopQ.normal _ _ ⟨(0 + 1, L), ⟨by simp only; omega, by rw [HN]; simp [nbA, *], by (try simp only [List.length_append, List.length_cons, List.length_nil] at hLl ⊢); omega⟩, by simp only; omega, ⟨by ((repeat (refine Hold.cons (by exact rfl) ?_)); exact Hold.nil), by ((repeat (refine Hold.cons (by exact rfl) ?_)); exact Hold.nil)⟩, HeadIs.tkE [] (by first | exact rfl | simp) rfl (nbHp_cl t _ _) fun u hu => ?_⟩
            exact nbK hu (by exact rfl) (by exact rfl) (by exact rfl) (by exact rfl) (by exact rfl)
  | 1, hi, hL, hLl =>
    have HN := (show nbP t y x (1 + 1) = nbP t y x 1 ++ (nbA (t.rows.contains (y : Int)) (decide (x + 1 < t.W)) (y, x + 1) ++ nbA (t.ties.contains (x : Int)) (decide (y + 1 < t.ter.length)) (y + 1, x)) from by simp [nbP, nbR])
    rw [← hL] at HN
    generalize t.rows.contains (y : Int) = p at hH1 HN
    generalize t.ties.contains (x : Int) = q at hH2 HN
    cases p
    · cases q
      · repeat (first | apply ef_seq | (apply ef_mv; exact rfl; exact rfl) | (apply ef_bin; exact rfl; exact rfl; exact rfl; (first | exact cmp_t rfl (by first | exact rfl | (simp only [cmpP]; omega)) | ((with_reducible refine bin_add (wrap_of ?_ ?_)) <;> omega))) | (apply ef_gn; exact rfl; (exact (rfl : false = false)); exact rfl) | (apply ef_pick; exact rfl; exact rfl; exact rfl) | (apply ef_ldp; exact rfl; exact rfl; (exact rfl); exact rfl; (exact rfl); (exact rfl)) | (apply ef_fap; exact rfl; exact rfl) | apply ef_nil | apply seqQ.normal | apply blockQ.normal | apply ef_block | apply ef_skip | (apply ef_condt; exact rfl; (exact (rfl : true = true))) | (apply ef_condf; exact rfl; (exact (rfl : false = false))) | (apply ef_call; exact rfl; ((repeat (apply XVs.cons; exact rfl)); exact XVs.nil); (with_reducible first | exact hH1 _ | exact hH2 _)))
        refine loopQ.normal _ _ ⟨(1 + 1, L), ⟨by simp only; omega, by rw [HN]; simp [nbA, *], by (try simp only [List.length_append, List.length_cons, List.length_nil] at hLl ⊢); omega⟩, by simp only; omega, ⟨by ((repeat (refine Hold.cons (by exact rfl) ?_)); exact Hold.nil), by ((repeat (refine Hold.cons (by exact rfl) ?_)); exact Hold.nil)⟩, HeadIs.tkE [] (by first | exact rfl | simp) rfl (nbHp_cl t _ _) fun u hu => ?_⟩
        exact nbK hu (by exact rfl) (by exact rfl) (by exact rfl) (by exact rfl) (by exact rfl)
      · by_cases d2 : y + 1 < t.ter.length
        · have g2 : inB ((y : Int) + (2 * ((1 : Nat) : Int) - 1)) 0 ((t.ter.length : Int) - 1) = true := inB_iff.2 (by omega)
          repeat (first | apply ef_seq | (apply ef_mv; exact rfl; exact rfl) | (apply ef_bin; exact rfl; exact rfl; exact rfl; (first | exact cmp_t rfl (by first | exact rfl | (simp only [cmpP]; omega)) | ((with_reducible refine bin_add (wrap_of ?_ ?_)) <;> omega) | ((with_reducible refine bin_sub (wrap_of ?_ ?_)) <;> omega))) | (apply ef_gy; exact rfl; (exact (rfl : true = true))) | (apply ef_gn; exact rfl; (exact (rfl : false = false)); exact rfl) | (apply ef_pick; exact rfl; exact rfl; exact rfl) | (apply ef_len; exact rfl; exact rfl; (assumption)) | (apply ef_ldp; exact rfl; exact rfl; (exact rfl); exact rfl; (exact rfl); (exact rfl)) | (apply ef_fap; exact rfl; exact rfl) | (apply ef_build; exact rfl; (repeat (apply XVs.cons; exact rfl)); exact XVs.nil; exact rfl; exact rfl) | (apply ef_bsl; exact rfl; (repeat (apply XVs.cons; exact rfl)); exact XVs.nil; exact rfl) | apply ef_nil | apply seqQ.normal | apply ef_block | apply ef_skip | (apply ef_condt; exact rfl; (exact (rfl : true = true))) | (apply ef_condf; exact rfl; (exact (rfl : false = false))) | (apply ef_call; exact rfl; ((repeat (apply XVs.cons; exact rfl)); exact XVs.nil); (with_reducible first | exact Within_c _ _ _ _ _ (by assumption) | exact hH1 _ | exact hH2 _)))
          (apply ef_nbapp (t := t) (L := L) (p := (y + 1, x)) (G := []); (· exact rfl); (· exact rfl); (· exact rfl); (· (try simp only [List.length_append, List.length_cons, List.length_nil] at hLl ⊢); omega); (· exact show posI (x : Int) ((y : Int) + (2 * ((1 : Nat) : Int) - 1)) = posM (y + 1, x) from by rw [show ((y : Int) + (2 * ((1 : Nat) : Int) - 1)) = (((y + 1, x).1 : Nat) : Int) by simp only; omega]); (· exact fun _ => rfl))
          repeat (first | (apply ef_mv; exact rfl; exact rfl) | (apply ef_bin; exact rfl; exact rfl; exact rfl; (((with_reducible refine bin_add (wrap_of ?_ ?_)) <;> omega))) | apply ef_nil | apply seqQ.normal | apply blockQ.normal)
          refine loopQ.normal _ _ ⟨(1 + 1, (L ++ [(y + 1, x)])), ⟨by simp only; omega, by rw [HN]; simp [nbA, *], by (try simp only [List.length_append, List.length_cons, List.length_nil] at hLl ⊢); omega⟩, by simp only; omega, ⟨by ((repeat (refine Hold.cons (by exact rfl) ?_)); exact Hold.nil), by ((repeat (refine Hold.cons (by exact rfl) ?_)); exact Hold.nil)⟩, HeadIs.tkE [⟨0, false, 2, [posM (y + 1, x)]⟩] (by first | exact rfl | simp) rfl (nbHp_cl t _ _) fun u hu => ?_⟩
          exact nbK hu (by exact rfl) (by exact rfl) (by exact rfl) (by exact rfl) (by exact rfl)
        · have g2 : inB ((y : Int) + (2 * ((1 : Nat) : Int) - 1)) 0 ((t.ter.length : Int) - 1) = false := inB_not.2 (by omega)
          repeat (first | apply ef_seq | (apply ef_mv; exact rfl; exact rfl) | (apply ef_bin; exact rfl; exact rfl; exact rfl; (first | exact cmp_t rfl (by first | exact rfl | (simp only [cmpP]; omega)) | ((with_reducible refine bin_add (wrap_of ?_ ?_)) <;> omega) | ((with_reducible refine bin_sub (wrap_of ?_ ?_)) <;> omega))) | (apply ef_gy; exact rfl; (exact (rfl : true = true))) | (apply ef_gn; exact rfl; (exact (rfl : false = false)); exact rfl) | (apply ef_pick; exact rfl; exact rfl; exact rfl) | (apply ef_len; exact rfl; exact rfl; (assumption)) | (apply ef_ldp; exact rfl; exact rfl; (exact rfl); exact rfl; (exact rfl); (exact rfl)) | (apply ef_fap; exact rfl; exact rfl) | apply ef_nil | apply seqQ.normal | apply blockQ.normal | apply ef_block | apply ef_skip | (apply ef_condt; exact rfl; (exact (rfl : true = true))) | (apply ef_condf; exact rfl; (exact (rfl : false = false))) | (apply ef_call; exact rfl; ((repeat (apply XVs.cons; exact rfl)); exact XVs.nil); (with_reducible first | exact Within_c _ _ _ _ _ (by assumption) | exact hH1 _ | exact hH2 _)))
          refine loopQ.normal _ _ ⟨(1 + 1, L), ⟨by simp only; omega, by rw [HN]; simp [nbA, *], by (try simp only [List.length_append, List.length_cons, List.length_nil] at hLl ⊢); omega⟩, by simp only; omega, ⟨by ((repeat (refine Hold.cons (by exact rfl) ?_)); exact Hold.nil), by ((repeat (refine Hold.cons (by exact rfl) ?_)); exact Hold.nil)⟩, HeadIs.tkE [] (by first | exact rfl | simp) rfl (nbHp_cl t _ _) fun u hu => ?_⟩
          exact nbK hu (by exact rfl) (by exact rfl) (by exact rfl) (by exact rfl) (by exact rfl)
    · by_cases d1 : x + 1 < t.W
      · have g1 : inB ((x : Int) + (2 * ((1 : Nat) : Int) - 1)) 0 ((t.W : Int) - 1) = true := inB_iff.2 (by omega)
        cases q
        · repeat (first | apply ef_seq | (apply ef_mv; exact rfl; exact rfl) | (apply ef_bin; exact rfl; exact rfl; exact rfl; (first | exact cmp_t rfl (by first | exact rfl | (simp only [cmpP]; omega)) | ((with_reducible refine bin_add (wrap_of ?_ ?_)) <;> omega) | ((with_reducible refine bin_sub (wrap_of ?_ ?_)) <;> omega))) | (apply ef_gy; exact rfl; (exact (rfl : true = true))) | (apply ef_pick; exact rfl; exact rfl; exact rfl) | (apply ef_len; exact rfl; exact rfl; (assumption)) | (apply ef_ldr; exact rfl; exact rfl; (exact rfl)) | (apply ef_ldp; exact rfl; exact rfl; (exact rfl); exact rfl; (exact rfl); (exact rfl)) | (apply ef_ias; exact rfl; exact rfl; exact rfl; (omega); assumption; exact rfl) | (apply ef_fap; exact rfl; exact rfl) | (apply ef_build; exact rfl; (repeat (apply XVs.cons; exact rfl)); exact XVs.nil; exact rfl; exact rfl) | (apply ef_bsl; exact rfl; (repeat (apply XVs.cons; exact rfl)); exact XVs.nil; exact rfl) | apply ef_nil | apply seqQ.normal | apply ef_block | apply ef_skip | (apply ef_condt; exact rfl; (exact (rfl : true = true))) | (apply ef_call; exact rfl; ((repeat (apply XVs.cons; exact rfl)); exact XVs.nil); (with_reducible first | exact Within_c _ _ _ _ _ (by assumption) | exact hH1 _)))
          (apply ef_nbapp (t := t) (L := L) (p := (y, x + 1)) (G := []); (· exact rfl); (· exact rfl); (· exact rfl); (· (try simp only [List.length_append, List.length_cons, List.length_nil] at hLl ⊢); omega); (· exact show posI ((x : Int) + (2 * ((1 : Nat) : Int) - 1)) (y : Int) = posM (y, x + 1) from by rw [show ((x : Int) + (2 * ((1 : Nat) : Int) - 1)) = (((y, x + 1).2 : Nat) : Int) by simp only; omega]); (· exact fun _ => rfl))
          repeat (first | apply ef_seq | (apply ef_mv; exact rfl; exact rfl) | (apply ef_bin; exact rfl; exact rfl; exact rfl; (((with_reducible refine bin_add (wrap_of ?_ ?_)) <;> omega))) | (apply ef_gn; exact rfl; (exact (rfl : false = false)); exact rfl) | (apply ef_pick; exact rfl; exact rfl; exact rfl) | (apply ef_ldp; exact rfl; exact rfl; (exact rfl); exact rfl; (exact rfl); (exact rfl)) | (apply ef_fap; exact rfl; exact rfl) | apply ef_nil | apply seqQ.normal | apply blockQ.normal | apply ef_skip | (apply ef_condf; exact rfl; (exact (rfl : false = false))) | (apply ef_call; exact rfl; ((repeat (apply XVs.cons; exact rfl)); exact XVs.nil); (with_reducible exact hH2 _)))
          refine loopQ.normal _ _ ⟨(1 + 1, (L ++ [(y, x + 1)])), ⟨by simp only; omega, by rw [HN]; simp [nbA, *], by (try simp only [List.length_append, List.length_cons, List.length_nil] at hLl ⊢); omega⟩, by simp only; omega, ⟨by ((repeat (refine Hold.cons (by exact rfl) ?_)); exact Hold.nil), by ((repeat (refine Hold.cons (by exact rfl) ?_)); exact Hold.nil)⟩, HeadIs.tkE [⟨0, false, 2, [posM (y, x + 1)]⟩] (by first | exact rfl | simp) rfl (nbHp_cl t _ _) fun u hu => ?_⟩
          exact nbK hu (by exact rfl) (by exact rfl) (by exact rfl) (by exact rfl) (by exact rfl)
        · by_cases d2 : y + 1 < t.ter.length
          · have g2 : inB ((y : Int) + (2 * ((1 : Nat) : Int) - 1)) 0 ((t.ter.length : Int) - 1) = true := inB_iff.2 (by omega)
            repeat (first | apply ef_seq | (apply ef_mv; exact rfl; exact rfl) | (apply ef_bin; exact rfl; exact rfl; exact rfl; (first | exact cmp_t rfl (by first | exact rfl | (simp only [cmpP]; omega)) | ((with_reducible refine bin_add (wrap_of ?_ ?_)) <;> omega) | ((with_reducible refine bin_sub (wrap_of ?_ ?_)) <;> omega))) | (apply ef_gy; exact rfl; (exact (rfl : true = true))) | (apply ef_pick; exact rfl; exact rfl; exact rfl) | (apply ef_len; exact rfl; exact rfl; (assumption)) | (apply ef_ldr; exact rfl; exact rfl; (exact rfl)) | (apply ef_ldp; exact rfl; exact rfl; (exact rfl); exact rfl; (exact rfl); (exact rfl)) | (apply ef_ias; exact rfl; exact rfl; exact rfl; (omega); assumption; exact rfl) | (apply ef_fap; exact rfl; exact rfl) | (apply ef_build; exact rfl; (repeat (apply XVs.cons; exact rfl)); exact XVs.nil; exact rfl; exact rfl) | (apply ef_bsl; exact rfl; (repeat (apply XVs.cons; exact rfl)); exact XVs.nil; exact rfl) | apply ef_nil | apply seqQ.normal | apply ef_block | apply ef_skip | (apply ef_condt; exact rfl; (exact (rfl : true = true))) | (apply ef_call; exact rfl; ((repeat (apply XVs.cons; exact rfl)); exact XVs.nil); (with_reducible first | exact Within_c _ _ _ _ _ (by assumption) | exact hH1 _)))
            (apply ef_nbapp (t := t) (L := L) (p := (y, x + 1)) (G := []); (· exact rfl); (· exact rfl); (· exact rfl); (· (try simp only [List.length_append, List.length_cons, List.length_nil] at hLl ⊢); omega); (· exact show posI ((x : Int) + (2 * ((1 : Nat) : Int) - 1)) (y : Int) = posM (y, x + 1) from by rw [show ((x : Int) + (2 * ((1 : Nat) : Int) - 1)) = (((y, x + 1).2 : Nat) : Int) by simp only; omega]); (· exact fun _ => rfl))
            repeat (first | apply ef_seq | (apply ef_mv; exact rfl; exact rfl) | (apply ef_bin; exact rfl; exact rfl; exact rfl; (first | ((with_reducible refine bin_add (wrap_of ?_ ?_)) <;> omega) | ((with_reducible refine bin_sub (wrap_of ?_ ?_)) <;> omega))) | (apply ef_gy; exact rfl; (exact (rfl : true = true))) | (apply ef_pick; exact rfl; exact rfl; exact rfl) | (apply ef_len; exact rfl; exact rfl; (assumption)) | (apply ef_ldp; exact rfl; exact rfl; (exact rfl); exact rfl; (exact rfl); (exact rfl)) | (apply ef_fap; exact rfl; exact rfl) | (apply ef_build; exact rfl; (repeat (apply XVs.cons; exact rfl)); exact XVs.nil; exact rfl; exact rfl) | (apply ef_bsl; exact rfl; (repeat (apply XVs.cons; exact rfl)); exact XVs.nil; exact rfl) | apply ef_nil | apply seqQ.normal | (apply ef_condt; exact rfl; (exact (rfl : true = true))) | (apply ef_call; exact rfl; ((repeat (apply XVs.cons; exact rfl)); exact XVs.nil); (with_reducible first | exact Within_c _ _ _ _ _ (by assumption) | exact hH2 _)))
            (apply ef_nbapp (t := t) (L := (L ++ [(y, x + 1)])) (p := (y + 1, x)) (G := [⟨0, false, 2, [posM (y, x + 1)]⟩]); (· exact rfl); (· exact rfl); (· exact rfl); (· (try simp only [List.length_append, List.length_cons, List.length_nil] at hLl ⊢); omega); (· exact show posI (x : Int) ((y : Int) + (2 * ((1 : Nat) : Int) - 1)) = posM (y + 1, x) from by rw [show ((y : Int) + (2 * ((1 : Nat) : Int) - 1)) = (((y + 1, x).1 : Nat) : Int) by simp only; omega]); (· exact fun _ => rfl))
            repeat (first | (apply ef_mv; exact rfl; exact rfl) | (apply ef_bin; exact rfl; exact rfl; exact rfl; (((with_reducible refine bin_add (wrap_of ?_ ?_)) <;> omega))) | apply ef_nil | apply seqQ.normal | apply blockQ.normal)
            refine loopQ.normal _ _ ⟨(1 + 1, ((L ++ [(y, x + 1)]) ++ [(y + 1, x)])), ⟨by simp only; omega, by rw [HN]; simp [nbA, *], by (try simp only [List.length_append, List.length_cons, List.length_nil] at hLl ⊢); omega⟩, by simp only; omega, ⟨by ((repeat (refine Hold.cons (by exact rfl) ?_)); exact Hold.nil), by ((repeat (refine Hold.cons (by exact rfl) ?_)); exact Hold.nil)⟩, HeadIs.tkE [⟨0, false, 2, [posM (y, x + 1)]⟩, ⟨0, false, 2, [posM (y + 1, x)]⟩] (by first | exact rfl | simp) rfl (nbHp_cl t _ _) fun u hu => ?_⟩
            exact nbK hu (by exact rfl) (by exact rfl) (by exact rfl) (by exact rfl) (by exact rfl)
          · have g2 : inB ((y : Int) + (2 * ((1 : Nat) : Int) - 1)) 0 ((t.ter.length : Int) - 1) = false := inB_not.2 (by omega)
            repeat (first | apply ef_seq | (apply ef_mv; exact rfl; exact rfl) | (apply ef_bin; exact rfl; exact rfl; exact rfl; (first | exact cmp_t rfl (by first | exact rfl | (simp only [cmpP]; omega)) | ((with_reducible refine bin_add (wrap_of ?_ ?_)) <;> omega) | ((with_reducible refine bin_sub (wrap_of ?_ ?_)) <;> omega))) | (apply ef_gy; exact rfl; (exact (rfl : true = true))) | (apply ef_pick; exact rfl; exact rfl; exact rfl) | (apply ef_len; exact rfl; exact rfl; (assumption)) | (apply ef_ldr; exact rfl; exact rfl; (exact rfl)) | (apply ef_ldp; exact rfl; exact rfl; (exact rfl); exact rfl; (exact rfl); (exact rfl)) | (apply ef_ias; exact rfl; exact rfl; exact rfl; (omega); assumption; exact rfl) | (apply ef_fap; exact rfl; exact rfl) | (apply ef_build; exact rfl; (repeat (apply XVs.cons; exact rfl)); exact XVs.nil; exact rfl; exact rfl) | (apply ef_bsl; exact rfl; (repeat (apply XVs.cons; exact rfl)); exact XVs.nil; exact rfl) | apply ef_nil | apply seqQ.normal | apply ef_block | apply ef_skip | (apply ef_condt; exact rfl; (exact (rfl : true = true))) | (apply ef_call; exact rfl; ((repeat (apply XVs.cons; exact rfl)); exact XVs.nil); (with_reducible first | exact Within_c _ _ _ _ _ (by assumption) | exact hH1 _)))
            (apply ef_nbapp (t := t) (L := L) (p := (y, x + 1)) (G := []); (· exact rfl); (· exact rfl); (· exact rfl); (· (try simp only [List.length_append, List.length_cons, List.length_nil] at hLl ⊢); omega); (· exact show posI ((x : Int) + (2 * ((1 : Nat) : Int) - 1)) (y : Int) = posM (y, x + 1) from by rw [show ((x : Int) + (2 * ((1 : Nat) : Int) - 1)) = (((y, x + 1).2 : Nat) : Int) by simp only; omega]); (· exact fun _ => rfl))
            repeat (first | apply ef_seq | (apply ef_mv; exact rfl; exact rfl) | (apply ef_bin; exact rfl; exact rfl; exact rfl; (first | ((with_reducible refine bin_add (wrap_of ?_ ?_)) <;> omega) | ((with_reducible refine bin_sub (wrap_of ?_ ?_)) <;> omega))) | (apply ef_gy; exact rfl; (exact (rfl : true = true))) | (apply ef_pick; exact rfl; exact rfl; exact rfl) | (apply ef_len; exact rfl; exact rfl; (assumption)) | (apply ef_ldp; exact rfl; exact rfl; (exact rfl); exact rfl; (exact rfl); (exact rfl)) | (apply ef_fap; exact rfl; exact rfl) | apply ef_nil | apply seqQ.normal | apply blockQ.normal | apply ef_skip | (apply ef_condf; exact rfl; (exact (rfl : false = false))) | (apply ef_call; exact rfl; ((repeat (apply XVs.cons; exact rfl)); exact XVs.nil); (with_reducible first | exact Within_c _ _ _ _ _ (by assumption) | exact hH2 _)))
            refine loopQ.normal _ _ ⟨(1 + 1, (L ++ [(y, x + 1)])), ⟨by simp only; omega, by rw [HN]; simp [nbA, *], by (try simp only [List.length_append, List.length_cons, List.length_nil] at hLl ⊢); omega⟩, by simp only; omega, ⟨by ((repeat (refine Hold.cons (by exact rfl) ?_)); exact Hold.nil), by ((repeat (refine Hold.cons (by exact rfl) ?_)); exact Hold.nil)⟩, HeadIs.tkE [⟨0, false, 2, [posM (y, x + 1)]⟩] (by first | exact rfl | simp) rfl (nbHp_cl t _ _) fun u hu => ?_⟩
            exact nbK hu (by exact rfl) (by exact rfl) (by exact rfl) (by exact rfl) (by exact rfl)
      · have g1 : inB ((x : Int) + (2 * ((1 : Nat) : Int) - 1)) 0 ((t.W : Int) - 1) = false := inB_not.2 (by omega)
        cases q
        · repeat (first | apply ef_seq | (apply ef_mv; exact rfl; exact rfl) | (apply ef_bin; exact rfl; exact rfl; exact rfl; (first | exact cmp_t rfl (by first | exact rfl | (simp only [cmpP]; omega)) | ((with_reducible refine bin_add (wrap_of ?_ ?_)) <;> omega) | ((with_reducible refine bin_sub (wrap_of ?_ ?_)) <;> omega))) | (apply ef_gy; exact rfl; (exact (rfl : true = true))) | (apply ef_gn; exact rfl; (exact (rfl : false = false)); exact rfl) | (apply ef_pick; exact rfl; exact rfl; exact rfl) | (apply ef_len; exact rfl; exact rfl; (assumption)) | (apply ef_ldr; exact rfl; exact rfl; (exact rfl)) | (apply ef_ldp; exact rfl; exact rfl; (exact rfl); exact rfl; (exact rfl); (exact rfl)) | (apply ef_ias; exact rfl; exact rfl; exact rfl; (omega); assumption; exact rfl) | (apply ef_fap; exact rfl; exact rfl) | apply ef_nil | apply seqQ.normal | apply blockQ.normal | apply ef_block | apply ef_skip | (apply ef_condt; exact rfl; (exact (rfl : true = true))) | (apply ef_condf; exact rfl; (exact (rfl : false = false))) | (apply ef_call; exact rfl; ((repeat (apply XVs.cons; exact rfl)); exact XVs.nil); (with_reducible first | exact Within_c _ _ _ _ _ (by assumption) | exact hH1 _ | exact hH2 _)))
          refine loopQ.normal _ _ ⟨(1 + 1, L), ⟨by simp only; omega, by rw [HN]; simp [nbA, *], by (try simp only [List.length_append, List.length_cons, List.length_nil] at hLl ⊢); omega⟩, by simp only; omega, ⟨by ((repeat (refine Hold.cons (by exact rfl) ?_)); exact Hold.nil), by ((repeat (refine Hold.cons (by exact rfl) ?_)); exact Hold.nil)⟩, HeadIs.tkE [] (by first | exact rfl | simp) rfl (nbHp_cl t _ _) fun u hu => ?_⟩
          exact nbK hu (by exact rfl) (by exact rfl) (by exact rfl) (by exact rfl) (by exact rfl)
        · by_cases d2 : y + 1 < t.ter.length
          · have g2 : inB ((y : Int) + (2 * ((1 : Nat) : Int) - 1)) 0 ((t.ter.length : Int) - 1) = true := inB_iff.2 (by omega)
            repeat (first | apply ef_seq | (apply ef_mv; exact rfl; exact rfl) | (apply ef_bin; exact rfl; exact rfl; exact rfl; (first | exact cmp_t rfl (by first | exact rfl | (simp only [cmpP]; omega)) | ((with_reducible refine bin_add (wrap_of ?_ ?_)) <;> omega) | ((with_reducible refine bin_sub (wrap_of ?_ ?_)) <;> omega))) | (apply ef_gy; exact rfl; (exact (rfl : true = true))) | (apply ef_pick; exact rfl; exact rfl; exact rfl) | (apply ef_len; exact rfl; exact rfl; (assumption)) | (apply ef_ldr; exact rfl; exact rfl; (exact rfl)) | (apply ef_ldp; exact rfl; exact rfl; (exact rfl); exact rfl; (exact rfl); (exact rfl)) | (apply ef_ias; exact rfl; exact rfl; exact rfl; (omega); assumption; exact rfl) | (apply ef_fap; exact rfl; exact rfl) | (apply ef_build; exact rfl; (repeat (apply XVs.cons; exact rfl)); exact XVs.nil; exact rfl; exact rfl) | (apply ef_bsl; exact rfl; (repeat (apply XVs.cons; exact rfl)); exact XVs.nil; exact rfl) | apply ef_nil | apply seqQ.normal | apply ef_block | apply ef_skip | (apply ef_condt; exact rfl; (exact (rfl : true = true))) | (apply ef_condf; exact rfl; (exact (rfl : false = false))) | (apply ef_call; exact rfl; ((repeat (apply XVs.cons; exact rfl)); exact XVs.nil); (with_reducible first | exact Within_c _ _ _ _ _ (by assumption) | exact hH1 _ | exact hH2 _)))
            (apply ef_nbapp (t := t) (L := L) (p := (y + 1, x)) (G := []); (· exact rfl); (· exact rfl); (· exact rfl); (· (try simp only [List.length_append, List.length_cons, List.length_nil] at hLl ⊢); omega); (· exact show posI (x : Int) ((y : Int) + (2 * ((1 : Nat) : Int) - 1)) = posM (y + 1, x) from by rw [show ((y : Int) + (2 * ((1 : Nat) : Int) - 1)) = (((y + 1, x).1 : Nat) : Int) by simp only; omega]); (· exact fun _ => rfl))
            repeat (first | (apply ef_mv; exact rfl; exact rfl) | (apply ef_bin; exact rfl; exact rfl; exact rfl; (((with_reducible refine bin_add (wrap_of ?_ ?_)) <;> omega))) | apply ef_nil | apply seqQ.normal | apply blockQ.normal)
            refine loopQ.normal _ _ ⟨(1 + 1, (L ++ [(y + 1, x)])), ⟨by simp only; omega, by rw [HN]; simp [nbA, *], by (try simp only [List.length_append, List.length_cons, List.length_nil] at hLl ⊢); omega⟩, by simp only; omega, ⟨by ((repeat (refine Hold.cons (by exact rfl) ?_)); exact Hold.nil), by ((repeat (refine Hold.cons (by exact rfl) ?_)); exact Hold.nil)⟩, HeadIs.tkE [⟨0, false, 2, [posM (y + 1, x)]⟩] (by first | exact rfl | simp) rfl (nbHp_cl t _ _) fun u hu => ?_⟩
            exact nbK hu (by exact rfl) (by exact rfl) (by exact rfl) (by exact rfl) (by exact rfl)
          · have g2 : inB ((y : Int) + (2 * ((1 : Nat) : Int) - 1)) 0 ((t.ter.length : Int) - 1) = false := inB_not.2 (by omega)
            repeat (first | apply ef_seq | (apply ef_mv; exact rfl; exact rfl) | (apply ef_bin; exact rfl; exact rfl; exact rfl; (first | exact cmp_t rfl (by first | exact rfl | (simp only [cmpP]; omega)) | ((with_reducible refine bin_add (wrap_of ?_ ?_)) <;> omega) | ((with_reducible refine bin_sub (wrap_of ?_ ?_)) <;> omega))) | (apply ef_gy; exact rfl; (exact (rfl : true = true))) | (apply ef_pick; exact rfl; exact rfl; exact rfl) | (apply ef_len; exact rfl; exact rfl; (assumption)) | (apply ef_ldr; exact rfl; exact rfl; (exact rfl)) | (apply ef_ldp; exact rfl; exact rfl; (exact rfl); exact rfl; (exact rfl); (exact rfl)) | (apply ef_ias; exact rfl; exact rfl; exact rfl; (omega); assumption; exact rfl) | (apply ef_fap; exact rfl; exact rfl) | apply ef_nil | apply seqQ.normal | apply blockQ.normal | apply ef_block | apply ef_skip | (apply ef_condt; exact rfl; (exact (rfl : true = true))) | (apply ef_condf; exact rfl; (exact (rfl : false = false))) | (apply ef_call; exact rfl; ((repeat (apply XVs.cons; exact rfl)); exact XVs.nil); (with_reducible first | exact Within_c _ _ _ _ _ (by assumption) | exact hH1 _ | exact hH2 _)))
            refine loopQ.normal _ _ ⟨(1 + 1, L), ⟨by simp only; omega, by rw [HN]; simp [nbA, *], by (try simp only [List.length_append, List.length_cons, List.length_nil] at hLl ⊢); omega⟩, by simp only; omega, ⟨by ((repeat (refine Hold.cons (by exact rfl) ?_)); exact Hold.nil), by ((repeat (refine Hold.cons (by exact rfl) ?_)); exact Hold.nil)⟩, HeadIs.tkE [] (by first | exact rfl | simp) rfl (nbHp_cl t _ _) fun u hu => ?_⟩
            exact nbK hu (by exact rfl) (by exact rfl) (by exact rfl) (by exact rfl) (by exact rfl)
  | 2, hi, hL, hLl =>
    have hR : L = nbR t y x := hL
    repeat (first | apply ef_seq | (apply ef_mv; exact rfl; exact rfl) | (apply ef_bin; exact rfl; exact rfl; exact rfl; (exact cmp_f rfl (by simp only [cmpP]; omega))) | apply ef_nil | apply seqQ.normal | apply loopQ.exit | apply ef_ret | apply ef_exit | apply seqQ.exit | apply blockQ.here | (apply ef_condf; exact rfl; (exact (rfl : false = false))))
    rw [← hR]
    (apply fin_arr; (· exact rfl); (· exact rfl); (· exact rfl); (· exact rfl); (· simp); (· (exact ltL_P 0 L)); (· (rw [List.drop_zero, List.take_of_length_le (by simp)])); (· exact rfl); (· exact rfl); (· (exact rfl)))
  | i + 3, hi, hL, hLl => omega
theorem rNeighbours_c (k : Nat) (t : Tk) (ok : OkT t) (hb : Bd t) {y x : Nat} (hy : y < t.ter.length) (hx : x < t.W) (h : MHeap) : orA (k + 2) 119 [encT t, I64 (x : Int), I64 (y : Int)] h = some (.arr h.length 0 (nbR t y x).length 0, h ++ [⟨0, nlN (nbR t y x).length, 2, (nbR t y x).map posM⟩]) := by
  have := callA (k := k + 1) (h := h) (frzL_lt (ms := [encT t, I64 (x : Int), I64 (y : Int)]) (by simp [ltL, MV.lt, ltL_I, ltL_W])) rfl (rNeighbours_z k t ok hb hy hx) rfl (by simp [okH, ltL_P, ltL, MV.lt, ltL_I, ltL_W])
  simpa [shV, sh1] using this
end Go.Proofs.Ytgjpdjihjphbdaa

/- Contracts: lowest surfaces, their excess, crossings. -/
namespace Go.Proofs.Ytgjpdjihjphbdaa
open Go.RowKit
set_option linter.unusedVariables false

theorem open_ok (k : Nat) {t : Tk} (hb : Bd t) (h0 : (taskF id t).2 = 0) (h : MHeap) : orA (k + 7) 113 [encT t] h = some (.tup [encO t, I64 0], h) := by
  have := open_c k t hb h
  unfold openM at this
  rwa [if_pos h0, h0] at this
theorem open_bad (k : Nat) {t : Tk} (hb : Bd t) (h0 : (taskF id t).2 ≠ 0) (h : MHeap) : orA (k + 7) 113 [encT t] h = some (.tup [zeroO, I64 (taskF id t).2], h) := by
  have := open_c k t hb h
  unfold openM at this
  rwa [if_neg h0] at this
theorem mf_Lowest : MT.mf 37 = some ⟨16, [(.tmp 2), (.tmp 3)], (.seq (.reg [⟨none, (some 1), (.box 5 (.s 0))⟩, ⟨none, (some 2), (.nil0 1)⟩, ⟨none, (some 3), (.mv (.c (.lit (.int .i64 0))))⟩]) (.seq (.reg [⟨none, (some 7), (.ld (some 5) (.s 1))⟩, ⟨none, (some 8), (.call 113 [(.s 7)])⟩, ⟨none, (some 6), (.mv (.s 8))⟩, ⟨none, (some 9), (.ext (.s 6) 0)⟩, ⟨none, (some 10), (.ext (.s 6) 1)⟩, ⟨none, (some 4), (.new (.agg [(.lit (.slice none 0 0)), (.lit (.slice none 0 0)), (.lit (.slice none 0 0)), (.lit (.int .i64 0)), (.lit (.int .i64 0)), (.lit (.int .i64 0)), (.lit (.int .i64 0)), (.lit (.slice none 0 0)), (.lit (.slice none 0 0))]))⟩, ⟨none, none, (.st 9 (.s 4) (.s 9))⟩, ⟨none, (some 5), (.mv (.s 10))⟩]) (.seq (.seq (.reg [⟨none, (some 11), (.mv (.s 5))⟩, ⟨none, (some 12), (.bin .neq (.s 11) (.c (.lit (.int .i64 0))))⟩]) (.cond (.s 12) (.seq (.reg [⟨none, (some 13), (.mv (.s 5))⟩, ⟨none, (some 2), (.nil0 1)⟩, ⟨none, (some 3), (.mv (.s 13))⟩]) .ret) .skip)) (.seq (.reg [⟨none, (some 14), (.ld (some 9) (.s 4))⟩, ⟨none, (some 15), (.call 115 [(.s 14)])⟩, ⟨none, (some 2), (.mv (.s 15))⟩, ⟨none, (some 3), (.mv (.c (.lit (.int .i64 0))))⟩]) .ret))))⟩ := by kernel_rfl
theorem Lowest_ok (k : Nat) {t : Tk} (hb : Bd t) (h0 : (taskF id t).2 = 0) {g : List (List Int)} (hg : Lea t g) (h : MHeap) : orA (k + 8) 37 [encT t] h = some (.tup [.arr h.length 0 t.ter.length 0, I64 0], h ++ [⟨0, false, 1, g.map encW⟩]) := by
  have ok := (task_ok h0).1
  have hz : runZ MT (orA (k + 7)) (itA (k + 7)) 4000000 37 [encT t] [] = some (.tup [.arr 0 0 t.ter.length 0, I64 0], [⟨0, false, 1, g.map encW⟩]) := by
    have ho := fun h => open_ok k hb h0 h
    have hl := fun h => lowest_c (k + 2) t ok hg h
    refine runZ_of mf_Lowest (by simp) ?_
    simp only [argsL]
    repeat (first | apply ef_seq | (apply ef_mv; exact rfl; exact rfl) | (apply ef_bin; exact rfl; exact rfl; exact rfl; (exact cmp_f rfl (by simp only [cmpP]; omega))) | (apply ef_ldp; exact rfl; exact rfl; (exact rfl); exact rfl; (exact rfl); (first | exact rd_5 rfl rfl rfl rfl rfl | exact rd_whole rfl)) | (apply ef_ext; exact rfl; exact rfl; exact rfl) | (apply ef_box; exact rfl; exact rfl; exact rfl; exact rfl) | (apply ef_newst; exact rfl; exact rfl; exact rfl; exact rfl; exact rfl) | (apply ef_nil0; exact rfl) | apply ef_nil | apply seqQ.normal | apply ef_ret | apply ef_skip | (apply ef_condf; exact rfl; (exact (rfl : false = false))) | (apply ef_call; exact rfl; ((repeat (apply XVs.cons; exact rfl)); exact XVs.nil); (with_reducible first | exact ho _ | exact hl _)))
    (apply fin_al; (· exact rfl); (· exact rfl); (· exact rfl); (· exact rfl); (· exact rfl); (· rw [List.length_map]; exact hg.1.sh.hl.symm); (· exact ltL_W 0 g); (· exact rfl); (· exact rfl); (· exact rfl))
  have := callA (k := k + 7) (h := h) (frzL_lt (ms := [encT t]) (by simp [ltL, encT_lt])) rfl hz (by simp [okV, ok1, MV.lt, MV.pure]) (by simp [okH, ltL_W, ltL, MV.lt, ltL_I])
  simpa [shV, sh1] using this
theorem Lea.pre {t : Tk} {s : List (List Int)} (h : Lea t s) : Pre t s := ⟨h.1.sh, h.1.ze, h.1.ab, h.2⟩
end Go.Proofs.Ytgjpdjihjphbdaa

/- Contracts: crossings; lists of nodes in a cell. -/
namespace Go.Proofs.Ytgjpdjihjphbdaa
open Go.RowKit
set_option linter.unusedVariables false

/-- A list of nodes of the call's own, or nil. -/
inductive LiM (m0 : Nat) (h : MHeap) : MV → List (Nat × Nat) → Prop
  | nil : LiM m0 h (.lit (.slice none 0 0)) []
  | arr (id gen : Nat) (Q : List (Nat × Nat)) : h[id]? = some ⟨gen, false, 2, Q.map posM⟩ → m0 ≤ id → LiM m0 h (.arr id 0 Q.length gen) Q
theorem LiM.app {m0 : Nat} {h : MHeap} {v : MV} {Q : List (Nat × Nat)} (q : LiM m0 h v Q) (X : MHeap) : LiM m0 (h ++ X) v Q := by
  cases q with
  | nil => exact .nil
  | arr id gen Q h1 h2 => exact .arr id gen Q (at_app h1 X) h2
theorem LiM.cell {m0 : Nat} {h : MHeap} {v : MV} {Q : List (Nat × Nat)} (q : LiM m0 h v Q) : rdCells v.cells 0 none = some v := by
  cases q <;> rfl
section
variable {O : Oracle} {I : Iter} {M n : Nat} {lk : Nat → Bool} {A : Sl} {h : MHeap} {Qc : MX2 → Sl → MHeap → Prop}
end
end Go.Proofs.Ytgjpdjihjphbdaa

/- Crossings in both orders (no program). -/
namespace Go.Proofs.Ytgjpdjihjphbdaa
open Go.RowKit
set_option linter.unusedVariables false

/-- Whether a row and a tie go through a node. -/
def Tk.cr (t : Tk) (p : Nat × Nat) : Bool := t.rows.contains (p.1 : Int) && t.ties.contains (p.2 : Int)
end Go.Proofs.Ytgjpdjihjphbdaa

/- Contracts: crossings, comparisons, limits. -/
namespace Go.Proofs.Ytgjpdjihjphbdaa
open Go.RowKit
set_option linter.unusedVariables false

/-- The memory of CrossingsOf. -/
structure CrM (t : Tk) (qv : MV) (Q : List (Nat × Nat)) (h : MHeap) : Prop where
  b0 : h[0]? = some ⟨0, false, 5, [encT t]⟩
  b1 : h[1]? = some ⟨0, true, 2, []⟩
  b2 : h[2]? = some ⟨0, false, 9, [encO t]⟩
  b3 : h[3]? = some ⟨0, false, 1, [qv]⟩
  li : LiM 4 h qv Q
  e0 : Q = [] → qv = .lit (.slice none 0 0)
  e1 : Q ≠ [] → qv.lt 4 = false
theorem LiM.take {m0 : Nat} {h : MHeap} {v : MV} (q : LiM m0 h v []) (e : v = .lit (.slice none 0 0)) (n : Nat) : LiM m0 (h.take n) v [] := by
  subst e; exact .nil
theorem CrM.len {t : Tk} {qv : MV} {Q : List (Nat × Nat)} {h : MHeap} (m : CrM t qv Q h) : 4 ≤ h.length := by
  have := (List.getElem?_eq_some_iff.1 m.b3).1; omega
theorem CrM.cl {t : Tk} {qv : MV} {h : MHeap} (m : CrM t qv [] h) : Cl 4 h := by
  refine ⟨m.len, fun j o hj ho => ?_⟩
  have hq := m.e0 rfl
  match j, hj with
  | 0, _ => rw [m.b0] at ho; cases ho; simp [ltL, MV.lt, ltL_I, ltL_W]
  | 1, _ => rw [m.b1] at ho; cases ho; rfl
  | 2, _ => rw [m.b2] at ho; cases ho; simp [ltL, MV.lt, ltL_I, ltL_W, ltL_B]
  | 3, _ => rw [m.b3] at ho; cases ho; subst hq; rfl
theorem CrM.head {t : Tk} {qv : MV} {Q : List (Nat × Nat)} {h : MHeap} (m : CrM t qv Q h) : CrM t qv Q (if Q = [] then h.take 4 else h) := by
  split
  · rename_i e
    subst e
    have ht : ∀ {j : Nat} {o : MObj}, j < 4 → h[j]? = some o → (h.take 4)[j]? = some o := fun hj ho => by rw [List.getElem?_take, if_pos hj]; exact ho
    exact ⟨ht (by decide) m.b0, ht (by decide) m.b1, ht (by decide) m.b2, ht (by decide) m.b3, m.li.take (m.e0 rfl) 4, m.e0, m.e1⟩
  · exact m
def fewT (t : Tk) : Bool := decide (t.ter.length ≤ 14) && decide (t.rows.length ≤ 14) && decide (t.ties.length ≤ 14) && t.ter.all fun r => decide (r.length ≤ 14)
theorem fewT_bd {t : Tk} (h : fewT t = true) : Bd t ∧ t.ter.length ≤ 14 ∧ t.rows.length ≤ 14 ∧ t.ties.length ≤ 14 := by
  simp only [fewT, Bool.and_eq_true, decide_eq_true_eq, List.all_eq_true] at h
  obtain ⟨⟨⟨h1, h2⟩, h3⟩, h4⟩ := h
  exact ⟨⟨by omega, by omega, by omega, fun r hr => by have := h4 r hr; omega⟩, h1, h2, h3⟩
theorem mf_Few : MT.mf 33 = some ⟨34, [(.tmp 2)], (.seq (.reg [⟨none, (some 1), (.box 5 (.s 0))⟩, ⟨none, (some 2), (.mv (.c (.lit (.bool false))))⟩]) (.seq (.seq (.reg [⟨none, (some 4), (.fa 0 (.s 1))⟩, ⟨none, (some 5), (.ld none (.s 4))⟩, ⟨none, (some 6), (.len (.s 5))⟩, ⟨none, (some 7), (.bin .gtr (.s 6) (.c (.lit (.int .i64 14))))⟩, ⟨none, (some 8), (.mv (.s 7))⟩, ⟨(some (8, false)), (some 9), (.fa 1 (.s 1))⟩, ⟨(some (8, false)), (some 10), (.ld none (.s 9))⟩, ⟨(some (8, false)), (some 11), (.len (.s 10))⟩, ⟨(some (8, false)), (some 12), (.bin .gtr (.s 11) (.c (.lit (.int .i64 14))))⟩, ⟨none, (some 13), (.pick (.s 8) (.c (.lit (.bool true))) (.s 12))⟩, ⟨none, (some 14), (.mv (.s 13))⟩, ⟨(some (14, false)), (some 15), (.fa 2 (.s 1))⟩, ⟨(some (14, false)), (some 16), (.ld none (.s 15))⟩, ⟨(some (14, false)), (some 17), (.len (.s 16))⟩, ⟨(some (14, false)), (some 18), (.bin .gtr (.s 17) (.c (.lit (.int .i64 14))))⟩, ⟨none, (some 19), (.pick (.s 14) (.c (.lit (.bool true))) (.s 18))⟩]) (.cond (.s 19) (.seq (.reg [⟨none, (some 2), (.mv (.c (.lit (.bool false))))⟩]) .ret) .skip)) (.seq (.seq (.reg [⟨none, (some 3), (.mv (.c (.lit (.int .i64 0))))⟩]) (.block 0 (.loop [3, 1] (.seq (.seq (.reg [⟨none, (some 20), (.mv (.s 3))⟩, ⟨none, (some 21), (.fa 0 (.s 1))⟩, ⟨none, (some 22), (.ld none (.s 21))⟩, ⟨none, (some 23), (.len (.s 22))⟩, ⟨none, (some 24), (.bin .lss (.s 20) (.s 23))⟩]) (.cond (.s 24) .skip (.exit 0))) (.seq (.block 1 (.seq (.reg [⟨none, (some 27), (.fa 0 (.s 1))⟩, ⟨none, (some 28), (.ld none (.s 27))⟩, ⟨none, (some 29), (.mv (.s 3))⟩, ⟨none, (some 30), (.ia 1 (.s 28) (.s 29))⟩, ⟨none, (some 31), (.ld none (.s 30))⟩, ⟨none, (some 32), (.len (.s 31))⟩, ⟨none, (some 33), (.bin .gtr (.s 32) (.c (.lit (.int .i64 14))))⟩]) (.cond (.s 33) (.seq (.reg [⟨none, (some 2), (.mv (.c (.lit (.bool false))))⟩]) .ret) .skip))) (.reg [⟨none, (some 25), (.mv (.s 3))⟩, ⟨none, (some 26), (.bin .add (.s 25) (.c (.lit (.int .i64 1))))⟩, ⟨none, (some 3), (.mv (.s 26))⟩])))))) (.seq (.reg [⟨none, (some 2), (.mv (.c (.lit (.bool true))))⟩]) .ret))))⟩ := by kernel_rfl
theorem Few_c (k : Nat) (t : Tk) (m1 : t.ter.length ≤ 9223372036854775807) (m2 : t.rows.length ≤ 9223372036854775807) (m3 : t.ties.length ≤ 9223372036854775807) (m4 : ∀ r ∈ t.ter, r.length ≤ 9223372036854775807) (h : MHeap) {b : Bool} (hf : fewT t = b) : orA (k + 1) 33 [encT t] h = some (Bo b, h) := by
  refine callL (args' := [encT t]) (frzL_lt (by simp [ltL, MV.lt, ltL_I, ltL_W])) rfl (runZ_of mf_Few (by simp) ?_)
  simp only [argsL]
  have hs1 : (MV.sl (t.ter.map encW)).slen = some t.ter.length := by simp [MV.slen]
  have hs2 : (MV.sl (t.rows.map I64)).slen = some t.rows.length := by simp [MV.slen]
  have hs3 : (MV.sl (t.ties.map I64)).slen = some t.ties.length := by simp [MV.slen]
  unfold fewT at hf
  by_cases q1 : t.ter.length ≤ 14
  · by_cases q2 : t.rows.length ≤ 14
    · by_cases q3 : t.ties.length ≤ 14
      · simp only [q1, q2, q3, decide_true, Bool.true_and] at hf
        repeat (first | apply ef_seq | (apply ef_mv; exact rfl; exact rfl) | (apply ef_bin; exact rfl; exact rfl; exact rfl; (exact cmp_f rfl (by simp only [cmpP]; omega))) | (apply ef_gy; exact rfl; (exact (rfl : false = false))) | (apply ef_pick; exact rfl; exact rfl; exact rfl) | (apply ef_len; exact rfl; exact rfl; (assumption)) | (apply ef_ldp; exact rfl; exact rfl; (exact rfl); exact rfl; (exact rfl); (exact rfl)) | (apply ef_fap; exact rfl; exact rfl) | (apply ef_box; exact rfl; exact rfl; exact rfl; exact rfl) | apply ef_nil | apply seqQ.normal | apply ef_block | apply ef_skip | (apply ef_condf; exact rfl; (exact (rfl : false = false))))
        refine ef_loopf (α := Nat) (fun i => i ≤ t.ter.length ∧ (t.ter.all fun r => decide (r.length ≤ 14)) = ((t.ter.drop i).all fun r => decide (r.length ≤ 14))) (fun i => [(3, I64 (i : Int))]) [(1, _)] (fun _ => _) (fun i => t.ter.length - i) 0 [3] (fun _ => rfl) (by ((repeat (refine Hold.cons (by exact rfl) ?_)); exact Hold.nil)) (by ((repeat (refine Hold.cons (by exact rfl) ?_)); exact Hold.nil)) rfl rfl ⟨by simp, rfl⟩ (by simp; omega) ?_
        rintro i ⟨hi, hz⟩
        try simp only at hi hz ⊢
        by_cases hlt : i < t.ter.length
        · have e1 := at_map encW t.ter i hlt
          have HD := Lib.hid (drop_at t.ter i hlt)
          have HZ := Lib.hid hz
          have hrl := m4 _ (List.getElem_mem hlt)
          clear hz
          generalize t.ter[i] = r at e1 HD hrl
          have hsr : (encW r).slen = some r.length := by simp [MV.slen]
          by_cases q4 : r.length ≤ 14
          · repeat (first | apply ef_seq | (apply ef_mv; exact rfl; exact rfl) | (apply ef_bin; exact rfl; exact rfl; exact rfl; (first | exact cmp_t rfl (by first | exact rfl | (simp only [cmpP]; omega)) | exact cmp_f rfl (by simp only [cmpP]; omega) | ((with_reducible refine bin_add (wrap_of ?_ ?_)) <;> omega))) | (apply ef_len; exact rfl; exact rfl; (assumption)) | (apply ef_ldr; exact rfl; exact rfl; (exact rfl)) | (apply ef_ldp; exact rfl; exact rfl; (exact rfl); exact rfl; (exact rfl); (exact rfl)) | (apply ef_ias; exact rfl; exact rfl; exact rfl; (omega); assumption; exact rfl) | (apply ef_fap; exact rfl; exact rfl) | apply ef_nil | apply seqQ.normal | apply blockQ.normal | apply ef_block | apply ef_skip | (apply ef_condt; exact rfl; (exact (rfl : true = true))) | (apply ef_condf; exact rfl; (exact (rfl : false = false))))
            (refine loopQ.normal _ _ ⟨i + 1, ⟨hlt, by rw [HZ.out, HD.out]; simp [q4]⟩, (by first | (simp only; omega) | omega), ⟨by ((repeat (refine Hold.cons (by exact rfl) ?_)); exact Hold.nil), by ((repeat (refine Hold.cons (by exact rfl) ?_)); exact Hold.nil)⟩, .inl (Nat.le_refl _), (by first | exact List.take_length | exact rfl | exact takeF rfl rfl)⟩)
          · repeat (first | apply ef_seq | (apply ef_mv; exact rfl; exact rfl) | (apply ef_bin; exact rfl; exact rfl; exact rfl; (exact cmp_t rfl (by first | exact rfl | (simp only [cmpP]; omega)))) | (apply ef_len; exact rfl; exact rfl; (assumption)) | (apply ef_ldr; exact rfl; exact rfl; (exact rfl)) | (apply ef_ldp; exact rfl; exact rfl; (exact rfl); exact rfl; (exact rfl); (exact rfl)) | (apply ef_ias; exact rfl; exact rfl; exact rfl; (omega); assumption; exact rfl) | (apply ef_fap; exact rfl; exact rfl) | apply ef_nil | apply seqQ.normal | apply loopQ.ret | apply ef_ret | apply seqQ.ret | apply blockQ.ret | apply ef_block | apply ef_skip | (apply ef_condt; exact rfl; (exact (rfl : true = true))))
            (refine fin1 rfl (by exact rfl) rfl ?_)
            rw [← hf, HZ.out, HD.out]; simp [q4]
        · repeat (first | apply ef_seq | (apply ef_mv; exact rfl; exact rfl) | (apply ef_bin; exact rfl; exact rfl; exact rfl; (exact cmp_f rfl (by simp only [cmpP]; omega))) | (apply ef_len; exact rfl; exact rfl; (assumption)) | (apply ef_ldp; exact rfl; exact rfl; (exact rfl); exact rfl; (exact rfl); (exact rfl)) | (apply ef_fap; exact rfl; exact rfl) | apply ef_nil | apply seqQ.normal | apply loopQ.exit | apply ef_ret | apply ef_exit | apply seqQ.exit | apply blockQ.here | (apply ef_condf; exact rfl; (exact (rfl : false = false))))
          (refine fin1 rfl (by exact rfl) rfl ?_)
          rw [← hf, hz, List.drop_eq_nil_of_le (by omega)]; rfl
      · simp only [q1, q2, q3, decide_true, decide_false, Bool.true_and, Bool.false_and] at hf
        repeat (first | apply ef_seq | (apply ef_mv; exact rfl; exact rfl) | (apply ef_bin; exact rfl; exact rfl; exact rfl; (first | exact cmp_t rfl (by first | exact rfl | (simp only [cmpP]; omega)) | exact cmp_f rfl (by simp only [cmpP]; omega))) | (apply ef_gy; exact rfl; (exact (rfl : false = false))) | (apply ef_pick; exact rfl; exact rfl; exact rfl) | (apply ef_len; exact rfl; exact rfl; (assumption)) | (apply ef_ldp; exact rfl; exact rfl; (exact rfl); exact rfl; (exact rfl); (exact rfl)) | (apply ef_fap; exact rfl; exact rfl) | (apply ef_box; exact rfl; exact rfl; exact rfl; exact rfl) | apply ef_nil | apply seqQ.normal | apply ef_ret | apply seqQ.ret | (apply ef_condt; exact rfl; (exact (rfl : true = true))))
        (refine fin1 rfl (by exact rfl) rfl ?_)
        rw [← hf]
    · simp only [q1, q2, decide_true, decide_false, Bool.true_and, Bool.false_and] at hf
      repeat (first | apply ef_seq | (apply ef_mv; exact rfl; exact rfl) | (apply ef_bin; exact rfl; exact rfl; exact rfl; (first | exact cmp_t rfl (by first | exact rfl | (simp only [cmpP]; omega)) | exact cmp_f rfl (by simp only [cmpP]; omega))) | (apply ef_gy; exact rfl; (exact (rfl : false = false))) | (apply ef_gn; exact rfl; (exact (rfl : true = true)); exact rfl) | (apply ef_pick; exact rfl; exact rfl; exact rfl) | (apply ef_len; exact rfl; exact rfl; (assumption)) | (apply ef_ldp; exact rfl; exact rfl; (exact rfl); exact rfl; (exact rfl); (exact rfl)) | (apply ef_fap; exact rfl; exact rfl) | (apply ef_box; exact rfl; exact rfl; exact rfl; exact rfl) | apply ef_nil | apply seqQ.normal | apply ef_ret | apply seqQ.ret | (apply ef_condt; exact rfl; (exact (rfl : true = true))))
      (refine fin1 rfl (by exact rfl) rfl ?_)
      rw [← hf]
  · simp only [q1, decide_false, Bool.false_and] at hf
    repeat (first | apply ef_seq | (apply ef_mv; exact rfl; exact rfl) | (apply ef_bin; exact rfl; exact rfl; exact rfl; (exact cmp_t rfl (by first | exact rfl | (simp only [cmpP]; omega)))) | (apply ef_gn; exact rfl; (exact (rfl : true = true)); exact rfl) | (apply ef_pick; exact rfl; exact rfl; exact rfl) | (apply ef_len; exact rfl; exact rfl; (assumption)) | (apply ef_ldp; exact rfl; exact rfl; (exact rfl); exact rfl; (exact rfl); (exact rfl)) | (apply ef_fap; exact rfl; exact rfl) | (apply ef_box; exact rfl; exact rfl; exact rfl; exact rfl) | apply ef_nil | apply seqQ.normal | apply ef_ret | apply seqQ.ret | (apply ef_condt; exact rfl; (exact (rfl : true = true))))
    (refine fin1 rfl (by exact rfl) rfl ?_)
    rw [← hf]
theorem mf_TaskErr : MT.mf 46 = some ⟨11, [(.tmp 2)], (.seq (.reg [⟨none, (some 1), (.box 5 (.s 0))⟩, ⟨none, (some 2), (.mv (.c (.lit (.int .i64 0))))⟩]) (.seq (.reg [⟨none, (some 6), (.ld (some 5) (.s 1))⟩, ⟨none, (some 7), (.call 39 [(.s 6)])⟩, ⟨none, (some 5), (.mv (.s 7))⟩, ⟨none, (some 8), (.ext (.s 5) 0)⟩, ⟨none, (some 9), (.ext (.s 5) 1)⟩, ⟨none, (some 3), (.mv (.s 8))⟩, ⟨none, (some 4), (.mv (.s 9))⟩]) (.seq (.reg [⟨none, (some 10), (.mv (.s 4))⟩, ⟨none, (some 2), (.mv (.s 10))⟩]) .ret)))⟩ := by kernel_rfl
theorem TaskErr_c (k : Nat) (t : Tk) (hb : Bd t) (h : MHeap) : orA (k + 4) 46 [encT t] h = some (I64 (taskF (fun _ => 0) t).2, h) := by
  refine callL (args' := [encT t]) (frzL_lt (by simp [ltL, MV.lt, ltL_I, ltL_W])) rfl (runZ_of mf_TaskErr (by simp) ?_)
  simp only [argsL]
  have hc := fun h => rCheckTask_c k t hb h
  generalize taskF (fun _ => 0) t = p at hc
  obtain ⟨a, b⟩ := p
  repeat (first | apply ef_seq | (apply ef_mv; exact rfl; exact rfl) | (apply ef_ldp; exact rfl; exact rfl; (exact rfl); exact rfl; (exact rfl); (exact rd_5 rfl rfl rfl rfl rfl)) | (apply ef_ext; exact rfl; exact rfl; exact rfl) | (apply ef_box; exact rfl; exact rfl; exact rfl; exact rfl) | apply ef_nil | apply seqQ.normal | apply ef_ret | (apply ef_call; exact rfl; ((repeat (apply XVs.cons; exact rfl)); exact XVs.nil); (with_reducible exact hc _)))
  (refine fin1 rfl (by exact rfl) rfl ?_)
  rfl
end Go.Proofs.Ytgjpdjihjphbdaa

/- The contract of the reference's lowest surface. -/
namespace Go.Proofs.Ytgjpdjihjphbdaa
open Go.RowKit
set_option linter.unusedVariables false

def rlRow (t : Tk) (y : Nat) : List Int := (List.range t.W).map fun x => t.base y x
def rlF (t : Tk) (j : Nat) : MHeap := [⟨0, false, 1, (rlRow t j).map I64⟩, ⟨0, false, 1, [.arr (3 + 2 * j) 0 t.W 0]⟩]
def rlG (t : Tk) (y : Nat) : MHeap := (List.range y).flatMap (rlF t)
def rlRefs (W y : Nat) : List MV := (List.range y).map fun j => .arr (3 + 2 * j) 0 W 0
def rlH (t : Tk) (y : Nat) : MHeap := [⟨0, false, 5, [encT t]⟩, ⟨0, true, 1, []⟩, ⟨y, nlN y, 1, rlRefs t.W y⟩] ++ rlG t y
theorem rlG_succ (t : Tk) (y : Nat) : rlG t (y + 1) = rlG t y ++ rlF t y := by
  unfold rlG; rw [List.range_succ, List.flatMap_append]; simp
theorem rlG_len (t : Tk) : ∀ y, (rlG t y).length = 2 * y
  | 0 => rfl
  | y + 1 => by rw [rlG_succ, List.length_append, rlG_len t y]; simp [rlF]; omega
theorem rlH_len (t : Tk) (y : Nat) : (rlH t y).length = 3 + 2 * y := by unfold rlH; rw [List.length_append, rlG_len]; rfl
theorem rlG_at (t : Tk) {j : Nat} : ∀ {y : Nat}, j < y → (rlG t y)[2 * j]? = some ⟨0, false, 1, (rlRow t j).map I64⟩ ∧ (rlG t y)[2 * j + 1]? = some ⟨0, false, 1, [.arr (3 + 2 * j) 0 t.W 0]⟩
  | y + 1, h => by
    rw [rlG_succ]
    by_cases e : j = y
    · subst e
      have := rlG_len t j
      rw [List.getElem?_append_right (by omega), List.getElem?_append_right (by omega), this]
      rw [show 2 * j - 2 * j = 0 by omega, show 2 * j + 1 - 2 * j = 1 by omega]
      exact ⟨rfl, rfl⟩
    · have := rlG_len t y
      rw [List.getElem?_append_left (by omega), List.getElem?_append_left (by omega)]
      exact rlG_at t (by omega)
theorem rlH_row (t : Tk) {j y : Nat} (h : j < y) : (rlH t y)[3 + 2 * j]? = some ⟨0, false, 1, (rlRow t j).map I64⟩ := by
  unfold rlH
  rw [List.getElem?_append_right (by simp; try omega)]
  rw [show 3 + 2 * j - [(⟨0, false, 5, [encT t]⟩ : MObj), ⟨0, true, 1, []⟩, ⟨y, nlN y, 1, rlRefs t.W y⟩].length = 2 * j by simp]
  exact (rlG_at t h).1
theorem rlH_tmp (t : Tk) {j y : Nat} (h : j < y) : (rlH t y)[4 + 2 * j]? = some ⟨0, false, 1, [.arr (3 + 2 * j) 0 t.W 0]⟩ := by
  unfold rlH
  rw [List.getElem?_append_right (by simp; try omega)]
  rw [show 4 + 2 * j - [(⟨0, false, 5, [encT t]⟩ : MObj), ⟨0, true, 1, []⟩, ⟨y, nlN y, 1, rlRefs t.W y⟩].length = 2 * j + 1 by simp; omega]
  exact (rlG_at t h).2
theorem rlH_succ (t : Tk) (y : Nat) : List.set ((rlH t y ++ [(⟨0, false, 1, (rlRow t y).map I64⟩ : MObj)]) ++ [(⟨0, false, 1, [.arr (3 + 2 * y) 0 t.W 0]⟩ : MObj)]) 2 (⟨y + 1, false, 1, (rlRefs t.W y).drop 0 ++ [.arr (3 + 2 * y) 0 t.W 0]⟩ : MObj) = rlH t (y + 1) := by
  unfold rlH
  rw [rlG_succ]
  simp [rlRefs, List.range_succ, nlN, rlF]
def rowP (t : Tk) (y x : Nat) : List MV := (List.range t.W).map fun j => if j < x then I64 (t.base y j) else I64 0
theorem rowP_zero (t : Tk) (y : Nat) : rowP t y 0 = List.replicate t.W (I64 0) := by
  apply List.ext_getElem?
  intro j
  by_cases hj : j < t.W
  · rw [rowP, rng_get _ hj, List.getElem?_replicate, if_pos hj]; rfl
  · rw [List.getElem?_eq_none (by simp [rowP]; omega), List.getElem?_replicate, if_neg hj]
theorem rowP_full (t : Tk) (y : Nat) : rowP t y t.W = (rlRow t y).map I64 := by
  unfold rowP rlRow
  rw [List.map_map]
  refine List.map_congr_left fun j hj => ?_
  rw [if_pos (List.mem_range.1 hj)]; rfl
theorem rowP_at {t : Tk} {y x j : Nat} (h : j < t.W) : (rowP t y x)[j]? = some (if j < x then I64 (t.base y j) else I64 0) := rng_get _ h
theorem rowP_set {t : Tk} {y x : Nat} : (rowP t y x).set x (I64 (t.base y x)) = rowP t y (x + 1) := by
  unfold rowP
  rw [rng_set]
  refine rng_congr fun j hj => ?_
  by_cases h : j = x
  · subst h; rw [if_pos rfl, if_pos (by omega)]
  · rw [if_neg h]
    by_cases h2 : j < x
    · rw [if_pos h2, if_pos (by omega)]
    · rw [if_neg h2, if_neg (by omega)]
theorem rowP_skip {t : Tk} {y x : Nat} (hx : x < t.W) (h : t.base y x = 0) : rowP t y x = rowP t y (x + 1) := by
  rw [← rowP_set, h]
  refine (List.ext_getElem? fun j => ?_).symm
  rw [List.getElem?_set]
  split
  · rename_i e
    subst e
    rw [if_pos (by simp [rowP]; exact hx), rowP_at hx, if_neg (by omega)]
  · rfl
theorem rlRefs_lt {W y : Nat} : ltL 3 (rlRefs W (y + 1)) = false := by
  rw [Bool.eq_false_iff]
  intro hc
  have h1 : (rlRefs W (y + 1))[0]? = some (.arr (3 + 2 * 0) 0 W 0) := rng_get _ (by omega)
  have := ltL_iff'.1 hc _ (List.mem_of_getElem? h1)
  simp [MV.lt] at this
/-- The memory of the reference's sweeps. -/
structure RlM (t : Tk) (g : List (List Int)) (h : MHeap) : Prop where
  b0 : h[0]? = some ⟨0, false, 5, [encT t]⟩
  sf : Srf 2 t.ter.length t.W t.ter.length (fun y => 3 + 2 * y) g h
  len : h.length = 3 + 2 * t.ter.length
  fu : Full h
theorem RlM.cl {t : Tk} {g : List (List Int)} {h : MHeap} (m : RlM t g h) : Cl (3 + 2 * t.ter.length) h := by
  have := m.fu
  unfold Full at this
  rwa [m.len] at this
theorem rlM0 {t : Tk} (ok : OkT t) : RlM t t.s0 (rlH t t.ter.length) := by
  have h1 := ok.h1
  have hn : nlN t.ter.length = false := by
    obtain ⟨m, hm⟩ : ∃ m, t.ter.length = m + 1 := ⟨t.ter.length - 1, by omega⟩
    rw [hm]; rfl
  have hrow : ∀ y, y < t.ter.length → t.s0.getD y [] = rlRow t y := fun y hy => by
    unfold Tk.s0
    rw [List.getD_eq_getElem?_getD, List.getElem?_map, List.getElem?_range (by exact hy)]; rfl
  refine ⟨rfl, ⟨⟨rlRefs t.W t.ter.length, ?_, by simp [rlRefs], fun y hy => rng_get _ hy⟩, fun y hy => ?_, by simp [Tk.s0, Tk.H], fun y hy => by rw [hrow y hy]; simp [rlRow], fun y y' _ _ e => ?_, fun y hy => by show 3 + 2 * y ≠ 2; omega⟩, rlH_len t _, Nat.le_refl _, fun j o hj ho => ?_⟩
  · have : (rlH t t.ter.length)[2]? = some ⟨t.ter.length, nlN t.ter.length, 1, rlRefs t.W t.ter.length⟩ := rfl
    rw [this, hn]
  · rw [hrow y hy]; exact rlH_row t hy
  · have e' : 3 + 2 * y = 3 + 2 * y' := e
    omega
  · have hL := rlH_len t t.ter.length
    rw [hL] at hj ⊢
    by_cases h3 : j < 3
    · match j, h3 with
      | 0, _ => cases ho; simp [ltL, MV.lt, ltL_I, ltL_W]
      | 1, _ => cases ho; rfl
      | 2, _ =>
        cases ho
        refine ltL_iff'.2 fun m hm => ?_
        obtain ⟨i, hi, rfl⟩ := List.mem_map.1 hm
        have := List.mem_range.1 hi
        simp [MV.lt]; omega
    · by_cases he : (j - 3) % 2 = 0
      · have h4 := rlH_row t (j := (j - 3) / 2) (y := t.ter.length) (by omega)
        rw [show 3 + 2 * ((j - 3) / 2) = j by omega, ho] at h4
        cases h4
        exact ltL_I _ _
      · have h4 := rlH_tmp t (j := (j - 3) / 2) (y := t.ter.length) (by omega)
        rw [show 4 + 2 * ((j - 3) / 2) = j by omega, ho] at h4
        cases h4
        simp [ltL, MV.lt]; omega
theorem RlM.put {t : Tk} {g : List (List Int)} {h : MHeap} (m : RlM t g h) {y x : Nat} {v : Int} (hy : y < t.ter.length) : RlM t (set2 g y x v) (h.set (3 + 2 * y) ⟨0, false, 1, ((g.getD y []).map I64).set x (I64 v)⟩) := by
  have hl : ∀ n, ltL n (((g.getD y []).map I64).set x (I64 v)) = true := fun n => by
    rw [show ((g.getD y []).map I64).set x (I64 v) = ((g.getD y []).set x v).map I64 by rw [List.map_set]]; exact ltL_I n _
  exact ⟨by rw [List.getElem?_set_ne (by omega)]; exact m.b0, m.sf.put hy, by rw [List.length_set]; exact m.len, m.fu.set (hl _)⟩
theorem RlM.cut {t : Tk} {g : List (List Int)} {h X : MHeap} (m : RlM t g h) : (h ++ X).take (3 + 2 * t.ter.length) = h := List.take_left' m.len
/-- A sweep up to a node. -/
def swD (y x a b : Nat) : Prop := a < y ∨ (a = y ∧ b < x)

theorem nbR_len (t : Tk) (y x : Nat) : (nbR t y x).length ≤ 4 := by
  unfold nbR nbA
  simp only [List.length_append]
  repeat' split
  all_goals simp
theorem mf_rLowest : MT.mf 43 = some ⟨113, [(.tmp 2)], (.seq (.reg [⟨none, (some 1), (.box 5 (.s 0))⟩, ⟨none, (some 2), (.nil0 1)⟩]) (.seq (.reg [⟨none, (some 3), (.nil0 1)⟩]) (.seq (.seq (.reg [⟨none, (some 4), (.mv (.c (.lit (.int .i64 0))))⟩]) (.block 0 (.loop [4, 1, 3] (.seq (.seq (.reg [⟨none, (some 13), (.mv (.s 4))⟩, ⟨none, (some 14), (.fa 0 (.s 1))⟩, ⟨none, (some 15), (.ld none (.s 14))⟩, ⟨none, (some 16), (.len (.s 15))⟩, ⟨none, (some 17), (.bin .lss (.s 13) (.s 16))⟩]) (.cond (.s 17) .skip (.exit 0))) (.seq (.block 1 (.seq (.reg [⟨none, (some 20), (.fa 0 (.s 1))⟩, ⟨none, (some 21), (.ld none (.s 20))⟩, ⟨none, (some 22), (.ia 1 (.s 21) (.c (.lit (.int .i64 0))))⟩, ⟨none, (some 23), (.ld none (.s 22))⟩, ⟨none, (some 24), (.len (.s 23))⟩, ⟨none, (some 25), (.mks (.lit (.int .i64 0)) (.s 24))⟩, ⟨none, (some 5), (.mv (.s 25))⟩]) (.seq (.seq (.reg [⟨none, (some 6), (.mv (.c (.lit (.int .i64 0))))⟩]) (.block 2 (.loop [6, 5, 1, 4, 3] (.seq (.seq (.reg [⟨none, (some 26), (.mv (.s 6))⟩, ⟨none, (some 27), (.mv (.s 5))⟩, ⟨none, (some 28), (.len (.s 27))⟩, ⟨none, (some 29), (.bin .lss (.s 26) (.s 28))⟩]) (.cond (.s 29) .skip (.exit 2))) (.seq (.block 3 (.seq (.reg [⟨none, (some 32), (.ld (some 5) (.s 1))⟩, ⟨none, (some 33), (.mv (.s 6))⟩, ⟨none, (some 34), (.mv (.s 4))⟩, ⟨none, (some 35), (.call 47 [(.s 32), (.s 33), (.s 34)])⟩]) (.cond (.s 35) (.reg [⟨none, (some 36), (.mv (.s 5))⟩, ⟨none, (some 37), (.mv (.s 6))⟩, ⟨none, (some 38), (.ld (some 5) (.s 1))⟩, ⟨none, (some 39), (.mv (.s 6))⟩, ⟨none, (some 40), (.mv (.s 4))⟩, ⟨none, (some 41), (.call 51 [(.s 38), (.s 39), (.s 40)])⟩, ⟨none, (some 42), (.ia 1 (.s 36) (.s 37))⟩, ⟨none, none, (.st 1 (.s 42) (.s 41))⟩]) .skip))) (.reg [⟨none, (some 30), (.mv (.s 6))⟩, ⟨none, (some 31), (.bin .add (.s 30) (.c (.lit (.int .i64 1))))⟩, ⟨none, (some 6), (.mv (.s 31))⟩])))))) (.reg [⟨none, (some 43), (.mv (.s 3))⟩, ⟨none, (some 44), (.mv (.s 5))⟩, ⟨none, (some 45), (.bsl (.lit (.slice none 0 0)) 1 1 [(0, (.s 44))])⟩, ⟨none, (some 46), (.app 1 (.s 43) (.s 45))⟩, ⟨none, (some 3), (.mv (.s 46))⟩])))) (.reg [⟨none, (some 18), (.mv (.s 4))⟩, ⟨none, (some 19), (.bin .add (.s 18) (.c (.lit (.int .i64 1))))⟩, ⟨none, (some 4), (.mv (.s 19))⟩])))))) (.seq (.reg [⟨none, (some 7), (.mv (.c (.lit (.bool true))))⟩]) (.seq (.block 4 (.loop [7, 3, 1] (.seq (.seq (.reg [⟨none, (some 47), (.mv (.s 7))⟩]) (.cond (.s 47) .skip (.exit 4))) (.block 5 (.seq (.reg [⟨none, (some 7), (.mv (.c (.lit (.bool false))))⟩]) (.seq (.reg [⟨none, (some 8), (.mv (.c (.lit (.int .i64 0))))⟩]) (.block 6 (.loop [8, 3, 1, 7] (.seq (.seq (.reg [⟨none, (some 48), (.mv (.s 8))⟩, ⟨none, (some 49), (.mv (.s 3))⟩, ⟨none, (some 50), (.len (.s 49))⟩, ⟨none, (some 51), (.bin .lss (.s 48) (.s 50))⟩]) (.cond (.s 51) .skip (.exit 6))) (.seq (.block 7 (.seq (.reg [⟨none, (some 9), (.mv (.c (.lit (.int .i64 0))))⟩]) (.block 8 (.loop [9, 3, 8, 1, 7] (.seq (.seq (.reg [⟨none, (some 54), (.mv (.s 9))⟩, ⟨none, (some 55), (.mv (.s 3))⟩, ⟨none, (some 56), (.mv (.s 8))⟩, ⟨none, (some 57), (.ia 1 (.s 55) (.s 56))⟩, ⟨none, (some 58), (.ld none (.s 57))⟩, ⟨none, (some 59), (.len (.s 58))⟩, ⟨none, (some 60), (.bin .lss (.s 54) (.s 59))⟩]) (.cond (.s 60) .skip (.exit 8))) (.seq (.block 9 (.seq (.seq (.reg [⟨none, (some 63), (.ld (some 5) (.s 1))⟩, ⟨none, (some 64), (.mv (.s 9))⟩, ⟨none, (some 65), (.mv (.s 8))⟩, ⟨none, (some 66), (.call 47 [(.s 63), (.s 64), (.s 65)])⟩, ⟨none, (some 67), (.un .not (.s 66))⟩]) (.cond (.s 67) (.exit 9) .skip)) (.seq (.reg [⟨none, (some 68), (.ld (some 5) (.s 1))⟩, ⟨none, (some 69), (.mv (.s 9))⟩, ⟨none, (some 70), (.mv (.s 8))⟩, ⟨none, (some 71), (.call 119 [(.s 68), (.s 69), (.s 70)])⟩, ⟨none, (some 10), (.mv (.s 71))⟩]) (.seq (.reg [⟨none, (some 11), (.mv (.c (.lit (.int .i64 0))))⟩]) (.block 10 (.loop [11, 10, 3, 1, 8, 9, 7] (.seq (.seq (.reg [⟨none, (some 72), (.mv (.s 11))⟩, ⟨none, (some 73), (.mv (.s 10))⟩, ⟨none, (some 74), (.len (.s 73))⟩, ⟨none, (some 75), (.bin .lss (.s 72) (.s 74))⟩]) (.cond (.s 75) .skip (.exit 10))) (.seq (.block 11 (.seq (.reg [⟨none, (some 78), (.mv (.s 3))⟩, ⟨none, (some 79), (.mv (.s 10))⟩, ⟨none, (some 80), (.mv (.s 11))⟩, ⟨none, (some 81), (.ia 2 (.s 79) (.s 80))⟩, ⟨none, (some 82), (.fa 1 (.s 81))⟩, ⟨none, (some 83), (.ld none (.s 82))⟩, ⟨none, (some 84), (.ia 1 (.s 78) (.s 83))⟩, ⟨none, (some 85), (.ld none (.s 84))⟩, ⟨none, (some 86), (.mv (.s 10))⟩, ⟨none, (some 87), (.mv (.s 11))⟩, ⟨none, (some 88), (.ia 2 (.s 86) (.s 87))⟩, ⟨none, (some 89), (.fa 0 (.s 88))⟩, ⟨none, (some 90), (.ld none (.s 89))⟩, ⟨none, (some 91), (.ia 1 (.s 85) (.s 90))⟩, ⟨none, (some 92), (.ld none (.s 91))⟩, ⟨none, (some 93), (.fa 4 (.s 1))⟩, ⟨none, (some 94), (.ld none (.s 93))⟩, ⟨none, (some 95), (.bin .sub (.s 92) (.s 94))⟩, ⟨none, (some 12), (.mv (.s 95))⟩]) (.seq (.reg [⟨none, (some 96), (.mv (.s 12))⟩, ⟨none, (some 97), (.mv (.s 3))⟩, ⟨none, (some 98), (.mv (.s 8))⟩, ⟨none, (some 99), (.ia 1 (.s 97) (.s 98))⟩, ⟨none, (some 100), (.ld none (.s 99))⟩, ⟨none, (some 101), (.mv (.s 9))⟩, ⟨none, (some 102), (.ia 1 (.s 100) (.s 101))⟩, ⟨none, (some 103), (.ld none (.s 102))⟩, ⟨none, (some 104), (.bin .gtr (.s 96) (.s 103))⟩]) (.cond (.s 104) (.reg [⟨none, (some 105), (.mv (.s 3))⟩, ⟨none, (some 106), (.mv (.s 8))⟩, ⟨none, (some 107), (.ia 1 (.s 105) (.s 106))⟩, ⟨none, (some 108), (.ld none (.s 107))⟩, ⟨none, (some 109), (.mv (.s 9))⟩, ⟨none, (some 110), (.mv (.s 12))⟩, ⟨none, (some 111), (.ia 1 (.s 108) (.s 109))⟩, ⟨none, none, (.st 1 (.s 111) (.s 110))⟩, ⟨none, (some 7), (.mv (.c (.lit (.bool true))))⟩]) .skip)))) (.reg [⟨none, (some 76), (.mv (.s 11))⟩, ⟨none, (some 77), (.bin .add (.s 76) (.c (.lit (.int .i64 1))))⟩, ⟨none, (some 11), (.mv (.s 77))⟩]))))))))) (.reg [⟨none, (some 61), (.mv (.s 9))⟩, ⟨none, (some 62), (.bin .add (.s 61) (.c (.lit (.int .i64 1))))⟩, ⟨none, (some 9), (.mv (.s 62))⟩]))))))) (.reg [⟨none, (some 52), (.mv (.s 8))⟩, ⟨none, (some 53), (.bin .add (.s 52) (.c (.lit (.int .i64 1))))⟩, ⟨none, (some 8), (.mv (.s 53))⟩]))))))))))) (.seq (.reg [⟨none, (some 112), (.mv (.s 3))⟩, ⟨none, (some 2), (.mv (.s 112))⟩]) .ret))))))⟩ := by kernel_rfl
set_option maxHeartbeats 4000000 in
theorem rLowest_z (k : Nat) {t : Tk} (ok : OkT t) (hb : Bd t) {gg : List (List Int)} (hgg : Lea t gg) : runZ MT (orA (k + 2)) (itA (k + 2)) 4000000 43 [encT t] [] = some (.arr 0 0 t.ter.length 0, [⟨0, false, 1, gg.map encW⟩]) := by
  obtain ⟨h1, h2⟩ := ok.h1
  obtain ⟨w1, w2⟩ := ok.w1
  obtain ⟨cb1, cb2⟩ := ok.cb
  have hs1 : (MV.sl (t.ter.map encW)).slen = some t.ter.length := by simp [MV.slen]
  have e0 := Tk.head h1
  have hsw := Tk.headW t
  refine runZ_of mf_rLowest (by simp) ?_
  simp only [argsL]
  repeat (first | apply ef_seq | (apply ef_mv; exact rfl; exact rfl) | (apply ef_box; exact rfl; exact rfl; exact rfl; exact rfl) | (apply ef_nil0; exact rfl) | apply ef_nil | apply seqQ.normal | apply ef_block)
  refine ef_loopg (α := Nat) (fun y => y ≤ t.ter.length) (fun y => [(4, I64 (y : Int)), (3, .arr 2 0 y y)]) [(1, .ptr 0 0 0 0)] (fun y => rlH t y) (fun y => t.ter.length - y) 0 [4, 3] (fun _ => rfl) (by ((repeat (refine Hold.cons (by exact rfl) ?_)); exact Hold.nil)) (by ((repeat (refine Hold.cons (by exact rfl) ?_)); exact Hold.nil)) rfl rfl rfl (by simp) (by simp; omega) ?_
  intro y hy
  try simp only at hy ⊢
  by_cases hlt : y < t.ter.length
  · have b0 : (rlH t y)[0]? = some ⟨0, false, 5, [encT t]⟩ := rfl
    have b2 : (rlH t y)[2]? = some ⟨y, nlN y, 1, rlRefs t.W y⟩ := rfl
    have hlen := rlH_len t y
    have HS := Lib.hid (rlH_succ t y)
    generalize t.ter.getD 0 [] = r0 at e0 hsw
    generalize rlH t y = H0 at b0 b2 hlen HS ⊢
    repeat (first | apply ef_seq | (apply ef_mv; exact rfl; exact rfl) | (apply ef_bin; exact rfl; exact rfl; exact rfl; (exact cmp_t rfl (by first | exact rfl | (simp only [cmpP]; omega)))) | (apply ef_len; exact rfl; exact rfl; (assumption)) | (apply ef_ldr; exact rfl; exact rfl; (exact rfl)) | (apply ef_ldp; exact rfl; exact rfl; (assumption); exact rfl; (exact rfl); (exact rfl)) | (apply ef_ias; exact rfl; exact rfl; exact rfl; (omega); assumption; exact rfl) | (apply ef_fap; exact rfl; exact rfl) | (apply ef_mks; exact rfl; exact rfl; (omega); (omega)) | apply ef_nil | apply seqQ.normal | apply ef_block | apply ef_skip | (apply ef_condt; exact rfl; (exact (rfl : true = true))))
    refine ef_loopg (α := Nat) (fun x => x ≤ t.W) (fun x => [(6, I64 (x : Int))]) [(5, .arr H0.length 0 t.W 0), (1, .ptr 0 0 0 0), (4, I64 (y : Int)), (3, .arr 2 0 y y)] (fun x => H0 ++ [⟨0, false, 1, rowP t y x⟩]) (fun x => t.W - x) 0 [6] (fun _ => rfl) (by ((repeat (refine Hold.cons (by exact rfl) ?_)); exact Hold.nil)) (by ((repeat (refine Hold.cons (by exact rfl) ?_)); exact Hold.nil)) rfl rfl (by rw [rowP_zero, ← Int.toNat_natCast t.W]; rfl) (by simp) (by simp; omega) ?_
    intro x hx
    try simp only at hx ⊢
    by_cases hlt2 : x < t.W
    · have f0 := at_app b0 [(⟨0, false, 1, rowP t y x⟩ : MObj)]
      have fr : (H0 ++ [(⟨0, false, 1, rowP t y x⟩ : MObj)])[H0.length]? = some ⟨0, false, 1, rowP t y x⟩ := at_end _ _
      have hok : MHeap.ok (H0 ++ [(⟨0, false, 1, rowP t y x⟩ : MObj)]) H0.length 0 1 = true := ok_of fr rfl rfl
      have hcell : (rowP t y x)[0 + ((x : Nat) : Int).toNat]? = some (I64 0) := by rw [Nat.zero_add, Int.toNat_natCast, rowP_at hlt2, if_neg (by omega)]
      cases hf : t.fl y x
      · have hfl := fun h => rFlown_c k t hb h1 (x : Int) (y : Int) h ((t.flI_nat hlt hlt2).trans hf)
        repeat (first | apply ef_seq | (apply ef_mv; exact rfl; exact rfl) | (apply ef_bin; exact rfl; exact rfl; exact rfl; (first | exact cmp_t rfl (by first | exact rfl | (simp only [cmpP]; omega)) | ((with_reducible refine bin_add (wrap_of ?_ ?_)) <;> omega))) | (apply ef_len; exact rfl; exact rfl; (exact rfl)) | (apply ef_ldp; exact rfl; exact rfl; (assumption); exact rfl; (exact rfl); (exact rd_5 rfl rfl rfl rfl rfl)) | apply ef_nil | apply seqQ.normal | apply blockQ.normal | apply ef_block | apply ef_skip | (apply ef_condt; exact rfl; (exact (rfl : true = true))) | (apply ef_condf; exact rfl; (exact (rfl : false = false))) | (apply ef_call; exact rfl; ((repeat (apply XVs.cons; exact rfl)); exact XVs.nil); (with_reducible exact hfl _)))
        refine loopQ.normal _ _ ⟨x + 1, hlt2, by omega, ⟨by ((repeat (refine Hold.cons (by exact rfl) ?_)); exact Hold.nil), by ((repeat (refine Hold.cons (by exact rfl) ?_)); exact Hold.nil)⟩, ?_⟩
        rw [rowP_skip (y := y) hlt2 (by simp [Tk.base, hf])]
        exact .all (by simp)
      · have hfl := fun h => rFlown_c k t hb h1 (x : Int) (y : Int) h ((t.flI_nat hlt hlt2).trans hf)
        have hnd := fun h => rNeed_c (k + 1) t ok hlt hlt2 h
        have hbase : t.base y x = t.need y x := by simp [Tk.base, hf]
        repeat (first | apply ef_seq | (apply ef_mv; exact rfl; exact rfl) | (apply ef_bin; exact rfl; exact rfl; exact rfl; (exact cmp_t rfl (by first | exact rfl | (simp only [cmpP]; omega)))) | (apply ef_len; exact rfl; exact rfl; (exact rfl)) | (apply ef_ldp; exact rfl; exact rfl; (assumption); exact rfl; (exact rfl); (exact rd_5 rfl rfl rfl rfl rfl)) | (apply ef_iaa; exact rfl; exact rfl; exact rfl; (omega); (omega); (assumption)) | apply ef_nil | apply seqQ.normal | apply ef_block | apply ef_skip | (apply ef_condt; exact rfl; (exact (rfl : true = true))) | (apply ef_call; exact rfl; ((repeat (apply XVs.cons; exact rfl)); exact XVs.nil); (with_reducible first | exact hfl _ | exact hnd _)))
        refine ef_st (o := ⟨0, false, 1, rowP t y x⟩) (v := I64 (t.need y x)) (by exact rfl) rfl (by exact rfl) fr rfl rfl hcell rfl ?_
        rw [set_end, Nat.zero_add, Int.toNat_natCast]
        show Ef _ _ _ _ _ _ _ (H0 ++ [⟨0, false, 1, (rowP t y x).set x (I64 (t.need y x))⟩]) _
        rw [← hbase, rowP_set]
        repeat (first | (apply ef_mv; exact rfl; exact rfl) | (apply ef_bin; exact rfl; exact rfl; exact rfl; (((with_reducible refine bin_add (wrap_of ?_ ?_)) <;> omega))) | apply ef_nil | apply seqQ.normal | apply blockQ.normal)
        refine loopQ.normal _ _ ⟨x + 1, hlt2, by omega, ⟨by ((repeat (refine Hold.cons (by exact rfl) ?_)); exact Hold.nil), by ((repeat (refine Hold.cons (by exact rfl) ?_)); exact Hold.nil)⟩, .all (by simp)⟩
    · obtain rfl : x = t.W := by omega
      rw [rowP_full]
      have f2 := at_app b2 [(⟨0, false, 1, (rlRow t y).map I64⟩ : MObj)]
      repeat (first | apply ef_seq | (apply ef_mv; exact rfl; exact rfl) | (apply ef_bin; exact rfl; exact rfl; exact rfl; (exact cmp_f rfl (by simp only [cmpP]; omega))) | (apply ef_len; exact rfl; exact rfl; (exact rfl)) | (apply ef_bsl; exact rfl; (repeat (apply XVs.cons; exact rfl)); exact XVs.nil; exact rfl) | apply ef_nil | apply seqQ.normal | apply loopQ.exit | apply ef_exit | apply seqQ.exit | apply blockQ.here | (apply ef_condf; exact rfl; (exact (rfl : false = false))))
      refine ef_app (ht := by exact rfl) (o := ⟨y, nlN y, 1, rlRefs t.W y⟩) (v := .arr (H0 ++ [(⟨0, false, 1, (rlRow t y).map I64⟩ : MObj)]).length 0 1 0) (e := .arr H0.length 0 t.W 0) (xs := []) (by exact rfl) (by exact rfl) (elems_end rfl rfl rfl rfl) (at_app f2 _) rfl (by simp [rlRefs]) rfl (by simp [rlRefs]; omega) rfl rfl ?_
      show Ef _ _ _ _ _ _ _ (List.set ((H0 ++ [(⟨0, false, 1, (rlRow t y).map I64⟩ : MObj)]) ++ [(⟨0, false, 1, [.arr H0.length 0 t.W 0]⟩ : MObj)]) 2 (⟨y + 1, false, 1, (rlRefs t.W y).drop 0 ++ [.arr H0.length 0 t.W 0]⟩ : MObj)) _
      rw [hlen, HS.out]
      repeat (first | (apply ef_mv; exact rfl; exact rfl) | (apply ef_bin; exact rfl; exact rfl; exact rfl; (((with_reducible refine bin_add (wrap_of ?_ ?_)) <;> omega))) | apply ef_nil | apply seqQ.normal | apply blockQ.normal)
      refine loopQ.normal _ _ ⟨y + 1, hlt, by omega, ⟨by ((repeat (refine Hold.cons (by exact rfl) ?_)); exact Hold.nil), by ((repeat (refine Hold.cons (by exact rfl) ?_)); exact Hold.nil)⟩, .cell (hltL_no (m := 3) (j := 2) (o := ⟨y + 1, nlN (y + 1), 1, rlRefs t.W (y + 1)⟩) (by decide) rfl rlRefs_lt)⟩
  · obtain rfl : y = t.ter.length := by omega
    have hm0 := rlM0 ok
    clear e0 hsw
    have b0 := hm0.b0
    generalize rlH t t.ter.length = hh0 at hm0 b0 ⊢
    repeat (first | apply ef_seq | (apply ef_mv; exact rfl; exact rfl) | (apply ef_bin; exact rfl; exact rfl; exact rfl; (exact cmp_f rfl (by simp only [cmpP]; omega))) | (apply ef_len; exact rfl; exact rfl; (assumption)) | (apply ef_ldp; exact rfl; exact rfl; (assumption); exact rfl; (exact rfl); (exact rfl)) | (apply ef_fap; exact rfl; exact rfl) | apply ef_nil | apply seqQ.normal | apply loopQ.exit | apply ef_exit | apply seqQ.exit | apply blockQ.here | apply ef_block | (apply ef_condf; exact rfl; (exact (rfl : false = false))))
    clear b0
    refine ef_loopg (α := Bool × List (List Int) × MHeap) (fun s => Pre t s.2.1 ∧ RlM t s.2.1 s.2.2 ∧ (s.1 = false → Lea t s.2.1)) (fun s => [(7, Bo s.1)]) [(3, .arr 2 0 t.ter.length t.ter.length), (1, .ptr 0 0 0 0)] (fun s => s.2.2) (fun s => (2880000 - tot s.2.1).toNat + if s.1 then 1 else 0) (true, t.s0, hh0) [7] (fun _ => rfl) (by ((repeat (refine Hold.cons (by exact rfl) ?_)); exact Hold.nil)) (by ((repeat (refine Hold.cons (by exact rfl) ?_)); exact Hold.nil)) rfl rfl rfl ⟨s0_pre t, hm0, fun h => by cases h⟩ (by have := ok.tot (s0_pre t); simp only [if_true]; omega) ?_
    have hL0 := hm0.len
    rw [hL0]
    clear hm0 hL0
    rintro ⟨ag, s0, h0⟩ ⟨hp0, hm0, hd0⟩
    simp only at hp0 hm0 hd0 ⊢
    have hL0 := hm0.len
    cases ag
    · have hsg : s0 = gg := (hd0 rfl).uniq hgg
      obtain ⟨refs, k1, k2, k3⟩ := hm0.sf.top
      have hrow := hm0.sf.row
      have hwl := hm0.sf.wl
      have hgl := hm0.sf.gl
      have he : refs.mapM (frz 0 [2] h0 8) = some (gg.map encW) := by
        rw [← hsg]
        refine mapM_get (by rw [k2, List.length_map, hgl]) fun j a b ha hb => ?_
        have hj : j < t.ter.length := by have := (List.getElem?_eq_some_iff.1 ha).1; omega
        rw [k3 j hj] at ha
        cases ha
        have hr := hrow j hj
        have hw := hwl j hj
        have hb2 : b = encW (s0.getD j []) := by
          rw [List.getElem?_map, List.getElem?_eq_getElem (by omega)] at hb
          cases hb
          rw [List.getD_eq_getElem?_getD, List.getElem?_eq_getElem (by omega)]; rfl
        rw [hb2]
        clear hb hb2
        generalize s0.getD j [] = r at *
        have q1 : ([2] : List Nat).contains (3 + 2 * j) = false := by simp; omega
        have q2 : (r.map I64).take t.W = r.map I64 := List.take_of_length_le (by simp; omega)
        simp only [frz, MV.lt, Nat.not_lt_zero, decide_false, Bool.false_eq_true, if_false, q1, hr]
        simp only [ltL_I, if_true, List.drop_zero, q2]
        simp [hw]
      have hlf : ltL 0 refs = true → refs = gg.map encW := fun hl => by
        have := ltL_iff'.1 hl _ (List.mem_of_getElem? (k3 0 h1))
        simp [MV.lt] at this
      repeat (first | apply ef_seq | (apply ef_mv; exact rfl; exact rfl) | apply ef_nil | apply seqQ.normal | apply loopQ.exit | apply ef_ret | apply ef_exit | apply seqQ.exit | apply blockQ.here | (apply ef_condf; exact rfl; (exact (rfl : false = false))))
      (apply fin_arrF; (· exact rfl); (· exact rfl); (· exact k1); (· exact rfl); (· exact k2.symm); (· exact he); (· exact hlf); (· exact rfl); (· exact rfl))
    · have ht0 := ok.tot hp0
      repeat (first | apply ef_seq | (apply ef_mv; exact rfl; exact rfl) | apply ef_nil | apply seqQ.normal | apply ef_block | apply ef_skip | (apply ef_condt; exact rfl; (exact (rfl : true = true))))
      refine ef_loopg (α := Nat × Bool × List (List Int) × MHeap) (fun s => s.1 ≤ t.ter.length ∧ SI t s0 s.2.2.1 s.2.1 (fun a b => a < s.1) ∧ RlM t s.2.2.1 s.2.2.2) (fun s => [(8, I64 (s.1 : Int)), (7, Bo s.2.1)]) [(3, .arr 2 0 t.ter.length t.ter.length), (1, .ptr 0 0 0 0)] (fun s => s.2.2.2) (fun s => t.ter.length - s.1) (0, false, s0, h0) [8, 7] (fun _ => rfl) (by ((repeat (refine Hold.cons (by exact rfl) ?_)); exact Hold.nil)) (by ((repeat (refine Hold.cons (by exact rfl) ?_)); exact Hold.nil)) rfl rfl rfl ⟨by simp, ⟨hp0, fun _ => ⟨rfl, fun y x _ _ _ h => by simp at h⟩, fun h => by cases h⟩, hm0⟩ (by simp; omega) ?_
      rw [hL0]
      rintro ⟨y, ag, s, h⟩ ⟨hy, hsi, hm⟩
      simp only at hy hsi hm ⊢
      by_cases hlt : y < t.ter.length
      · repeat (first | apply ef_seq | (apply ef_mv; exact rfl; exact rfl) | (apply ef_bin; exact rfl; exact rfl; exact rfl; (exact cmp_t rfl (by first | exact rfl | (simp only [cmpP]; omega)))) | (apply ef_len; exact rfl; exact rfl; (exact rfl)) | apply ef_nil | apply seqQ.normal | apply ef_block | apply ef_skip | (apply ef_condt; exact rfl; (exact (rfl : true = true))))
        refine ef_loopg (α := Nat × Bool × List (List Int) × MHeap) (fun s => s.1 ≤ t.W ∧ SI t s0 s.2.2.1 s.2.1 (fun a b => swD y s.1 a b) ∧ RlM t s.2.2.1 s.2.2.2) (fun s => [(9, I64 (s.1 : Int)), (7, Bo s.2.1)]) [(3, .arr 2 0 t.ter.length t.ter.length), (8, I64 (y : Int)), (1, .ptr 0 0 0 0)] (fun s => s.2.2.2) (fun s => t.W - s.1) (0, ag, s, h) [9, 7] (fun _ => rfl) (by ((repeat (refine Hold.cons (by exact rfl) ?_)); exact Hold.nil)) (by ((repeat (refine Hold.cons (by exact rfl) ?_)); exact Hold.nil)) rfl rfl rfl ⟨by simp, ⟨hsi.pre, fun h => ⟨(hsi.no h).1, fun y' x' ha hb hf hd => (hsi.no h).2 y' x' ha hb hf (by rcases hd with hd | hd; exact hd; exact absurd hd.2 (by simp))⟩, hsi.yes⟩, hm⟩ (by simp; omega) ?_
        rw [hm.len]
        clear hsi hm ag s h
        rintro ⟨x, ag, s, h⟩ ⟨hx, hsi, hm⟩
        simp only at hx hsi hm ⊢
        obtain ⟨refs, r1, r2, r3, r4, r5, r6⟩ := hm.sf.rd hlt w1
        try simp only at r3 r4 r5
        by_cases hlt2 : x < t.W
        · have b0 := hm.b0
          cases hf : t.fl y x
          · have hfl := fun h => rFlown_c k t hb h1 (x : Int) (y : Int) h ((t.flI_nat hlt hlt2).trans hf)
            repeat (first | apply ef_seq | (apply ef_mv; exact rfl; exact rfl) | (apply ef_bin; exact rfl; exact rfl; exact rfl; (first | exact cmp_t rfl (by first | exact rfl | (simp only [cmpP]; omega)) | ((with_reducible refine bin_add (wrap_of ?_ ?_)) <;> omega))) | (apply ef_len; exact rfl; exact rfl; (exact rfl)) | (apply ef_ldp; exact rfl; exact rfl; (assumption); exact rfl; (first | exact rfl | assumption); (first | exact rd_5 rfl rfl rfl rfl rfl | exact rfl)) | (apply ef_iaa; exact rfl; exact rfl; exact rfl; (omega); (omega); (assumption)) | (apply ef_notF; exact rfl; exact rfl) | apply ef_nil | apply seqQ.normal | apply ef_exit | apply seqQ.exit | apply blockQ.here | apply ef_block | apply ef_skip | (apply ef_condt; exact rfl; (exact (rfl : true = true))) | (apply ef_call; exact rfl; ((repeat (apply XVs.cons; exact rfl)); exact XVs.nil); (with_reducible exact hfl _)))
            refine loopQ.normal _ _ ⟨(x + 1, ag, s, h), ⟨hlt2, ⟨hsi.pre, fun h => ⟨(hsi.no h).1, fun y' x' ha hb hf' hd => (hsi.no h).2 y' x' ha hb hf' ?_⟩, hsi.yes⟩, hm⟩, by simp only; omega, ⟨by ((repeat (refine Hold.cons (by exact rfl) ?_)); exact Hold.nil), by ((repeat (refine Hold.cons (by exact rfl) ?_)); exact Hold.nil)⟩, .all (by rw [hm.len]; exact Nat.le_refl _)⟩
            simp only [swD] at hd ⊢
            rcases hd with hd | ⟨rfl, hd⟩
            · exact .inl hd
            · refine .inr ⟨rfl, ?_⟩
              by_cases e : x' = x
              · subst e; rw [hf] at hf'; cases hf'
              · omega
          · have hfl := fun h => rFlown_c k t hb h1 (x : Int) (y : Int) h ((t.flI_nat hlt hlt2).trans hf)
            have hnb := fun h => rNeighbours_c k t ok hb hlt hlt2 h
            repeat (first | apply ef_seq | (apply ef_mv; exact rfl; exact rfl) | (apply ef_bin; exact rfl; exact rfl; exact rfl; (exact cmp_t rfl (by first | exact rfl | (simp only [cmpP]; omega)))) | (apply ef_len; exact rfl; exact rfl; (exact rfl)) | (apply ef_ldp; exact rfl; exact rfl; (assumption); exact rfl; (first | exact rfl | assumption); (first | exact rd_5 rfl rfl rfl rfl rfl | exact rfl)) | (apply ef_iaa; exact rfl; exact rfl; exact rfl; (omega); (omega); (assumption)) | (apply ef_notT; exact rfl; exact rfl) | apply ef_nil | apply seqQ.normal | apply ef_block | apply ef_skip | (apply ef_condt; exact rfl; (exact (rfl : true = true))) | (apply ef_condf; exact rfl; (exact (rfl : false = false))) | (apply ef_call; exact rfl; ((repeat (apply XVs.cons; exact rfl)); exact XVs.nil); (with_reducible first | exact hfl _ | exact hnb _)))
            have hln := hm.len
            refine ef_loopg (α := Nat × Bool × List (List Int) × MHeap) (fun s => s.1 ≤ (nbR t y x).length ∧ SI t s0 s.2.2.1 s.2.1 (fun a b => swD y x a b) ∧ (s.2.1 = false → ∀ p ∈ (nbR t y x).take s.1, at2 s.2.2.1 p.1 p.2 - t.cb ≤ at2 s.2.2.1 y x) ∧ RlM t s.2.2.1 s.2.2.2) (fun s => [(11, I64 (s.1 : Int)), (7, Bo s.2.1)]) [(10, .arr h.length 0 (nbR t y x).length 0), (3, .arr 2 0 t.ter.length t.ter.length), (1, .ptr 0 0 0 0), (8, I64 (y : Int)), (9, I64 (x : Int))] (fun s => s.2.2.2 ++ [⟨0, nlN (nbR t y x).length, 2, (nbR t y x).map posM⟩]) (fun s => (nbR t y x).length - s.1) (0, ag, s, h) [11, 7] (fun _ => rfl) (by ((repeat (refine Hold.cons (by exact rfl) ?_)); exact Hold.nil)) (by ((repeat (refine Hold.cons (by exact rfl) ?_)); exact Hold.nil)) rfl rfl rfl ⟨by simp, hsi, (fun _ => by simp), hm⟩ (by have := nbR_len t y x; simp only; omega) ?_
            rw [hln]
            have hLL : (h ++ [(⟨0, nlN (nbR t y x).length, 2, (nbR t y x).map posM⟩ : MObj)]).length = 4 + 2 * t.ter.length := by simp [hln]; omega
            rw [hLL]
            clear hsi hm ag s h hln hLL b0 r1 r2 r3 r4 r5 r6 refs
            rintro ⟨i, ag, s, h⟩ ⟨hi, hsi, hal, hm⟩
            simp only at hi hsi hal hm ⊢
            have hln := hm.len
            by_cases hlt3 : i < (nbR t y x).length
            · obtain ⟨⟨y1, x1⟩, hp⟩ : ∃ p, (nbR t y x)[i]? = some p := ⟨_, List.getElem?_eq_getElem hlt3⟩
              have hnb := (nbR_mem hlt hlt2).1 (List.mem_of_getElem? hp)
              simp only at hnb
              have htk : (nbR t y x).take (i + 1) = (nbR t y x).take i ++ [(y1, x1)] := by rw [List.take_add_one, hp]; rfl
              have hsf := hm.sf.app [(⟨0, nlN (nbR t y x).length, 2, (nbR t y x).map posM⟩ : MObj)]
              obtain ⟨refs, r1, r2, r3, r4, r5, r6⟩ := hsf.rd hlt hlt2
              obtain ⟨refs', p1, p2, p3, p4, p5, p6⟩ := hsf.rd (y := y1) (x := x1) hnb.1 hnb.2.1
              have hrr : refs' = refs := by rw [p1] at r1; cases r1; rfl
              subst hrr
              try simp only at r3 r4 r5 p3 p4 p5
              have f0 := at_app hm.b0 [(⟨0, nlN (nbR t y x).length, 2, (nbR t y x).map posM⟩ : MObj)]
              have fn : (h ++ [(⟨0, nlN (nbR t y x).length, 2, (nbR t y x).map posM⟩ : MObj)])[3 + 2 * t.ter.length]? = some ⟨0, nlN (nbR t y x).length, 2, (nbR t y x).map posM⟩ := by rw [← hln]; exact at_end _ _
              have fok : MHeap.ok (h ++ [(⟨0, nlN (nbR t y x).length, 2, (nbR t y x).map posM⟩ : MObj)]) (3 + 2 * t.ter.length) 0 2 = true := ok_of fn rfl rfl
              have fe : ((nbR t y x).map posM)[0 + ((i : Nat) : Int).toNat]? = some (posM (y1, x1)) := by rw [Nat.zero_add, Int.toNat_natCast, List.getElem?_map, hp]; rfl
              obtain ⟨a1, a2⟩ := ok.top hsi.pre y x hlt hlt2
              obtain ⟨a3, a4⟩ := ok.top hsi.pre y1 x1 hnb.1 hnb.2.1
              have hy1 : y1 < t.ter.length := hnb.1
              have hx1 := hnb.2.1
              have hnl := nbR_len t y x
              repeat (first | apply ef_seq | (apply ef_mv; exact rfl; exact rfl) | (apply ef_bin; exact rfl; exact rfl; exact rfl; (first | exact cmp_t rfl (by first | exact rfl | (simp only [cmpP]; omega)) | ((with_reducible refine bin_sub (wrap_of ?_ ?_)) <;> omega) | exact rfl)) | (apply ef_len; exact rfl; exact rfl; (exact rfl)) | (apply ef_ldp; exact rfl; exact rfl; (assumption); exact rfl; (first | exact rfl | assumption); (exact rfl)) | (apply ef_iaa; exact rfl; exact rfl; exact rfl; (omega); (omega); (assumption)) | (apply ef_fap; exact rfl; exact rfl) | apply ef_nil | apply seqQ.normal | apply ef_block | apply ef_skip | (apply ef_condt; exact rfl; (exact (rfl : true = true))))
              by_cases hr : at2 s y x < at2 s y1 x1 - t.cb
              · repeat (first | (apply ef_mv; exact rfl; exact rfl) | (apply ef_ldp; exact rfl; exact rfl; (assumption); exact rfl; (assumption); (exact rfl)) | (apply ef_iaa; exact rfl; exact rfl; exact rfl; (omega); (omega); (assumption)) | (apply ef_condt; exact rfl; (exact decide_eq_true (by omega))))
                refine ef_st (o := ⟨0, false, 1, (s.getD y []).map I64⟩) (v := I64 (at2 s y1 x1 - t.cb)) (by exact rfl) rfl (by exact rfl) r4 rfl rfl r6 rfl ?_
                have m2 := hm.put (x := x) (v := at2 s y1 x1 - t.cb) hlt
                rw [List.set_append_left _ _ (by omega)]
                show Ef _ _ _ _ _ _ _ (h.set (3 + 2 * y) ⟨0, false, 1, ((s.getD y []).map I64).set (0 + ((x : Nat) : Int).toNat) (I64 (at2 s y1 x1 - t.cb))⟩ ++ _) _
                rw [show 0 + ((x : Nat) : Int).toNat = x by simp]
                repeat (first | (apply ef_mv; exact rfl; exact rfl) | (apply ef_bin; exact rfl; exact rfl; exact rfl; (((with_reducible refine bin_add (wrap_of ?_ ?_)) <;> omega))) | apply ef_nil | apply seqQ.normal | apply blockQ.normal)
                have hl2 := m2.len
                refine loopQ.normal _ _ ⟨(i + 1, true, set2 s y x (at2 s y1 x1 - t.cb), h.set (3 + 2 * y) ⟨0, false, 1, ((s.getD y []).map I64).set x (I64 (at2 s y1 x1 - t.cb))⟩), ⟨hlt3, ⟨hsi.pre.raise hnb.1 hnb.2.1 hnb.fl (hnb.symm hlt hlt2) hr, (fun h => by cases h), fun _ => ?_⟩, (fun h => by cases h), m2⟩, by simp only; omega, ⟨by ((repeat (refine Hold.cons (by exact rfl) ?_)); exact Hold.nil), by ((repeat (refine Hold.cons (by exact rfl) ?_)); exact Hold.nil)⟩, .all (by rw [List.length_append, hl2]; simp; omega)⟩
                have q1 := tot_le_up (s0 := s) hsi.pre.sh hlt hlt2 hr
                show tot s0 < tot (set2 s y x (at2 s y1 x1 - t.cb))
                cases ag
                · rw [← (hsi.no rfl).1]; exact q1
                · have := hsi.yes rfl; omega
              · repeat (first | (apply ef_mv; exact rfl; exact rfl) | (apply ef_bin; exact rfl; exact rfl; exact rfl; (((with_reducible refine bin_add (wrap_of ?_ ?_)) <;> omega))) | apply ef_nil | apply seqQ.normal | apply blockQ.normal | apply ef_skip | (apply ef_condf; exact rfl; (exact decide_eq_false (by omega))))
                refine loopQ.normal _ _ ⟨(i + 1, ag, s, h), ⟨hlt3, hsi, fun e p hp => ?_, hm⟩, by simp only; omega, ⟨by ((repeat (refine Hold.cons (by exact rfl) ?_)); exact Hold.nil), by ((repeat (refine Hold.cons (by exact rfl) ?_)); exact Hold.nil)⟩, .all (by rw [List.length_append, hln]; simp; omega)⟩
                simp only at hp ⊢
                rw [htk, List.mem_append] at hp
                rcases hp with hp | hp
                · exact hal e p hp
                · rw [List.mem_singleton] at hp
                  subst hp
                  simp only
                  omega
            · rw [List.take_of_length_le (by omega)] at hal
              repeat (first | apply ef_seq | (apply ef_mv; exact rfl; exact rfl) | (apply ef_bin; exact rfl; exact rfl; exact rfl; (first | exact cmp_f rfl (by simp only [cmpP]; omega) | ((with_reducible refine bin_add (wrap_of ?_ ?_)) <;> omega))) | (apply ef_len; exact rfl; exact rfl; (exact rfl)) | apply ef_nil | apply seqQ.normal | apply loopQ.exit | apply ef_exit | apply seqQ.exit | apply blockQ.normal | apply blockQ.here | (apply ef_condf; exact rfl; (exact (rfl : false = false))))
              refine loopQ.normal _ _ ⟨(x + 1, ag, s, h), ⟨hlt2, ⟨hsi.pre, fun e => ⟨(hsi.no e).1, fun y' x' ha hb hf' hd => ?_⟩, hsi.yes⟩, hm⟩, by simp only; omega, ⟨by ((repeat (refine Hold.cons (by exact rfl) ?_)); exact Hold.nil), by ((repeat (refine Hold.cons (by exact rfl) ?_)); exact Hold.nil)⟩, HeadIs.tkE _ rfl hln (hm.cl.app _) fun u hu => ?_⟩
              · simp only [swD] at hd
                rcases hd with hd | ⟨rfl, hd⟩
                · exact (hsi.no e).2 y' x' ha hb hf' (.inl hd)
                · by_cases e2 : x' = x
                  · subst e2
                    exact fun y2 x2 hn2 => hal e (y2, x2) ((nbR_mem hlt hlt2).2 hn2)
                  · exact (hsi.no e).2 y' x' ha hb hf' (.inr ⟨rfl, by omega⟩)
              · simp only [List.mem_cons, List.not_mem_nil, or_false] at hu
                rcases hu with rfl | rfl | rfl | rfl | rfl
                · exact ⟨_, by exact rfl, rfl⟩
                · exact ⟨.arr 2 0 t.ter.length t.ter.length, by exact rfl, by simp [MV.lt]; omega⟩
                · exact ⟨_, by exact rfl, rfl⟩
                · exact ⟨.ptr 0 0 0 0, by exact rfl, by simp [MV.lt]; omega⟩
                · exact ⟨_, by exact rfl, rfl⟩
        · repeat (first | apply ef_seq | (apply ef_mv; exact rfl; exact rfl) | (apply ef_bin; exact rfl; exact rfl; exact rfl; (first | exact cmp_f rfl (by simp only [cmpP]; omega) | ((with_reducible refine bin_add (wrap_of ?_ ?_)) <;> omega))) | (apply ef_len; exact rfl; exact rfl; (exact rfl)) | (apply ef_ldp; exact rfl; exact rfl; (assumption); exact rfl; (assumption); (exact rfl)) | (apply ef_iaa; exact rfl; exact rfl; exact rfl; (omega); (omega); (assumption)) | apply ef_nil | apply seqQ.normal | apply loopQ.exit | apply ef_exit | apply seqQ.exit | apply blockQ.normal | apply blockQ.here | (apply ef_condf; exact rfl; (exact (rfl : false = false))))
          refine loopQ.normal _ _ ⟨(y + 1, ag, s, h), ⟨hlt, ⟨hsi.pre, fun h => ⟨(hsi.no h).1, fun y' x' ha hb hf hd => (hsi.no h).2 y' x' ha hb hf ?_⟩, hsi.yes⟩, hm⟩, by simp only; omega, ⟨by ((repeat (refine Hold.cons (by exact rfl) ?_)); exact Hold.nil), by ((repeat (refine Hold.cons (by exact rfl) ?_)); exact Hold.nil)⟩, .all (by rw [hm.len]; exact Nat.le_refl _)⟩
          simp only [swD] at hd ⊢
          by_cases e : y' = y
          · exact .inr ⟨e, by omega⟩
          · exact .inl (by omega)
      · repeat (first | apply ef_seq | (apply ef_mv; exact rfl; exact rfl) | (apply ef_bin; exact rfl; exact rfl; exact rfl; (exact cmp_f rfl (by simp only [cmpP]; omega))) | (apply ef_len; exact rfl; exact rfl; (exact rfl)) | apply ef_nil | apply seqQ.normal | apply loopQ.exit | apply ef_exit | apply seqQ.exit | apply blockQ.normal | apply blockQ.here | (apply ef_condf; exact rfl; (exact (rfl : false = false))))
        refine loopQ.normal _ _ ⟨(ag, s, h), ⟨hsi.pre, hm, fun e => ?_⟩, ?_, ⟨by ((repeat (refine Hold.cons (by exact rfl) ?_)); exact Hold.nil), by ((repeat (refine Hold.cons (by exact rfl) ?_)); exact Hold.nil)⟩, .all (by rw [hm.len]; exact Nat.le_refl _)⟩
        · simp only at e
          subst e
          exact hsi.done fun y' x' ha hb => by show y' < y; have : y' < t.ter.length := ha; omega
        · have ht1 := ok.tot hsi.pre
          cases ag
          · rw [(hsi.no rfl).1]; simp
          · have := hsi.yes rfl
            simp only [if_true]; omega
theorem rLowest_c (k : Nat) {t : Tk} (ok : OkT t) (hb : Bd t) {g : List (List Int)} (hg : Lea t g) (h : MHeap) : orA (k + 3) 43 [encT t] h = some (.arr h.length 0 t.ter.length 0, h ++ [⟨0, false, 1, g.map encW⟩]) := by
  have := callA (k := k + 2) (h := h) (frzL_lt (ms := [encT t]) (by simp [ltL, encT_lt])) rfl (rLowest_z k ok hb hg) rfl (by simp [okH, ltL_W, ltL, MV.lt, ltL_I, ltL_B])
  simpa [shV, sh1] using this
end Go.Proofs.Ytgjpdjihjphbdaa

/- Distances, forces: plain laws (no program). -/
namespace Go.Proofs.Ytgjpdjihjphbdaa
set_option linter.unusedVariables false

abbrev Nd := Nat × Nat
def Tk.NbP (t : Tk) (p q : Nd) : Prop := t.Nb p.1 p.2 q.1 q.2
def Tk.inP (t : Tk) (p : Nd) : Prop := p.1 < t.H ∧ p.2 < t.W ∧ t.fl p.1 p.2 = true
theorem Tk.NbP.inP {t : Tk} {p q : Nd} (h : t.NbP p q) : t.inP q := ⟨h.1, h.2.1, h.fl⟩
theorem Tk.NbP.symm {t : Tk} {p q : Nd} (hp : t.inP p) (h : t.NbP p q) : t.NbP q p := Tk.Nb.symm hp.1 hp.2.1 h
/-- The minimum numbers of steps from a node. -/
structure Dst (t : Tk) (s : Nd) (f : Nd → Option Nat) : Prop where
  src : f s = some 0
  rng : ∀ p k, f p = some k → t.inP p
  zero : ∀ p, f p = some 0 → p = s
  par : ∀ p k, f p = some (k + 1) → ∃ q, f q = some k ∧ t.NbP q p
  cls : ∀ p k q, f p = some k → t.NbP p q → ∃ j, f q = some j ∧ j ≤ k + 1
theorem Dst.le {t : Tk} {s : Nd} {f g : Nd → Option Nat} (hf : Dst t s f) (hg : Dst t s g) : ∀ k p, f p = some k → ∃ j, g p = some j ∧ j ≤ k
  | 0, p, h => by
    have := hf.zero p h
    subst this
    exact ⟨0, hg.src, Nat.le_refl _⟩
  | k + 1, p, h => by
    obtain ⟨q, h1, h2⟩ := hf.par p k h
    obtain ⟨j, h3, h4⟩ := hf.le hg k q h1
    obtain ⟨i, h5, h6⟩ := hg.cls q j p h3 h2
    exact ⟨i, h5, by omega⟩
theorem Dst.uniq {t : Tk} {s : Nd} {f g : Nd → Option Nat} (hf : Dst t s f) (hg : Dst t s g) (p : Nd) : f p = g p := by
  cases h1 : f p with
  | none =>
    cases h2 : g p with
    | none => rfl
    | some j =>
      obtain ⟨i, h3, _⟩ := hg.le hf j p h2
      rw [h1] at h3; cases h3
  | some k =>
    obtain ⟨j, h2, h3⟩ := hf.le hg k p h1
    obtain ⟨i, h4, h5⟩ := hg.le hf j p h2
    rw [h1] at h4
    cases h4
    rw [h2]
    congr 1; omega
def Tk.needP (t : Tk) (p : Nd) : Int := t.need p.1 p.2
def atP (g : List (List Int)) (p : Nd) : Int := at2 g p.1 p.2
/-- No node asks for more. -/
theorem Dst.ask {t : Tk} {s : Nd} {f : Nd → Option Nat} {L : List (List Int)} (hf : Dst t s f) (hL : Lea t L) : ∀ k p, f p = some k → atP L p - t.cb * (k : Int) ≤ atP L s
  | 0, p, h => by
    have := hf.zero p h
    subst this
    simp
  | k + 1, p, h => by
    obtain ⟨q, h1, h2⟩ := hf.par p k h
    have h3 := hf.ask hL k q h1
    have hq := hf.rng q k h1
    have h4 := hf.rng p (k + 1) h
    have h5 := hL.1.st p.1 p.2 q.1 q.2 h4.1 h4.2.1 h4.2.2 (h2.symm hq)
    unfold atP at *
    rw [Int.natCast_add, Int.natCast_one, Int.mul_add, Int.mul_one]
    omega
theorem Dst.most {t : Tk} {s : Nd} {f : Nd → Option Nat} {L : List (List Int)} (hf : Dst t s f) (hL : Lea t L) {k : Nat} {p : Nd} (h : f p = some k) : t.needP p - t.cb * (k : Int) ≤ atP L s := by
  have h1 := hf.ask hL k p h
  have h2 := hf.rng p k h
  have h3 := hL.1.ab p.1 p.2 h2.1 h2.2.1 h2.2.2
  unfold Tk.needP atP at *
  omega
/-- Some node asks for just this. -/
theorem Dst.force {t : Tk} {s : Nd} {f : Nd → Option Nat} {L : List (List Int)} (hf : Dst t s f) (hL : Lea t L) (hc : 0 ≤ t.cb) : ∃ p k, f p = some k ∧ t.needP p - t.cb * (k : Int) = atP L s := by
  apply Classical.byContradiction
  intro hno
  have hlt : ∀ p k, f p = some k → t.needP p - t.cb * (k : Int) < atP L s := fun p k h => by
    have h1 := hf.most hL h
    have h2 : t.needP p - t.cb * (k : Int) ≠ atP L s := fun e => hno ⟨p, k, h, e⟩
    omega
  obtain ⟨T, hT⟩ : ∃ T : List (List Int), T = (List.range t.H).map fun y => (List.range t.W).map fun x => match f (y, x) with | some k => min (at2 L y x) (atP L s - 1 + t.cb * (k : Int)) | none => at2 L y x := ⟨_, rfl⟩
  have hat : ∀ y x, y < t.H → x < t.W → at2 T y x = match f (y, x) with | some k => min (at2 L y x) (atP L s - 1 + t.cb * (k : Int)) | none => at2 L y x := fun y x hy hx => by
    rw [hT, at2_get (by simp; exact hy) (by simp; exact hx)]
    simp
  have hs := hf.rng s 0 hf.src
  have hV : Val t T := by
    refine ⟨⟨by rw [hT]; simp, fun y h => by subst hT; simp⟩, fun y x hy hx hfl => ?_, fun y x hy hx hfl => ?_, fun y x y' x' hy hx hfl hn => ?_⟩
    · rw [hat y x hy hx]
      cases h : f (y, x) with
      | none => exact hL.1.ze y x hy hx hfl
      | some k =>
        have := (hf.rng _ _ h).2.2
        rw [hfl] at this; cases this
    · rw [hat y x hy hx]
      have h1 := hL.1.ab y x hy hx hfl
      cases h : f (y, x) with
      | none => exact h1
      | some k =>
        have := hlt _ _ h
        simp only [Tk.needP] at this
        simp only
        omega
    · rw [hat y x hy hx, hat y' x' hn.1 hn.2.1]
      have h1 := hL.1.st y x y' x' hy hx hfl hn
      have hin : t.inP (y, x) := ⟨hy, hx, hfl⟩
      have hn' : t.NbP (y, x) (y', x') := hn
      cases h : f (y, x) with
      | none =>
        cases h2 : f (y', x') with
        | none => exact h1
        | some k' =>
          obtain ⟨j, h3, _⟩ := hf.cls _ _ _ h2 (hn'.symm hin)
          rw [h] at h3; cases h3
      | some k =>
        obtain ⟨k', h2, _⟩ := hf.cls _ _ _ h hn'
        rw [h2]
        obtain ⟨j, h3, h4⟩ := hf.cls _ _ _ h2 (hn'.symm hin)
        rw [h] at h3
        cases h3
        simp only
        have h5 : t.cb * (k : Int) ≤ t.cb * ((k' : Int) + 1) := Int.mul_le_mul_of_nonneg_left (by omega) hc
        rw [Int.mul_add, Int.mul_one] at h5
        omega
  have h1 := hL.2 T hV s.1 s.2 hs.1 hs.2.1
  rw [hat s.1 s.2 hs.1 hs.2.1, hf.src] at h1
  simp only [Int.natCast_zero, Int.mul_zero] at h1
  unfold atP at h1
  omega

/-- The queue of the program's search. -/
structure BfI (t : Tk) (s : Nd) (f : Nd → Option Nat) (Q : List Nd) (cur : Option Nd) : Prop where
  src : f s = some 0
  rng : ∀ p k, f p = some k → t.inP p
  zero : ∀ p, f p = some 0 → p = s
  par : ∀ p k, f p = some (k + 1) → ∃ q, f q = some k ∧ t.NbP q p
  mem : ∀ p ∈ Q, ∃ k, f p = some k
  sat : ∀ p k, f p = some k → p ∉ Q → cur ≠ some p → ∀ q, t.NbP p q → ∃ j, f q = some j ∧ j ≤ k + 1
  top : ∀ q ∈ Q, ∀ p k j, f p = some k → f q = some j → k ≤ j + 1
  srt : Q.Pairwise fun a b => ∀ i j, f a = some i → f b = some j → i ≤ j
  cu : ∀ n, cur = some n → ∃ k0, f n = some k0 ∧ (∀ p k, f p = some k → k ≤ k0 + 1) ∧ ∀ q ∈ Q, ∀ j, f q = some j → k0 ≤ j
def fSet (f : Nd → Option Nat) (p : Nd) (k : Nat) : Nd → Option Nat := fun q => if q = p then some k else f q
theorem BfI.start {t : Tk} {s : Nd} (hs : t.inP s) : BfI t s (fSet (fun _ => none) s 0) [s] none := by
  have h1 : ∀ p k, fSet (fun _ => none) s 0 p = some k → p = s ∧ k = 0 := fun p k h => by
    unfold fSet at h
    split at h
    · cases h; exact ⟨by assumption, rfl⟩
    · cases h
  refine ⟨by simp [fSet], fun p k h => by rw [(h1 p k h).1]; exact hs, fun p h => (h1 p 0 h).1, fun p k h => by have := (h1 p _ h).2; omega, fun p hp => ?_, fun p k h hq => ?_, fun q hq p k j h1' h2' => ?_, by simp, fun n h => by cases h⟩
  · obtain rfl : p = s := by simpa using hp
    exact ⟨0, by simp [fSet]⟩
  · exact absurd (by rw [(h1 p k h).1]; simp) hq
  · have := (h1 p k h1').2; omega
theorem BfI.pop {t : Tk} {s n : Nd} {f : Nd → Option Nat} {Q : List Nd} (h : BfI t s f (n :: Q) none) : BfI t s f Q (some n) := by
  refine ⟨h.src, h.rng, h.zero, h.par, fun p hp => h.mem p (List.mem_cons_of_mem _ hp), fun p k hp hq hc => h.sat p k hp (fun hm => ?_) (fun e => by cases e), fun q hq => h.top q (List.mem_cons_of_mem _ hq), (List.pairwise_cons.1 h.srt).2, fun m e => ?_⟩
  · rcases List.mem_cons.1 hm with e | e
    · exact hc (by rw [e])
    · exact hq e
  · cases e
    obtain ⟨k0, hk⟩ := h.mem n List.mem_cons_self
    exact ⟨k0, hk, fun p k hp => h.top n List.mem_cons_self p k k0 hp hk, fun q hq j hj => (List.pairwise_cons.1 h.srt).1 q hq k0 j hk hj⟩
theorem BfI.close {t : Tk} {s n : Nd} {f : Nd → Option Nat} {Q : List Nd} (h : BfI t s f Q (some n)) (hs : ∀ q, t.NbP n q → ∃ j, f q = some j) : BfI t s f Q none := by
  obtain ⟨k0, hk, hl, hq⟩ := h.cu n rfl
  refine ⟨h.src, h.rng, h.zero, h.par, h.mem, fun p k hp hq _ q hn => ?_, h.top, h.srt, fun m e => by cases e⟩
  by_cases e : p = n
  · subst e
    rw [hk] at hp
    cases hp
    obtain ⟨j, hj⟩ := hs q hn
    exact ⟨j, hj, hl q j hj⟩
  · exact h.sat p k hp hq (fun e' => e (by cases e'; rfl)) q hn
theorem BfI.more {t : Tk} {s n m : Nd} {f : Nd → Option Nat} {Q : List Nd} {k0 : Nat} (h : BfI t s f Q (some n)) (hk : f n = some k0) (hn : t.NbP n m) (hm : f m = none) : BfI t s (fSet f m (k0 + 1)) (Q ++ [m]) (some n) := by
  obtain ⟨k1, hk1, hl, hq⟩ := h.cu n rfl
  rw [hk] at hk1
  cases hk1
  have old : ∀ {p : Nd} {k : Nat}, f p = some k → fSet f m (k0 + 1) p = some k := fun {p k} hp => by
    unfold fSet
    split
    · rename_i e; rw [e, hm] at hp; cases hp
    · exact hp
  have here : fSet f m (k0 + 1) m = some (k0 + 1) := by simp [fSet]
  have inv : ∀ {p : Nd} {k : Nat}, fSet f m (k0 + 1) p = some k → (p = m ∧ k = k0 + 1) ∨ f p = some k := fun {p k} hp => by
    unfold fSet at hp
    split at hp
    · rename_i e; cases hp; exact .inl ⟨e, rfl⟩
    · exact .inr hp
  refine ⟨old h.src, fun p k hp => ?_, fun p hp => ?_, fun p k hp => ?_, fun p hp => ?_, fun p k hp hnq hc q hpq => ?_, fun q hq' p k j hp hj => ?_, ?_, fun x e => ?_⟩
  · rcases inv hp with ⟨rfl, _⟩ | hp
    · exact hn.inP
    · exact h.rng p k hp
  · rcases inv hp with ⟨_, e⟩ | hp
    · omega
    · exact h.zero p hp
  · rcases inv hp with ⟨rfl, e⟩ | hp
    · exact ⟨n, by rw [show k = k0 by omega]; exact old hk, hn⟩
    · obtain ⟨q, h1, h2⟩ := h.par p k hp
      exact ⟨q, old h1, h2⟩
  · rcases List.mem_append.1 hp with hp | hp
    · obtain ⟨k, h1⟩ := h.mem p hp
      exact ⟨k, old h1⟩
    · obtain rfl : p = m := by simpa using hp
      exact ⟨_, here⟩
  · rcases inv hp with ⟨rfl, _⟩ | hp
    · exact absurd (by simp) hnq
    · obtain ⟨j, h1, h2⟩ := h.sat p k hp (fun hm' => hnq (List.mem_append_left _ hm')) hc q hpq
      exact ⟨j, old h1, h2⟩
  · have hj0 : k0 ≤ j := by
      rcases List.mem_append.1 hq' with hq' | hq'
      · rcases inv hj with ⟨_, e⟩ | hj
        · omega
        · exact hq q hq' j hj
      · obtain rfl : q = m := by simpa using hq'
        rw [here] at hj; cases hj; omega
    have hk' : k ≤ k0 + 1 := by
      rcases inv hp with ⟨_, e⟩ | hp
      · omega
      · exact hl p k hp
    omega
  · rw [List.pairwise_append]
    refine ⟨h.srt.imp_of_mem fun {a b} ha hb hab i j hi hj => ?_, by simp, fun a ha b hb i j hi hj => ?_⟩
    · obtain ⟨ka, hka⟩ := h.mem a ha
      obtain ⟨kb, hkb⟩ := h.mem b hb
      rw [old hka] at hi
      rw [old hkb] at hj
      cases hi
      cases hj
      exact hab _ _ hka hkb
    · obtain rfl : b = m := by simpa using hb
      rw [here] at hj
      cases hj
      obtain ⟨ka, hka⟩ := h.mem a ha
      rw [old hka] at hi
      cases hi
      exact hl a _ hka
  · cases e
    refine ⟨k0, old hk, fun p k hp => ?_, fun q hq' j hj => ?_⟩
    · rcases inv hp with ⟨_, e⟩ | hp
      · omega
      · exact hl p k hp
    · rcases inv hj with ⟨_, e⟩ | hj'
      · omega
      · rcases List.mem_append.1 hq' with hq' | hq'
        · exact hq q hq' j hj'
        · obtain rfl : q = m := by simpa using hq'
          rw [hm] at hj'; cases hj'
theorem BfI.done {t : Tk} {s : Nd} {f : Nd → Option Nat} (h : BfI t s f [] none) : Dst t s f :=
  ⟨h.src, h.rng, h.zero, h.par, fun p k q hp hn => h.sat p k hp (by simp) (fun e => by cases e) q hn⟩
/-- The reference's search, layer by layer. -/
structure LyI (t : Tk) (s : Nd) (f : Nd → Option Nat) (now : List Nd) (lv : Nat) : Prop where
  src : f s = some 0
  rng : ∀ p k, f p = some k → t.inP p
  zero : ∀ p, f p = some 0 → p = s
  par : ∀ p k, f p = some (k + 1) → ∃ q, f q = some k ∧ t.NbP q p
  lvl : ∀ p k, f p = some k → k ≤ lv
  here : ∀ p, p ∈ now ↔ f p = some lv
  sat : ∀ p k, f p = some k → k < lv → ∀ q, t.NbP p q → ∃ j, f q = some j ∧ j ≤ k + 1
structure LyJ (t : Tk) (s : Nd) (f : Nd → Option Nat) (now next : List Nd) (lv : Nat) (D : Nd → Prop) : Prop where
  src : f s = some 0
  rng : ∀ p k, f p = some k → t.inP p
  zero : ∀ p, f p = some 0 → p = s
  par : ∀ p k, f p = some (k + 1) → ∃ q, f q = some k ∧ t.NbP q p
  lvl : ∀ p k, f p = some k → k ≤ lv + 1
  here : ∀ p, p ∈ now ↔ f p = some lv
  nxt : ∀ p, p ∈ next ↔ f p = some (lv + 1)
  sat : ∀ p k, f p = some k → k < lv → ∀ q, t.NbP p q → ∃ j, f q = some j ∧ j ≤ k + 1
  dn : ∀ p, D p → ∀ q, t.NbP p q → ∃ j, f q = some j
theorem LyI.start {t : Tk} {s : Nd} (hs : t.inP s) : LyI t s (fSet (fun _ => none) s 0) [s] 0 := by
  have h1 : ∀ p k, fSet (fun _ => none) s 0 p = some k → p = s ∧ k = 0 := fun p k h => by
    unfold fSet at h
    split at h
    · cases h; exact ⟨by assumption, rfl⟩
    · cases h
  refine ⟨by simp [fSet], fun p k h => by rw [(h1 p k h).1]; exact hs, fun p h => (h1 p 0 h).1, fun p k h => by have := (h1 p _ h).2; omega, fun p k h => by have := (h1 p k h).2; omega, fun p => ⟨fun hp => ?_, fun hp => by rw [(h1 p 0 hp).1]; simp⟩, fun p k _ hk => by omega⟩
  obtain rfl : p = s := by simpa using hp
  simp [fSet]
theorem LyI.open {t : Tk} {s : Nd} {f : Nd → Option Nat} {now : List Nd} {lv : Nat} (h : LyI t s f now lv) : LyJ t s f now [] lv (fun _ => False) :=
  ⟨h.src, h.rng, h.zero, h.par, fun p k hp => by have := h.lvl p k hp; omega, h.here, fun p => ⟨fun hp => (by cases hp), fun hp => (by have := h.lvl p _ hp; omega)⟩, h.sat, fun p hp => hp.elim⟩
theorem LyJ.close {t : Tk} {s : Nd} {f : Nd → Option Nat} {now next : List Nd} {lv : Nat} {D : Nd → Prop} (h : LyJ t s f now next lv D) (hD : ∀ p ∈ now, D p) : LyI t s f next (lv + 1) := by
  refine ⟨h.src, h.rng, h.zero, h.par, h.lvl, h.nxt, fun p k hp hk q hn => ?_⟩
  by_cases e : k = lv
  · subst e
    obtain ⟨j, hj⟩ := h.dn p (hD p ((h.here p).2 hp)) q hn
    exact ⟨j, hj, h.lvl q j hj⟩
  · exact h.sat p k hp (by omega) q hn
theorem LyJ.weak {t : Tk} {s : Nd} {f : Nd → Option Nat} {now next : List Nd} {lv : Nat} {D D' : Nd → Prop} (h : LyJ t s f now next lv D) (hD : ∀ p, D' p → D p ∨ ∀ q, t.NbP p q → ∃ j, f q = some j) : LyJ t s f now next lv D' :=
  ⟨h.src, h.rng, h.zero, h.par, h.lvl, h.here, h.nxt, h.sat, fun p hp q hn => by
    rcases hD p hp with h1 | h1
    · exact h.dn p h1 q hn
    · exact h1 q hn⟩
theorem LyJ.more {t : Tk} {s n m : Nd} {f : Nd → Option Nat} {now next : List Nd} {lv : Nat} {D : Nd → Prop} (h : LyJ t s f now next lv D) (hk : f n = some lv) (hn : t.NbP n m) (hm : f m = none) : LyJ t s (fSet f m (lv + 1)) now (next ++ [m]) lv D := by
  have old : ∀ {p : Nd} {k : Nat}, f p = some k → fSet f m (lv + 1) p = some k := fun {p k} hp => by
    unfold fSet
    split
    · rename_i e; rw [e, hm] at hp; cases hp
    · exact hp
  have here : fSet f m (lv + 1) m = some (lv + 1) := by simp [fSet]
  have inv : ∀ {p : Nd} {k : Nat}, fSet f m (lv + 1) p = some k → (p = m ∧ k = lv + 1) ∨ f p = some k := fun {p k} hp => by
    unfold fSet at hp
    split at hp
    · rename_i e; cases hp; exact .inl ⟨e, rfl⟩
    · exact .inr hp
  refine ⟨old h.src, fun p k hp => ?_, fun p hp => ?_, fun p k hp => ?_, fun p k hp => ?_, fun p => ⟨fun hp => old ((h.here p).1 hp), fun hp => ?_⟩, fun p => ⟨fun hp => ?_, fun hp => ?_⟩, fun p k hp hlt q hpq => ?_, fun p hp q hpq => ?_⟩
  · rcases inv hp with ⟨rfl, _⟩ | hp
    · exact hn.inP
    · exact h.rng p k hp
  · rcases inv hp with ⟨_, e⟩ | hp
    · omega
    · exact h.zero p hp
  · rcases inv hp with ⟨rfl, e⟩ | hp
    · exact ⟨n, by rw [show k = lv by omega]; exact old hk, hn⟩
    · obtain ⟨q, h1, h2⟩ := h.par p k hp
      exact ⟨q, old h1, h2⟩
  · rcases inv hp with ⟨_, e⟩ | hp
    · omega
    · exact h.lvl p k hp
  · rcases inv hp with ⟨_, e⟩ | hp
    · omega
    · exact (h.here p).2 hp
  · rcases List.mem_append.1 hp with hp | hp
    · exact old ((h.nxt p).1 hp)
    · obtain rfl : p = m := by simpa using hp
      exact here
  · rcases inv hp with ⟨rfl, _⟩ | hp
    · simp
    · exact List.mem_append_left _ ((h.nxt p).2 hp)
  · rcases inv hp with ⟨_, e⟩ | hp
    · omega
    · obtain ⟨j, h1, h2⟩ := h.sat p k hp hlt q hpq
      exact ⟨j, old h1, h2⟩
  · obtain ⟨j, h1⟩ := h.dn p hp q hpq
    exact ⟨j, old h1⟩
theorem LyI.done {t : Tk} {s : Nd} {f : Nd → Option Nat} {lv : Nat} (h : LyI t s f [] lv) : Dst t s f :=
  ⟨h.src, h.rng, h.zero, h.par, fun p k q hp hn => by
    refine h.sat p k hp ?_ q hn
    have h1 := h.lvl p k hp
    have h2 : k ≠ lv := fun e => by
      subst e
      have := (h.here p).2 hp
      cases this
    omega⟩
end Go.Proofs.Ytgjpdjihjphbdaa
