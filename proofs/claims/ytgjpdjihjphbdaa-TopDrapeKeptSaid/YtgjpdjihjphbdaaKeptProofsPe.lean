/- The contract of the reference's steps: distances, layer by layer. -/
import Derived.Test.YtgjpdjihjphbdaaKeptProofsPd
/- Contracts: the neighbours of a node. -/
namespace Go.Proofs.Ytgjpdjihjphbdaa
open Go.RowKit
set_option linter.unusedVariables false
def nbS (t : Tk) (y x : Nat) : Nat → List (Nat × Nat)
  | 0 => if t.rows.contains (y : Int) then (if x + 1 < t.W then [(y, x + 1)] else []) else []
  | 1 => if t.rows.contains (y : Int) then (if 0 < x then [(y, x - 1)] else []) else []
  | 2 => if t.ties.contains (x : Int) then (if y + 1 < t.ter.length then [(y + 1, x)] else []) else []
  | _ => if t.ties.contains (x : Int) then (if 0 < y then [(y - 1, x)] else []) else []
def nbU (t : Tk) (y x i : Nat) : List (Nat × Nat) := (List.range i).flatMap (nbS t y x)
theorem nbU_succ (t : Tk) (y x i : Nat) : nbU t y x (i + 1) = nbU t y x i ++ nbS t y x i := by
  unfold nbU
  rw [List.range_succ, List.flatMap_append]; simp
theorem nbU_four (t : Tk) (y x : Nat) : nbU t y x 4 = t.nbL y x := by
  rw [nbU_succ, nbU_succ, nbU_succ, nbU_succ]
  have h0 : nbU t y x 0 = [] := rfl
  rw [h0, List.nil_append]
  unfold Tk.nbL
  simp only [nbS]
  cases t.rows.contains (y : Int) <;> cases t.ties.contains (x : Int) <;> simp [Tk.H] <;> rfl
abbrev obN (dx dy x y : Int) : MHeap := [⟨0, false, 2, [posI dx dy]⟩, ⟨0, false, 2, [posI (x + dx) (y + dy)]⟩]
def hpN (x y : Int) : Nat → MHeap
  | 0 => []
  | 1 => obN 1 0 x y
  | 2 => obN 1 0 x y ++ obN (-1) 0 x y
  | 3 => obN 1 0 x y ++ obN (-1) 0 x y ++ obN 0 1 x y
  | _ => obN 1 0 x y ++ obN (-1) 0 x y ++ obN 0 1 x y ++ obN 0 (-1) x y
abbrev stepsM : MV := .agg [I64 1, I64 0, I64 (-1), I64 0, I64 0, I64 1, I64 0, I64 (-1)]
theorem mf_neighbours1 : MT.mf 167 = some ⟨64, [], (.seq (.reg [⟨none, some 8, .build [(.lit (.int .i64 0)), (.lit (.int .i64 0))] [(0, (1, (.c (.lit (.int .i64 1)))))]⟩, ⟨none, some 9, .build [(.lit (.int .i64 0)), (.lit (.int .i64 0))] [(0, (1, (.c (.lit (.int .i64 (-1))))))]⟩, ⟨none, some 10, .build [(.lit (.int .i64 0)), (.lit (.int .i64 0))] [(1, (1, (.c (.lit (.int .i64 1)))))]⟩, ⟨none, some 11, .build [(.lit (.int .i64 0)), (.lit (.int .i64 0))] [(1, (1, (.c (.lit (.int .i64 (-1))))))]⟩, ⟨none, some 12, .build [(.lit (.int .i64 0)), (.lit (.int .i64 0)), (.lit (.int .i64 0)), (.lit (.int .i64 0)), (.lit (.int .i64 0)), (.lit (.int .i64 0)), (.lit (.int .i64 0)), (.lit (.int .i64 0))] [(0, (2, (.s 8))), (2, (2, (.s 9))), (4, (2, (.s 10))), (6, (2, (.s 11)))]⟩, ⟨none, some 13, .mv (.c (.lit (.int .i64 0)))⟩]) (.block 0 (.loop [13, 12, 1, 2, 0] (.seq (.reg [⟨none, some 14, .bin .lss (.s 13) (.c (.lit (.int .i64 4)))⟩]) (.seq (.cond (.s 14) .skip (.exit 0)) (.seq (.block 1 (.seq (.reg [⟨none, some 15, .ix (some 2) 2 4 (.s 12) (.s 13)⟩, ⟨none, some 5, .new (.agg [(.lit (.int .i64 0)), (.lit (.int .i64 0))])⟩, ⟨none, none, .st 2 (.s 5) (.s 15)⟩]) (.seq (.reg [⟨none, some 16, .fa 0 (.s 1)⟩, ⟨none, some 17, .ld none (.s 16)⟩, ⟨none, some 18, .fa 0 (.s 5)⟩, ⟨none, some 19, .ld none (.s 18)⟩, ⟨none, some 20, .bin .add (.s 17) (.s 19)⟩, ⟨none, some 21, .fa 1 (.s 1)⟩, ⟨none, some 22, .ld none (.s 21)⟩, ⟨none, some 23, .fa 1 (.s 5)⟩, ⟨none, some 24, .ld none (.s 23)⟩, ⟨none, some 25, .bin .add (.s 22) (.s 24)⟩, ⟨none, some 26, .build [(.lit (.int .i64 0)), (.lit (.int .i64 0))] [(0, (1, (.s 20))), (1, (1, (.s 25)))]⟩, ⟨none, some 6, .new (.agg [(.lit (.int .i64 0)), (.lit (.int .i64 0))])⟩, ⟨none, none, .st 2 (.s 6) (.s 26)⟩]) (.seq (.reg [⟨none, some 27, .fa 0 (.s 5)⟩, ⟨none, some 28, .ld none (.s 27)⟩, ⟨none, some 29, .bin .neq (.s 28) (.c (.lit (.int .i64 0)))⟩, ⟨none, some 30, .mv (.s 29)⟩, ⟨some (30, true), some 31, .fa 7 (.s 2)⟩, ⟨some (30, true), some 32, .ld none (.s 31)⟩, ⟨some (30, true), some 33, .fa 1 (.s 1)⟩, ⟨some (30, true), some 34, .ld none (.s 33)⟩, ⟨some (30, true), some 35, .ia 1 (.s 32) (.s 34)⟩, ⟨some (30, true), some 36, .ld none (.s 35)⟩, ⟨none, some 37, .pick (.s 30) (.s 36) (.c (.lit (.bool false)))⟩, ⟨none, some 38, .mv (.s 37)⟩, ⟨some (38, false), some 39, .fa 1 (.s 5)⟩, ⟨some (38, false), some 40, .ld none (.s 39)⟩, ⟨some (38, false), some 41, .bin .neq (.s 40) (.c (.lit (.int .i64 0)))⟩, ⟨some (38, false), some 42, .mv (.s 41)⟩, ⟨some (42, true), some 43, .fa 8 (.s 2)⟩, ⟨some (42, true), some 44, .ld none (.s 43)⟩, ⟨some (42, true), some 45, .fa 0 (.s 1)⟩, ⟨some (42, true), some 46, .ld none (.s 45)⟩, ⟨some (42, true), some 47, .ia 1 (.s 44) (.s 46)⟩, ⟨some (42, true), some 48, .ld none (.s 47)⟩, ⟨some (38, false), some 49, .pick (.s 42) (.s 48) (.c (.lit (.bool false)))⟩, ⟨none, some 50, .pick (.s 38) (.c (.lit (.bool true))) (.s 49)⟩, ⟨none, some 7, .mv (.s 50)⟩]) (.seq (.reg [⟨none, some 51, .mv (.s 7)⟩, ⟨none, some 52, .mv (.s 51)⟩, ⟨some (52, true), some 53, .ld (some 9) (.s 2)⟩, ⟨some (52, true), some 54, .ld (some 2) (.s 6)⟩, ⟨some (52, true), some 55, .call 155 [.s 53, .s 54]⟩, ⟨none, some 56, .pick (.s 52) (.s 55) (.c (.lit (.bool false)))⟩, ⟨none, some 57, .mv (.s 56)⟩, ⟨some (57, true), some 58, .mv (.s 0)⟩, ⟨some (57, true), some 59, .ld (some 2) (.s 6)⟩, ⟨some (57, true), some 60, .callv (.s 58) [.s 59]⟩, ⟨some (57, true), some 61, .un .not (.s 60)⟩, ⟨none, some 62, .pick (.s 57) (.s 61) (.c (.lit (.bool false)))⟩]) (.cond (.s 62) .ret .skip)))))) (.reg [⟨none, some 63, .bin .add (.s 13) (.c (.lit (.int .i64 1)))⟩, ⟨none, some 13, .mv (.s 63)⟩])))))))⟩ := by kernel_rfl
set_option maxHeartbeats 2000000 in
theorem neighbours1_it (k : Nat) (t : Tk) (ok : OkT t) {y x : Nat} (hy : y < t.ter.length) (hx : x < t.W) (h : MHeap) : itA (k + 2) 167 0 [.rp (posM (y, x)) 0, .rp (encO t) 0] h = some (posY (t.nbL y x)) := by
  obtain ⟨h1, h2⟩ := ok.h1
  obtain ⟨w1, w2⟩ := ok.w1
  have hlt := encO_lt t 0
  have e1 : (bRow t.ter.length t.rows)[((y : Nat) : Int).toNat]? = some (Bo (t.rows.contains (y : Int))) := bRow_at hy
  have e2 : (bRow t.W t.ties)[((x : Nat) : Int).toNat]? = some (Bo (t.ties.contains (x : Int))) := bRow_at hx
  refine itA_of mf_neighbours1 (by kernel_rfl) (itM_of (cs := [.rp (posM (y, x)) 0, .rp (encO t) 0]) (by simp only [List.mapM_cons, List.mapM_nil]; simp [frz, MV.lt, ltL, ltL_I, ltL_W, ltL_B]) (by simp) ?_ ?_)
  · show EfI _ _ _ _ (argsL 0 [.yld, .rp (posM (y, x)) 0, .rp (encO t) 0]) _ _ _ _ _
    simp only [argsL]
    repeat (first | apply efi_seq | apply efi_block | apply seqI.normal | (apply efi_reg; exact rfl) | (apply ef_mv; exact rfl; exact rfl) | (apply ef_build; exact rfl; (repeat (apply XVs.cons; exact rfl)); exact XVs.nil; exact rfl; exact rfl) | apply ef_nil)
    refine efi_loop (α := Nat × Nat) (fun s => s.1 ≤ 4 ∧ s.2 ≤ 2 * s.1) (fun s => [(13, I64 (s.1 : Int)), (12, stepsM), (1, .rp (posM (y, x)) 0), (2, .rp (encO t) 0), (0, .yld)]) (fun s => hpN (x : Int) (y : Int) s.1) (fun s => s.2) (fun s => posY (nbU t y x s.1)) (fun s => 4 - s.1) (0, 0) (by simp) (by simp) (by ((repeat (refine Hold.cons (by exact rfl) ?_)); exact Hold.nil)) rfl rfl rfl ?_
    rintro ⟨i, ln⟩ ⟨hi, hln⟩
    simp only at hi hln ⊢
    match i, hi, hln with
    | 0, hi, hln =>
      have HS := nbU_succ t y x 0
      have hS : nbS t y x 0 = if t.rows.contains (y : Int) then (if x + 1 < t.W then [(y, x + 1)] else []) else [] := rfl
      generalize hp : t.rows.contains (y : Int) = b at *
      repeat (first | apply efi_seq | apply efi_block | apply efi_skip | apply seqI.normal | (apply efi_reg; exact rfl) | (apply efi_condt; exact rfl; (exact rfl)) | (apply ef_bin; exact rfl; exact rfl; exact rfl; (exact cmp_t rfl (by first | exact rfl | (simp only [cmpP]; omega)))) | apply ef_nil)
      (apply ef_ix; (· exact rfl); (· exact rfl); (· exact rfl); (· omega); (· omega); (· exact rd_2 rfl rfl))
      repeat (first | (apply ef_new; exact rfl))
      try (apply ef_st; (· exact rfl); (· exact rfl); (· exact rfl); (· exact rfl); (· exact rfl); (· exact decide_eq_false (by show ¬ 0 < ln; omega)); (· exact rfl); (· exact rfl))
      repeat (first | apply efi_seq | apply seqI.normal | (apply efi_reg; exact rfl) | (apply ef_bin; exact rfl; exact rfl; exact rfl; (((with_reducible refine bin_add (wrap_of ?_ ?_)) <;> omega))) | (apply ef_ldr; exact rfl; exact rfl; (exact rfl)) | (apply ef_ldp; exact rfl; exact rfl; exact rfl; exact rfl; (exact rfl); (exact rfl)) | (apply ef_fap; exact rfl; exact rfl) | (apply ef_far; exact rfl; exact rfl) | (apply ef_new; exact rfl) | (apply ef_build; exact rfl; (repeat (apply XVs.cons; exact rfl)); exact XVs.nil; exact rfl; exact rfl) | apply ef_nil)
      try (apply ef_st; (· exact rfl); (· exact rfl); (· exact rfl); (· exact rfl); (· exact rfl); (· exact decide_eq_false (by show ¬ 1 < ln; omega)); (· exact rfl); (· exact rfl))
      cases b
      · rw [show nbS t y x 0 = [] from hS, List.append_nil] at HS
        repeat (first | apply efi_seq | apply efi_skip | apply seqI.normal | apply blockI.normal | (apply efi_reg; exact rfl) | (apply efi_regy; exact rfl) | apply efy_nil | (apply efy_op; exact rfl) | (apply efy_skip; exact rfl; exact rfl; exact rfl) | (apply efi_condf; exact rfl; (exact rfl)) | (apply ef_mv; exact rfl; exact rfl) | (apply ef_bin; exact rfl; exact rfl; exact rfl; (first | exact cmp_t rfl (by first | exact rfl | (simp only [cmpP]; omega)) | exact cmp_f rfl (by simp only [cmpP]; omega) | ((with_reducible refine bin_add (wrap_of ?_ ?_)) <;> omega))) | (apply ef_gy; exact rfl; (first | exact (rfl : true = true) | exact (rfl : false = false))) | (apply ef_gn; exact rfl; (exact (rfl : false = false)); exact rfl) | (apply ef_pick; exact rfl; exact rfl; exact rfl) | (apply ef_ldr; exact rfl; exact rfl; (exact rfl)) | (apply ef_ldp; exact rfl; exact rfl; exact rfl; exact rfl; (exact rfl); (exact rfl)) | (apply ef_ias; exact rfl; exact rfl; exact rfl; (omega); assumption; exact rfl) | (apply ef_fap; exact rfl; exact rfl) | (apply ef_far; exact rfl; exact rfl) | apply ef_nil)
        (refine loopI.normal _ _ _ _ _ ⟨rfl, (0 + 1, ln), ⟨by simp only; omega, by first | (simp only; omega) | omega⟩, (by first | (simp only; omega) | omega), by ((repeat (refine Hold.cons (by exact rfl) ?_)); exact Hold.nil), rfl, rfl, (by rw [HS])⟩)
      · by_cases hc : x + 1 < t.W
        · have hn := fun h => isNode_c k t ((x : Int) + 1) ((y : Int) + 0) h (b := true) (by omega) (by omega) (by rw [Bool.and_eq_true, inB_iff, inB_iff]; omega)
          have hq : posI ((x : Int) + 1) ((y : Int) + 0) = posM (y, x + 1) := by
            rw [show ((x : Int) + 1) = (((y, x + 1).2 : Nat) : Int) by simp only; omega, show ((y : Int) + 0) = (((y, x + 1).1 : Nat) : Int) by simp only; omega]
          rw [if_pos rfl, if_pos hc] at hS
          rw [hS] at HS
          repeat (first | apply efi_seq | apply seqI.normal | (apply efi_reg; exact rfl) | (apply efi_regy; exact rfl) | (apply efy_op; exact rfl) | (apply ef_mv; exact rfl; exact rfl) | (apply ef_bin; exact rfl; exact rfl; exact rfl; (exact cmp_t rfl (by first | exact rfl | (simp only [cmpP]; omega)))) | (apply ef_gy; exact rfl; (exact (rfl : true = true))) | (apply ef_gn; exact rfl; (exact (rfl : true = true)); exact rfl) | (apply ef_gu; exact rfl; exact rfl) | (apply ef_pick; exact rfl; exact rfl; exact rfl) | (apply ef_ldr; exact rfl; exact rfl; (first | exact rd_whole rfl | exact rfl)) | (apply ef_ldp; exact rfl; exact rfl; exact rfl; exact rfl; (exact rfl); (first | exact rd_2 rfl rfl | exact rfl)) | (apply ef_ias; exact rfl; exact rfl; exact rfl; (omega); assumption; exact rfl) | (apply ef_fap; exact rfl; exact rfl) | (apply ef_far; exact rfl; exact rfl) | apply ef_nil | (apply ef_call; exact rfl; ((repeat (apply XVs.cons; exact rfl)); exact XVs.nil); (with_reducible exact hn _)))
          (apply efy_yield; (· exact rfl); (· exact rfl); (· exact rfl); (· ((repeat (apply XVs.cons; exact rfl)); exact XVs.nil)); (· exact rfl))
          · repeat (first | apply efi_skip | apply seqI.normal | apply blockI.normal | (apply efi_reg; exact rfl) | apply efy_nil | (apply efy_op; exact rfl) | (apply efi_condf; exact rfl; (exact rfl)) | (apply ef_mv; exact rfl; exact rfl) | (apply ef_bin; exact rfl; exact rfl; exact rfl; (((with_reducible refine bin_add (wrap_of ?_ ?_)) <;> omega))) | (apply ef_gy; exact rfl; (exact (rfl : true = true))) | (apply ef_pick; exact rfl; exact rfl; exact rfl) | (apply ef_notT; exact rfl; exact rfl) | apply ef_nil)
            (refine loopI.normal _ _ _ _ _ ⟨rfl, (0 + 1, 2 * (0 + 1)), ⟨by simp only; omega, by first | (simp only; omega) | omega⟩, (by first | (simp only; omega) | omega), by ((repeat (refine Hold.cons (by exact rfl) ?_)); exact Hold.nil), rfl, rfl, (by rw [HS, posY_app]; simp only [posY, List.map_cons, List.map_nil]; rw [← hq])⟩)
          · repeat (first | apply efi_ret | apply seqI.normal | apply seqI.ret | apply blockI.ret | apply efy_nil | (apply efy_op; exact rfl) | (apply efi_condt; exact rfl; (exact rfl)) | apply loopI.ret | (apply ef_gy; exact rfl; (exact (rfl : true = true))) | (apply ef_pick; exact rfl; exact rfl; exact rfl) | (apply ef_notF; exact rfl; exact rfl) | apply ef_nil)
            exact finI_stop rfl
        · have hn := fun h => isNode_c k t ((x : Int) + 1) ((y : Int) + 0) h (b := false) (by omega) (by omega) (by rw [Bool.eq_false_iff, ne_eq, Bool.and_eq_true, inB_iff, inB_iff]; omega)
          rw [if_pos rfl, if_neg hc] at hS
          rw [hS, List.append_nil] at HS
          repeat (first | apply efi_seq | apply efi_skip | apply seqI.normal | apply blockI.normal | (apply efi_reg; exact rfl) | (apply efi_regy; exact rfl) | apply efy_nil | (apply efy_op; exact rfl) | (apply efy_skip; exact rfl; exact rfl; exact rfl) | (apply efi_condf; exact rfl; (exact rfl)) | (apply ef_mv; exact rfl; exact rfl) | (apply ef_bin; exact rfl; exact rfl; exact rfl; (first | exact cmp_t rfl (by first | exact rfl | (simp only [cmpP]; omega)) | ((with_reducible refine bin_add (wrap_of ?_ ?_)) <;> omega))) | (apply ef_gy; exact rfl; (exact (rfl : true = true))) | (apply ef_gn; exact rfl; (first | exact (rfl : true = true) | exact (rfl : false = false)); exact rfl) | (apply ef_gu; exact rfl; exact rfl) | (apply ef_pick; exact rfl; exact rfl; exact rfl) | (apply ef_ldr; exact rfl; exact rfl; (first | exact rd_whole rfl | exact rfl)) | (apply ef_ldp; exact rfl; exact rfl; exact rfl; exact rfl; (exact rfl); (first | exact rd_2 rfl rfl | exact rfl)) | (apply ef_ias; exact rfl; exact rfl; exact rfl; (omega); assumption; exact rfl) | (apply ef_fap; exact rfl; exact rfl) | (apply ef_far; exact rfl; exact rfl) | apply ef_nil | (apply ef_call; exact rfl; ((repeat (apply XVs.cons; exact rfl)); exact XVs.nil); (with_reducible exact hn _)))
          (refine loopI.normal _ _ _ _ _ ⟨rfl, (0 + 1, ln), ⟨by simp only; omega, by first | (simp only; omega) | omega⟩, (by first | (simp only; omega) | omega), by ((repeat (refine Hold.cons (by exact rfl) ?_)); exact Hold.nil), rfl, rfl, (by rw [HS])⟩)
    | 1, hi, hln =>
      have HS := nbU_succ t y x 1
      have hS : nbS t y x 1 = if t.rows.contains (y : Int) then (if 0 < x then [(y, x - 1)] else []) else [] := rfl
      generalize hp : t.rows.contains (y : Int) = b at *
      repeat (first | apply efi_seq | apply efi_block | apply efi_skip | apply seqI.normal | (apply efi_reg; exact rfl) | (apply efi_condt; exact rfl; (exact rfl)) | (apply ef_bin; exact rfl; exact rfl; exact rfl; (exact cmp_t rfl (by first | exact rfl | (simp only [cmpP]; omega)))) | apply ef_nil)
      (apply ef_ix; (· exact rfl); (· exact rfl); (· exact rfl); (· omega); (· omega); (· exact rd_2 rfl rfl))
      repeat (first | (apply ef_new; exact rfl))
      try (apply ef_st; (· exact rfl); (· exact rfl); (· exact rfl); (· exact rfl); (· exact rfl); (· exact decide_eq_false (by show ¬ 2 < ln; omega)); (· exact rfl); (· exact rfl))
      repeat (first | apply efi_seq | apply seqI.normal | (apply efi_reg; exact rfl) | (apply ef_bin; exact rfl; exact rfl; exact rfl; (((with_reducible refine bin_add (wrap_of ?_ ?_)) <;> omega))) | (apply ef_ldr; exact rfl; exact rfl; (exact rfl)) | (apply ef_ldp; exact rfl; exact rfl; exact rfl; exact rfl; (exact rfl); (exact rfl)) | (apply ef_fap; exact rfl; exact rfl) | (apply ef_far; exact rfl; exact rfl) | (apply ef_new; exact rfl) | (apply ef_build; exact rfl; (repeat (apply XVs.cons; exact rfl)); exact XVs.nil; exact rfl; exact rfl) | apply ef_nil)
      try (apply ef_st; (· exact rfl); (· exact rfl); (· exact rfl); (· exact rfl); (· exact rfl); (· exact decide_eq_false (by show ¬ 3 < ln; omega)); (· exact rfl); (· exact rfl))
      cases b
      · rw [show nbS t y x 1 = [] from hS, List.append_nil] at HS
        repeat (first | apply efi_seq | apply efi_skip | apply seqI.normal | apply blockI.normal | (apply efi_reg; exact rfl) | (apply efi_regy; exact rfl) | apply efy_nil | (apply efy_op; exact rfl) | (apply efy_skip; exact rfl; exact rfl; exact rfl) | (apply efi_condf; exact rfl; (exact rfl)) | (apply ef_mv; exact rfl; exact rfl) | (apply ef_bin; exact rfl; exact rfl; exact rfl; (first | exact cmp_t rfl (by first | exact rfl | (simp only [cmpP]; omega)) | exact cmp_f rfl (by simp only [cmpP]; omega) | ((with_reducible refine bin_add (wrap_of ?_ ?_)) <;> omega))) | (apply ef_gy; exact rfl; (first | exact (rfl : true = true) | exact (rfl : false = false))) | (apply ef_gn; exact rfl; (exact (rfl : false = false)); exact rfl) | (apply ef_pick; exact rfl; exact rfl; exact rfl) | (apply ef_ldr; exact rfl; exact rfl; (exact rfl)) | (apply ef_ldp; exact rfl; exact rfl; exact rfl; exact rfl; (exact rfl); (exact rfl)) | (apply ef_ias; exact rfl; exact rfl; exact rfl; (omega); assumption; exact rfl) | (apply ef_fap; exact rfl; exact rfl) | (apply ef_far; exact rfl; exact rfl) | apply ef_nil)
        (refine loopI.normal _ _ _ _ _ ⟨rfl, (1 + 1, ln), ⟨by simp only; omega, by first | (simp only; omega) | omega⟩, (by first | (simp only; omega) | omega), by ((repeat (refine Hold.cons (by exact rfl) ?_)); exact Hold.nil), rfl, rfl, (by rw [HS])⟩)
      · by_cases hc : 0 < x
        · have hn := fun h => isNode_c k t ((x : Int) + (-1)) ((y : Int) + 0) h (b := true) (by omega) (by omega) (by rw [Bool.and_eq_true, inB_iff, inB_iff]; omega)
          have hq : posI ((x : Int) + (-1)) ((y : Int) + 0) = posM (y, x - 1) := by
            rw [show ((x : Int) + (-1)) = (((y, x - 1).2 : Nat) : Int) by simp only; omega, show ((y : Int) + 0) = (((y, x - 1).1 : Nat) : Int) by simp only; omega]
          rw [if_pos rfl, if_pos hc] at hS
          rw [hS] at HS
          repeat (first | apply efi_seq | apply seqI.normal | (apply efi_reg; exact rfl) | (apply efi_regy; exact rfl) | (apply efy_op; exact rfl) | (apply ef_mv; exact rfl; exact rfl) | (apply ef_bin; exact rfl; exact rfl; exact rfl; (exact cmp_t rfl (by first | exact rfl | (simp only [cmpP]; omega)))) | (apply ef_gy; exact rfl; (exact (rfl : true = true))) | (apply ef_gn; exact rfl; (exact (rfl : true = true)); exact rfl) | (apply ef_gu; exact rfl; exact rfl) | (apply ef_pick; exact rfl; exact rfl; exact rfl) | (apply ef_ldr; exact rfl; exact rfl; (first | exact rd_whole rfl | exact rfl)) | (apply ef_ldp; exact rfl; exact rfl; exact rfl; exact rfl; (exact rfl); (first | exact rd_2 rfl rfl | exact rfl)) | (apply ef_ias; exact rfl; exact rfl; exact rfl; (omega); assumption; exact rfl) | (apply ef_fap; exact rfl; exact rfl) | (apply ef_far; exact rfl; exact rfl) | apply ef_nil | (apply ef_call; exact rfl; ((repeat (apply XVs.cons; exact rfl)); exact XVs.nil); (with_reducible exact hn _)))
          (apply efy_yield; (· exact rfl); (· exact rfl); (· exact rfl); (· ((repeat (apply XVs.cons; exact rfl)); exact XVs.nil)); (· exact rfl))
          · repeat (first | apply efi_skip | apply seqI.normal | apply blockI.normal | (apply efi_reg; exact rfl) | apply efy_nil | (apply efy_op; exact rfl) | (apply efi_condf; exact rfl; (exact rfl)) | (apply ef_mv; exact rfl; exact rfl) | (apply ef_bin; exact rfl; exact rfl; exact rfl; (((with_reducible refine bin_add (wrap_of ?_ ?_)) <;> omega))) | (apply ef_gy; exact rfl; (exact (rfl : true = true))) | (apply ef_pick; exact rfl; exact rfl; exact rfl) | (apply ef_notT; exact rfl; exact rfl) | apply ef_nil)
            (refine loopI.normal _ _ _ _ _ ⟨rfl, (1 + 1, 2 * (1 + 1)), ⟨by simp only; omega, by first | (simp only; omega) | omega⟩, (by first | (simp only; omega) | omega), by ((repeat (refine Hold.cons (by exact rfl) ?_)); exact Hold.nil), rfl, rfl, (by rw [HS, posY_app]; simp only [posY, List.map_cons, List.map_nil]; rw [← hq])⟩)
          · repeat (first | apply efi_ret | apply seqI.normal | apply seqI.ret | apply blockI.ret | apply efy_nil | (apply efy_op; exact rfl) | (apply efi_condt; exact rfl; (exact rfl)) | apply loopI.ret | (apply ef_gy; exact rfl; (exact (rfl : true = true))) | (apply ef_pick; exact rfl; exact rfl; exact rfl) | (apply ef_notF; exact rfl; exact rfl) | apply ef_nil)
            exact finI_stop rfl
        · have hn := fun h => isNode_c k t ((x : Int) + (-1)) ((y : Int) + 0) h (b := false) (by omega) (by omega) (by rw [Bool.eq_false_iff, ne_eq, Bool.and_eq_true, inB_iff, inB_iff]; omega)
          rw [if_pos rfl, if_neg hc] at hS
          rw [hS, List.append_nil] at HS
          repeat (first | apply efi_seq | apply efi_skip | apply seqI.normal | apply blockI.normal | (apply efi_reg; exact rfl) | (apply efi_regy; exact rfl) | apply efy_nil | (apply efy_op; exact rfl) | (apply efy_skip; exact rfl; exact rfl; exact rfl) | (apply efi_condf; exact rfl; (exact rfl)) | (apply ef_mv; exact rfl; exact rfl) | (apply ef_bin; exact rfl; exact rfl; exact rfl; (first | exact cmp_t rfl (by first | exact rfl | (simp only [cmpP]; omega)) | ((with_reducible refine bin_add (wrap_of ?_ ?_)) <;> omega))) | (apply ef_gy; exact rfl; (exact (rfl : true = true))) | (apply ef_gn; exact rfl; (first | exact (rfl : true = true) | exact (rfl : false = false)); exact rfl) | (apply ef_gu; exact rfl; exact rfl) | (apply ef_pick; exact rfl; exact rfl; exact rfl) | (apply ef_ldr; exact rfl; exact rfl; (first | exact rd_whole rfl | exact rfl)) | (apply ef_ldp; exact rfl; exact rfl; exact rfl; exact rfl; (exact rfl); (first | exact rd_2 rfl rfl | exact rfl)) | (apply ef_ias; exact rfl; exact rfl; exact rfl; (omega); assumption; exact rfl) | (apply ef_fap; exact rfl; exact rfl) | (apply ef_far; exact rfl; exact rfl) | apply ef_nil | (apply ef_call; exact rfl; ((repeat (apply XVs.cons; exact rfl)); exact XVs.nil); (with_reducible exact hn _)))
          (refine loopI.normal _ _ _ _ _ ⟨rfl, (1 + 1, ln), ⟨by simp only; omega, by first | (simp only; omega) | omega⟩, (by first | (simp only; omega) | omega), by ((repeat (refine Hold.cons (by exact rfl) ?_)); exact Hold.nil), rfl, rfl, (by rw [HS])⟩)
    | 2, hi, hln =>
      have HS := nbU_succ t y x 2
      have hS : nbS t y x 2 = if t.ties.contains (x : Int) then (if y + 1 < t.ter.length then [(y + 1, x)] else []) else [] := rfl
      generalize hp : t.ties.contains (x : Int) = b at *
      repeat (first | apply efi_seq | apply efi_block | apply efi_skip | apply seqI.normal | (apply efi_reg; exact rfl) | (apply efi_condt; exact rfl; (exact rfl)) | (apply ef_bin; exact rfl; exact rfl; exact rfl; (exact cmp_t rfl (by first | exact rfl | (simp only [cmpP]; omega)))) | apply ef_nil)
      (apply ef_ix; (· exact rfl); (· exact rfl); (· exact rfl); (· omega); (· omega); (· exact rd_2 rfl rfl))
      repeat (first | (apply ef_new; exact rfl))
      try (apply ef_st; (· exact rfl); (· exact rfl); (· exact rfl); (· exact rfl); (· exact rfl); (· exact decide_eq_false (by show ¬ 4 < ln; omega)); (· exact rfl); (· exact rfl))
      repeat (first | apply efi_seq | apply seqI.normal | (apply efi_reg; exact rfl) | (apply ef_bin; exact rfl; exact rfl; exact rfl; (((with_reducible refine bin_add (wrap_of ?_ ?_)) <;> omega))) | (apply ef_ldr; exact rfl; exact rfl; (exact rfl)) | (apply ef_ldp; exact rfl; exact rfl; exact rfl; exact rfl; (exact rfl); (exact rfl)) | (apply ef_fap; exact rfl; exact rfl) | (apply ef_far; exact rfl; exact rfl) | (apply ef_new; exact rfl) | (apply ef_build; exact rfl; (repeat (apply XVs.cons; exact rfl)); exact XVs.nil; exact rfl; exact rfl) | apply ef_nil)
      try (apply ef_st; (· exact rfl); (· exact rfl); (· exact rfl); (· exact rfl); (· exact rfl); (· exact decide_eq_false (by show ¬ 5 < ln; omega)); (· exact rfl); (· exact rfl))
      cases b
      · rw [show nbS t y x 2 = [] from hS, List.append_nil] at HS
        repeat (first | apply efi_seq | apply efi_skip | apply seqI.normal | apply blockI.normal | (apply efi_reg; exact rfl) | (apply efi_regy; exact rfl) | apply efy_nil | (apply efy_op; exact rfl) | (apply efy_skip; exact rfl; exact rfl; exact rfl) | (apply efi_condf; exact rfl; (exact rfl)) | (apply ef_mv; exact rfl; exact rfl) | (apply ef_bin; exact rfl; exact rfl; exact rfl; (first | exact cmp_t rfl (by first | exact rfl | (simp only [cmpP]; omega)) | exact cmp_f rfl (by simp only [cmpP]; omega) | ((with_reducible refine bin_add (wrap_of ?_ ?_)) <;> omega))) | (apply ef_gy; exact rfl; (first | exact (rfl : true = true) | exact (rfl : false = false))) | (apply ef_gn; exact rfl; (exact (rfl : false = false)); exact rfl) | (apply ef_pick; exact rfl; exact rfl; exact rfl) | (apply ef_ldr; exact rfl; exact rfl; (exact rfl)) | (apply ef_ldp; exact rfl; exact rfl; exact rfl; exact rfl; (exact rfl); (exact rfl)) | (apply ef_ias; exact rfl; exact rfl; exact rfl; (omega); assumption; exact rfl) | (apply ef_fap; exact rfl; exact rfl) | (apply ef_far; exact rfl; exact rfl) | apply ef_nil)
        (refine loopI.normal _ _ _ _ _ ⟨rfl, (2 + 1, ln), ⟨by simp only; omega, by first | (simp only; omega) | omega⟩, (by first | (simp only; omega) | omega), by ((repeat (refine Hold.cons (by exact rfl) ?_)); exact Hold.nil), rfl, rfl, (by rw [HS])⟩)
      · by_cases hc : y + 1 < t.ter.length
        · have hn := fun h => isNode_c k t ((x : Int) + 0) ((y : Int) + 1) h (b := true) (by omega) (by omega) (by rw [Bool.and_eq_true, inB_iff, inB_iff]; omega)
          have hq : posI ((x : Int) + 0) ((y : Int) + 1) = posM (y + 1, x) := by
            rw [show ((x : Int) + 0) = (((y + 1, x).2 : Nat) : Int) by simp only; omega, show ((y : Int) + 1) = (((y + 1, x).1 : Nat) : Int) by simp only; omega]
          rw [if_pos rfl, if_pos hc] at hS
          rw [hS] at HS
          repeat (first | apply efi_seq | apply seqI.normal | (apply efi_reg; exact rfl) | (apply efi_regy; exact rfl) | (apply efy_op; exact rfl) | (apply ef_mv; exact rfl; exact rfl) | (apply ef_bin; exact rfl; exact rfl; exact rfl; (first | exact cmp_t rfl (by first | exact rfl | (simp only [cmpP]; omega)) | exact cmp_f rfl (by simp only [cmpP]; omega))) | (apply ef_gy; exact rfl; (first | exact (rfl : true = true) | exact (rfl : false = false))) | (apply ef_gn; exact rfl; (exact (rfl : false = false)); exact rfl) | (apply ef_pick; exact rfl; exact rfl; exact rfl) | (apply ef_ldr; exact rfl; exact rfl; (first | exact rd_whole rfl | exact rfl)) | (apply ef_ldp; exact rfl; exact rfl; exact rfl; exact rfl; (exact rfl); (first | exact rd_2 rfl rfl | exact rfl)) | (apply ef_ias; exact rfl; exact rfl; exact rfl; (omega); assumption; exact rfl) | (apply ef_fap; exact rfl; exact rfl) | (apply ef_far; exact rfl; exact rfl) | apply ef_nil | (apply ef_call; exact rfl; ((repeat (apply XVs.cons; exact rfl)); exact XVs.nil); (with_reducible exact hn _)))
          (apply efy_yield; (· exact rfl); (· exact rfl); (· exact rfl); (· ((repeat (apply XVs.cons; exact rfl)); exact XVs.nil)); (· exact rfl))
          · repeat (first | apply efi_skip | apply seqI.normal | apply blockI.normal | (apply efi_reg; exact rfl) | apply efy_nil | (apply efy_op; exact rfl) | (apply efi_condf; exact rfl; (exact rfl)) | (apply ef_mv; exact rfl; exact rfl) | (apply ef_bin; exact rfl; exact rfl; exact rfl; (((with_reducible refine bin_add (wrap_of ?_ ?_)) <;> omega))) | (apply ef_gy; exact rfl; (exact (rfl : true = true))) | (apply ef_pick; exact rfl; exact rfl; exact rfl) | (apply ef_notT; exact rfl; exact rfl) | apply ef_nil)
            (refine loopI.normal _ _ _ _ _ ⟨rfl, (2 + 1, 2 * (2 + 1)), ⟨by simp only; omega, by first | (simp only; omega) | omega⟩, (by first | (simp only; omega) | omega), by ((repeat (refine Hold.cons (by exact rfl) ?_)); exact Hold.nil), rfl, rfl, (by rw [HS, posY_app]; simp only [posY, List.map_cons, List.map_nil]; rw [← hq])⟩)
          · repeat (first | apply efi_ret | apply seqI.normal | apply seqI.ret | apply blockI.ret | apply efy_nil | (apply efy_op; exact rfl) | (apply efi_condt; exact rfl; (exact rfl)) | apply loopI.ret | (apply ef_gy; exact rfl; (exact (rfl : true = true))) | (apply ef_pick; exact rfl; exact rfl; exact rfl) | (apply ef_notF; exact rfl; exact rfl) | apply ef_nil)
            exact finI_stop rfl
        · have hn := fun h => isNode_c k t ((x : Int) + 0) ((y : Int) + 1) h (b := false) (by omega) (by omega) (by rw [Bool.eq_false_iff, ne_eq, Bool.and_eq_true, inB_iff, inB_iff]; omega)
          rw [if_pos rfl, if_neg hc] at hS
          rw [hS, List.append_nil] at HS
          repeat (first | apply efi_seq | apply efi_skip | apply seqI.normal | apply blockI.normal | (apply efi_reg; exact rfl) | (apply efi_regy; exact rfl) | apply efy_nil | (apply efy_op; exact rfl) | (apply efy_skip; exact rfl; exact rfl; exact rfl) | (apply efi_condf; exact rfl; (exact rfl)) | (apply ef_mv; exact rfl; exact rfl) | (apply ef_bin; exact rfl; exact rfl; exact rfl; (first | exact cmp_t rfl (by first | exact rfl | (simp only [cmpP]; omega)) | exact cmp_f rfl (by simp only [cmpP]; omega) | ((with_reducible refine bin_add (wrap_of ?_ ?_)) <;> omega))) | (apply ef_gy; exact rfl; (first | exact (rfl : true = true) | exact (rfl : false = false))) | (apply ef_gn; exact rfl; (exact (rfl : false = false)); exact rfl) | (apply ef_pick; exact rfl; exact rfl; exact rfl) | (apply ef_ldr; exact rfl; exact rfl; (first | exact rd_whole rfl | exact rfl)) | (apply ef_ldp; exact rfl; exact rfl; exact rfl; exact rfl; (exact rfl); (first | exact rd_2 rfl rfl | exact rfl)) | (apply ef_ias; exact rfl; exact rfl; exact rfl; (omega); assumption; exact rfl) | (apply ef_fap; exact rfl; exact rfl) | (apply ef_far; exact rfl; exact rfl) | apply ef_nil | (apply ef_call; exact rfl; ((repeat (apply XVs.cons; exact rfl)); exact XVs.nil); (with_reducible exact hn _)))
          (refine loopI.normal _ _ _ _ _ ⟨rfl, (2 + 1, ln), ⟨by simp only; omega, by first | (simp only; omega) | omega⟩, (by first | (simp only; omega) | omega), by ((repeat (refine Hold.cons (by exact rfl) ?_)); exact Hold.nil), rfl, rfl, (by rw [HS])⟩)
    | 3, hi, hln =>
      have HS := nbU_succ t y x 3
      have hS : nbS t y x 3 = if t.ties.contains (x : Int) then (if 0 < y then [(y - 1, x)] else []) else [] := rfl
      generalize hp : t.ties.contains (x : Int) = b at *
      repeat (first | apply efi_seq | apply efi_block | apply efi_skip | apply seqI.normal | (apply efi_reg; exact rfl) | (apply efi_condt; exact rfl; (exact rfl)) | (apply ef_bin; exact rfl; exact rfl; exact rfl; (exact cmp_t rfl (by first | exact rfl | (simp only [cmpP]; omega)))) | apply ef_nil)
      (apply ef_ix; (· exact rfl); (· exact rfl); (· exact rfl); (· omega); (· omega); (· exact rd_2 rfl rfl))
      repeat (first | (apply ef_new; exact rfl))
      try (apply ef_st; (· exact rfl); (· exact rfl); (· exact rfl); (· exact rfl); (· exact rfl); (· exact decide_eq_false (by show ¬ 6 < ln; omega)); (· exact rfl); (· exact rfl))
      repeat (first | apply efi_seq | apply seqI.normal | (apply efi_reg; exact rfl) | (apply ef_bin; exact rfl; exact rfl; exact rfl; (((with_reducible refine bin_add (wrap_of ?_ ?_)) <;> omega))) | (apply ef_ldr; exact rfl; exact rfl; (exact rfl)) | (apply ef_ldp; exact rfl; exact rfl; exact rfl; exact rfl; (exact rfl); (exact rfl)) | (apply ef_fap; exact rfl; exact rfl) | (apply ef_far; exact rfl; exact rfl) | (apply ef_new; exact rfl) | (apply ef_build; exact rfl; (repeat (apply XVs.cons; exact rfl)); exact XVs.nil; exact rfl; exact rfl) | apply ef_nil)
      try (apply ef_st; (· exact rfl); (· exact rfl); (· exact rfl); (· exact rfl); (· exact rfl); (· exact decide_eq_false (by show ¬ 7 < ln; omega)); (· exact rfl); (· exact rfl))
      cases b
      · rw [show nbS t y x 3 = [] from hS, List.append_nil] at HS
        repeat (first | apply efi_seq | apply efi_skip | apply seqI.normal | apply blockI.normal | (apply efi_reg; exact rfl) | (apply efi_regy; exact rfl) | apply efy_nil | (apply efy_op; exact rfl) | (apply efy_skip; exact rfl; exact rfl; exact rfl) | (apply efi_condf; exact rfl; (exact rfl)) | (apply ef_mv; exact rfl; exact rfl) | (apply ef_bin; exact rfl; exact rfl; exact rfl; (first | exact cmp_t rfl (by first | exact rfl | (simp only [cmpP]; omega)) | exact cmp_f rfl (by simp only [cmpP]; omega) | ((with_reducible refine bin_add (wrap_of ?_ ?_)) <;> omega))) | (apply ef_gy; exact rfl; (first | exact (rfl : true = true) | exact (rfl : false = false))) | (apply ef_gn; exact rfl; (exact (rfl : false = false)); exact rfl) | (apply ef_pick; exact rfl; exact rfl; exact rfl) | (apply ef_ldr; exact rfl; exact rfl; (exact rfl)) | (apply ef_ldp; exact rfl; exact rfl; exact rfl; exact rfl; (exact rfl); (exact rfl)) | (apply ef_ias; exact rfl; exact rfl; exact rfl; (omega); assumption; exact rfl) | (apply ef_fap; exact rfl; exact rfl) | (apply ef_far; exact rfl; exact rfl) | apply ef_nil)
        (refine loopI.normal _ _ _ _ _ ⟨rfl, (3 + 1, ln), ⟨by simp only; omega, by first | (simp only; omega) | omega⟩, (by first | (simp only; omega) | omega), by ((repeat (refine Hold.cons (by exact rfl) ?_)); exact Hold.nil), rfl, rfl, (by rw [HS])⟩)
      · by_cases hc : 0 < y
        · have hn := fun h => isNode_c k t ((x : Int) + 0) ((y : Int) + (-1)) h (b := true) (by omega) (by omega) (by rw [Bool.and_eq_true, inB_iff, inB_iff]; omega)
          have hq : posI ((x : Int) + 0) ((y : Int) + (-1)) = posM (y - 1, x) := by
            rw [show ((x : Int) + 0) = (((y - 1, x).2 : Nat) : Int) by simp only; omega, show ((y : Int) + (-1)) = (((y - 1, x).1 : Nat) : Int) by simp only; omega]
          rw [if_pos rfl, if_pos hc] at hS
          rw [hS] at HS
          repeat (first | apply efi_seq | apply seqI.normal | (apply efi_reg; exact rfl) | (apply efi_regy; exact rfl) | (apply efy_op; exact rfl) | (apply ef_mv; exact rfl; exact rfl) | (apply ef_bin; exact rfl; exact rfl; exact rfl; (first | exact cmp_t rfl (by first | exact rfl | (simp only [cmpP]; omega)) | exact cmp_f rfl (by simp only [cmpP]; omega))) | (apply ef_gy; exact rfl; (first | exact (rfl : true = true) | exact (rfl : false = false))) | (apply ef_gn; exact rfl; (exact (rfl : false = false)); exact rfl) | (apply ef_pick; exact rfl; exact rfl; exact rfl) | (apply ef_ldr; exact rfl; exact rfl; (first | exact rd_whole rfl | exact rfl)) | (apply ef_ldp; exact rfl; exact rfl; exact rfl; exact rfl; (exact rfl); (first | exact rd_2 rfl rfl | exact rfl)) | (apply ef_ias; exact rfl; exact rfl; exact rfl; (omega); assumption; exact rfl) | (apply ef_fap; exact rfl; exact rfl) | (apply ef_far; exact rfl; exact rfl) | apply ef_nil | (apply ef_call; exact rfl; ((repeat (apply XVs.cons; exact rfl)); exact XVs.nil); (with_reducible exact hn _)))
          (apply efy_yield; (· exact rfl); (· exact rfl); (· exact rfl); (· ((repeat (apply XVs.cons; exact rfl)); exact XVs.nil)); (· exact rfl))
          · repeat (first | apply efi_skip | apply seqI.normal | apply blockI.normal | (apply efi_reg; exact rfl) | apply efy_nil | (apply efy_op; exact rfl) | (apply efi_condf; exact rfl; (exact rfl)) | (apply ef_mv; exact rfl; exact rfl) | (apply ef_bin; exact rfl; exact rfl; exact rfl; (((with_reducible refine bin_add (wrap_of ?_ ?_)) <;> omega))) | (apply ef_gy; exact rfl; (exact (rfl : true = true))) | (apply ef_pick; exact rfl; exact rfl; exact rfl) | (apply ef_notT; exact rfl; exact rfl) | apply ef_nil)
            (refine loopI.normal _ _ _ _ _ ⟨rfl, (3 + 1, 2 * (3 + 1)), ⟨by simp only; omega, by first | (simp only; omega) | omega⟩, (by first | (simp only; omega) | omega), by ((repeat (refine Hold.cons (by exact rfl) ?_)); exact Hold.nil), rfl, rfl, (by rw [HS, posY_app]; simp only [posY, List.map_cons, List.map_nil]; rw [← hq])⟩)
          · repeat (first | apply efi_ret | apply seqI.normal | apply seqI.ret | apply blockI.ret | apply efy_nil | (apply efy_op; exact rfl) | (apply efi_condt; exact rfl; (exact rfl)) | apply loopI.ret | (apply ef_gy; exact rfl; (exact (rfl : true = true))) | (apply ef_pick; exact rfl; exact rfl; exact rfl) | (apply ef_notF; exact rfl; exact rfl) | apply ef_nil)
            exact finI_stop rfl
        · have hn := fun h => isNode_c k t ((x : Int) + 0) ((y : Int) + (-1)) h (b := false) (by omega) (by omega) (by rw [Bool.eq_false_iff, ne_eq, Bool.and_eq_true, inB_iff, inB_iff]; omega)
          rw [if_pos rfl, if_neg hc] at hS
          rw [hS, List.append_nil] at HS
          repeat (first | apply efi_seq | apply efi_skip | apply seqI.normal | apply blockI.normal | (apply efi_reg; exact rfl) | (apply efi_regy; exact rfl) | apply efy_nil | (apply efy_op; exact rfl) | (apply efy_skip; exact rfl; exact rfl; exact rfl) | (apply efi_condf; exact rfl; (exact rfl)) | (apply ef_mv; exact rfl; exact rfl) | (apply ef_bin; exact rfl; exact rfl; exact rfl; (first | exact cmp_t rfl (by first | exact rfl | (simp only [cmpP]; omega)) | exact cmp_f rfl (by simp only [cmpP]; omega) | ((with_reducible refine bin_add (wrap_of ?_ ?_)) <;> omega))) | (apply ef_gy; exact rfl; (first | exact (rfl : true = true) | exact (rfl : false = false))) | (apply ef_gn; exact rfl; (exact (rfl : false = false)); exact rfl) | (apply ef_pick; exact rfl; exact rfl; exact rfl) | (apply ef_ldr; exact rfl; exact rfl; (first | exact rd_whole rfl | exact rfl)) | (apply ef_ldp; exact rfl; exact rfl; exact rfl; exact rfl; (exact rfl); (first | exact rd_2 rfl rfl | exact rfl)) | (apply ef_ias; exact rfl; exact rfl; exact rfl; (omega); assumption; exact rfl) | (apply ef_fap; exact rfl; exact rfl) | (apply ef_far; exact rfl; exact rfl) | apply ef_nil | (apply ef_call; exact rfl; ((repeat (apply XVs.cons; exact rfl)); exact XVs.nil); (with_reducible exact hn _)))
          (refine loopI.normal _ _ _ _ _ ⟨rfl, (3 + 1, ln), ⟨by simp only; omega, by first | (simp only; omega) | omega⟩, (by first | (simp only; omega) | omega), by ((repeat (refine Hold.cons (by exact rfl) ?_)); exact Hold.nil), rfl, rfl, (by rw [HS])⟩)
    | 4, hi, hln =>
      repeat (first | apply efi_seq | apply efi_exit | apply seqI.normal | apply seqI.exit | apply blockI.here | (apply efi_reg; exact rfl) | (apply efi_condf; exact rfl; (exact rfl)) | apply loopI.exit | (apply ef_bin; exact rfl; exact rfl; exact rfl; (exact cmp_f rfl (by simp only [cmpP]; omega))) | apply ef_nil)
      exact finI_go rfl (by rw [nbU_four])
    | i + 5, hi, hln => omega
  · rw [List.all_eq_true]
    intro x hx
    obtain ⟨p, _, rfl⟩ := List.mem_map.1 hx
    rfl
theorem mf_neighbours : MT.mf 154 = some ⟨6, [(.tmp 4)], (.seq (.reg [⟨none, some 2, .box 9 (.s 0)⟩, ⟨none, some 3, .box 2 (.s 1)⟩, ⟨none, some 4, .mv (.c (.lit .nilFunc))⟩]) (.seq (.reg [⟨none, some 5, .mf 167 0 [.s 3, .s 2]⟩, ⟨none, some 4, .mv (.s 5)⟩]) .ret))⟩ := by kernel_rfl
theorem neighbours_c (k : Nat) (t : Tk) {x y : Int} (h : MHeap) : orA (k + 1) 154 [encO t, posI x y] h = some (.fn 167 0 [.rp (posI x y) 0, .rp (encO t) 0], h) := by
  have hlt := encO_lt t 0
  have hz : runZ MT (orA k) (itA k) 4000000 154 [encO t, posI x y] [] = some (.fn 167 0 [.rp (posI x y) 0, .rp (encO t) 0], []) := by
    refine runZ_of mf_neighbours (by simp) ?_
    simp only [argsL]
    repeat (first | apply ef_seq | (apply ef_mv; exact rfl; exact rfl) | (apply ef_box; exact rfl; exact rfl; exact rfl; exact rfl) | (apply ef_mf; exact rfl; (repeat (apply XVs.cons; exact rfl)); exact XVs.nil) | apply ef_nil | apply seqQ.normal | apply ef_ret)
    exact fin_frz rfl (by exact rfl) rfl (fun _ _ _ _ h => by cases h) (by simp only [frz]; simp [MV.lt, ltL, frz, List.mapM_cons, hlt, ltL_I, ltL_W, ltL_B])
  have := callA (k := k) (h := h) (frzL_lt (ms := [encO t, posI x y]) (by simp [ltL, MV.lt, ltL_I, ltL_W, ltL_B])) rfl hz (by simp [okV, ok1, ltL, ltL_I, ltL_W, ltL_B, MV.lt]) rfl
  simpa [shV, sh1] using this
end Go.Proofs.Ytgjpdjihjphbdaa

/- Memory that is told by facts: levels below which all is closed; surfaces of numbers. -/
namespace Go.Proofs.Ytgjpdjihjphbdaa
open Go.RowKit
set_option linter.unusedVariables false
mutual
theorem MV.lt_le {n m : Nat} (h : n ≤ m) : ∀ v : MV, v.lt n = true → v.lt m = true
  | .lit _, _ => rfl
  | .junk, _ => rfl
  | .yld, h1 => by simp [MV.lt] at h1
  | .agg cs, h1 => by simp only [MV.lt] at h1 ⊢; exact ltL_le h cs h1
  | .tup cs, h1 => by simp only [MV.lt] at h1 ⊢; exact ltL_le h cs h1
  | .sl cs, h1 => by simp only [MV.lt] at h1 ⊢; exact ltL_le h cs h1
  | .rp e _, h1 => by simp only [MV.lt] at h1 ⊢; exact MV.lt_le h e h1
  | .ptr id _ _ _, h1 => by simp only [MV.lt, decide_eq_true_eq] at h1 ⊢; omega
  | .arr id _ _ _, h1 => by simp only [MV.lt, decide_eq_true_eq] at h1 ⊢; omega
  | .fn _ _ cs, h1 => by simp only [MV.lt] at h1 ⊢; exact ltL_le h cs h1
  | .mp id _, h1 => by simp only [MV.lt, decide_eq_true_eq] at h1 ⊢; omega
  | .rm cs, h1 => by simp only [MV.lt] at h1 ⊢; exact ltL_le h cs h1
theorem ltL_le {n m : Nat} (h : n ≤ m) : ∀ vs : List MV, ltL n vs = true → ltL m vs = true
  | [], _ => rfl
  | v :: vs, h1 => by
    simp only [ltL, Bool.and_eq_true] at h1 ⊢
    exact ⟨MV.lt_le h v h1.1, ltL_le h vs h1.2⟩
end
def Cl (n : Nat) (h : MHeap) : Prop := n ≤ h.length ∧ ∀ (j : Nat) o, j < n → h[j]? = some o → ltL n o.es = true
theorem Cl.head {n : Nat} {h : MHeap} (hc : Cl n h) : hltL n (h.take n) = true := by
  unfold hltL
  rw [List.all_eq_true]
  intro o ho
  obtain ⟨j, hj⟩ := List.getElem?_of_mem ho
  rw [List.getElem?_take] at hj
  split at hj
  · exact hc.2 j o (by assumption) hj
  · cases hj
theorem Cl.take {n m : Nat} {h : MHeap} (hc : Cl n h) (hm : n ≤ m) : Cl n (h.take m) :=
  ⟨by rw [List.length_take]; have := hc.1; omega, fun j o hj ho => by
    rw [List.getElem?_take] at ho
    split at ho
    · exact hc.2 j o hj ho
    · cases ho⟩
theorem Cl.app {n : Nat} {h : MHeap} (hc : Cl n h) (X : MHeap) : Cl n (h ++ X) :=
  ⟨by rw [List.length_append]; have := hc.1; omega, fun j o hj ho => by
    rw [List.getElem?_append_left (by have := hc.1; omega)] at ho
    exact hc.2 j o hj ho⟩
theorem Cl.set {n i : Nat} {h : MHeap} {o : MObj} (hc : Cl n h) (ho : i < n → ltL n o.es = true) : Cl n (h.set i o) :=
  ⟨by rw [List.length_set]; exact hc.1, fun j p hj hp => by
    rw [List.getElem?_set] at hp
    split at hp
    · rename_i e
      split at hp
      · cases hp; exact ho (by omega)
      · cases hp
    · exact hc.2 j p hj hp⟩
abbrev Full (h : MHeap) : Prop := Cl h.length h
theorem Full.app1 {h : MHeap} {o : MObj} (hc : Full h) (ho : ltL (h.length + 1) o.es = true) : Full (h ++ [o]) :=
  ⟨Nat.le_refl _, fun j p hj hp => by
    rw [List.length_append] at hj ⊢
    simp only [List.length_cons, List.length_nil] at hj ⊢
    by_cases e : j < h.length
    · rw [List.getElem?_append_left e] at hp
      exact ltL_le (by omega) _ (hc.2 j p e hp)
    · obtain rfl : j = h.length := by omega
      simp at hp
      subst hp
      exact ho⟩
theorem Full.set {h : MHeap} {i : Nat} {o : MObj} (hc : Full h) (ho : ltL h.length o.es = true) : Full (h.set i o) := by
  have := Cl.set (i := i) (o := o) hc fun _ => ho
  unfold Full
  rwa [List.length_set]
theorem Cl.full {n : Nat} {h : MHeap} (hc : Cl n h) : Full (h.take n) := by
  have h1 := hc.take (Nat.le_refl n)
  unfold Full
  have : (h.take n).length = n := by rw [List.length_take]; have := hc.1; omega
  rwa [this]
structure Srf (sid gn W H : Nat) (ids : Nat → Nat) (g : List (List Int)) (h : MHeap) : Prop where
  top : ∃ refs, h[sid]? = some ⟨gn, false, 1, refs⟩ ∧ refs.length = H ∧ ∀ y, y < H → refs[y]? = some (.arr (ids y) 0 W 0)
  row : ∀ y, y < H → h[ids y]? = some ⟨0, false, 1, (g.getD y []).map I64⟩
  gl : g.length = H
  wl : ∀ y, y < H → (g.getD y []).length = W
  inj : ∀ y y', y < H → y' < H → ids y = ids y' → y = y'
  ne : ∀ y, y < H → ids y ≠ sid
section
variable {sid gn W H : Nat} {ids : Nat → Nat} {g : List (List Int)} {h : MHeap}
theorem Srf.app (s : Srf sid gn W H ids g h) (X : MHeap) : Srf sid gn W H ids g (h ++ X) :=
  ⟨by obtain ⟨refs, h1, h2, h3⟩ := s.top; exact ⟨refs, at_app h1 X, h2, h3⟩, fun y hy => at_app (s.row y hy) X, s.gl, s.wl, s.inj, s.ne⟩
theorem Srf.other (s : Srf sid gn W H ids g h) {i : Nat} {o : MObj} (h1 : i ≠ sid) (h2 : ∀ y, y < H → i ≠ ids y) : Srf sid gn W H ids g (h.set i o) :=
  ⟨by obtain ⟨refs, k1, k2, k3⟩ := s.top; exact ⟨refs, by rw [List.getElem?_set_ne h1]; exact k1, k2, k3⟩, fun y hy => by rw [List.getElem?_set_ne (h2 y hy)]; exact s.row y hy, s.gl, s.wl, s.inj, s.ne⟩
theorem Srf.take (s : Srf sid gn W H ids g h) {m : Nat} (h1 : sid < m) (h2 : ∀ y, y < H → ids y < m) : Srf sid gn W H ids g (h.take m) :=
  ⟨by obtain ⟨refs, k1, k2, k3⟩ := s.top; exact ⟨refs, by rw [List.getElem?_take, if_pos h1]; exact k1, k2, k3⟩, fun y hy => by rw [List.getElem?_take, if_pos (h2 y hy)]; exact s.row y hy, s.gl, s.wl, s.inj, s.ne⟩
theorem Srf.lt (s : Srf sid gn W H ids g h) : sid < h.length ∧ ∀ y, y < H → ids y < h.length :=
  ⟨by obtain ⟨refs, k1, _⟩ := s.top; exact (List.getElem?_eq_some_iff.1 k1).1, fun y hy => (List.getElem?_eq_some_iff.1 (s.row y hy)).1⟩
theorem set2_row {y x y' : Nat} {v : Int} (hy : y < g.length) : (set2 g y x v).getD y' [] = if y' = y then (g.getD y []).set x v else g.getD y' [] := by
  unfold set2
  rw [List.getD_eq_getElem?_getD, List.getElem?_set]
  by_cases e : y = y'
  · subst e
    rw [if_pos rfl, if_pos hy, if_pos rfl]; rfl
  · rw [if_neg e, if_neg (Ne.symm e), List.getD_eq_getElem?_getD]
theorem Srf.put (s : Srf sid gn W H ids g h) {y x : Nat} {v : Int} (hy : y < H) : Srf sid gn W H ids (set2 g y x v) (h.set (ids y) ⟨0, false, 1, ((g.getD y []).map I64).set x (I64 v)⟩) := by
  have hl := (s.lt.2 y hy)
  have hgl := s.gl
  refine ⟨?_, fun y' hy' => ?_, by unfold set2; rw [List.length_set]; exact s.gl, fun y' hy' => ?_, s.inj, s.ne⟩
  · obtain ⟨refs, k1, k2, k3⟩ := s.top
    exact ⟨refs, by rw [List.getElem?_set_ne (s.ne y hy)]; exact k1, k2, k3⟩
  · rw [set2_row (by omega)]
    by_cases e : y' = y
    · subst e
      rw [if_pos rfl, List.getElem?_set_self hl, List.map_set]
    · rw [if_neg e, List.getElem?_set_ne (fun e2 => e (s.inj _ _ hy' hy e2.symm))]
      exact s.row y' hy'
  · rw [set2_row (by omega)]
    split
    · rename_i e; rw [List.length_set]; exact s.wl y hy
    · exact s.wl y' hy'
theorem Srf.rd (s : Srf sid gn W H ids g h) {y x : Nat} (hy : y < H) (hx : x < W) : ∃ refs, h[sid]? = some ⟨gn, false, 1, refs⟩ ∧ MHeap.ok h sid gn 1 = true ∧ refs[0 + ((y : Nat) : Int).toNat]? = some (.arr (ids y) 0 W 0) ∧ h[ids y]? = some ⟨0, false, 1, (g.getD y []).map I64⟩ ∧ MHeap.ok h (ids y) 0 1 = true ∧ ((g.getD y []).map I64)[0 + ((x : Nat) : Int).toNat]? = some (I64 (at2 g y x)) := by
  obtain ⟨refs, k1, k2, k3⟩ := s.top
  have k4 := s.row y hy
  refine ⟨refs, k1, ok_of k1 rfl rfl, by rw [Nat.zero_add, Int.toNat_natCast]; exact k3 y hy, k4, ok_of k4 rfl rfl, ?_⟩
  rw [Nat.zero_add, Int.toNat_natCast, List.getElem?_map]
  have hl := s.wl y hy
  unfold at2
  rw [List.getD_eq_getElem?_getD (l := g.getD y []), List.getElem?_eq_getElem (by omega)]; rfl
end
section
variable {O : Oracle} {I : Iter} {N n : Nat} {lk : Nat → Bool} {A : Sl} {h : MHeap} {Q : MX2 → Sl → MHeap → Prop}
theorem ef_newst {t sz : Nat} {z v : MV} {x : MX} {os : List GO} (ht : Nat.blt t n = true) (hx : XV ((t, .ptr h.length 0 0 0) :: A) x v) (hk : v.sOk sz = true) (hlk : lk h.length = false) (hw : wrElem z 0 v = some v) (hE : Ef O I N n lk (.reg os) ((t, .ptr h.length 0 0 0) :: A) (h ++ [⟨0, false, z.cells.length, [v]⟩]) Q) :
    Ef O I N n lk (.reg (⟨none, some t, .new z⟩ :: ⟨none, none, .st sz (.s t) x⟩ :: os)) A h Q := by
  refine ef_new (ht := ht) ?_
  refine ef_st (o := ⟨0, false, z.cells.length, [z]⟩) hx hk (show look ((t, .ptr h.length 0 0 0) :: A) t = _ from look_here) (at_end _ _) rfl hlk rfl hw ?_
  rw [set_end]
  exact hE
end
end Go.Proofs.Ytgjpdjihjphbdaa

/- Memory of lowest surfaces: facts and rules. -/
namespace Go.Proofs.Ytgjpdjihjphbdaa
open Go.RowKit
set_option linter.unusedVariables false
theorem lea_ex {t : Tk} {K : Int} (hK : ∀ s, Pre t s → tot s ≤ K) : ∃ s, Lea t s := by
  have key : ∀ (n : Nat) s, Pre t s → (K - tot s).toNat < n → ∃ s, Lea t s := by
    intro n
    induction n with
    | zero => intro s _ h; omega
    | succ n ih =>
      intro s hp hn
      by_cases hall : ∀ y x y' x', y < t.H → x < t.W → t.fl y x = true → t.Nb y x y' x' → at2 s y x - t.cb ≤ at2 s y' x'
      · exact ⟨s, hp.lea hall⟩
      · apply Classical.byContradiction
        intro hno
        apply hall
        intro y x y' x' hy hx hf hnb
        apply Decidable.byContradiction
        intro hlt
        have hr : at2 s y' x' < at2 s y x - t.cb := by omega
        have h2 := hp.raise hy hx hf hnb hr
        have h3 := tot_le_up (s0 := s) hp.sh hnb.1 hnb.2.1 hr
        have h4 := hK _ h2
        exact hno (ih _ h2 (by omega))
  exact key _ t.s0 (s0_pre t) (Nat.lt_succ_self _)
theorem OkT.top {t : Tk} (ok : OkT t) {s : List (List Int)} (h : Pre t s) : ∀ y x, y < t.H → x < t.W → 0 ≤ at2 s y x ∧ at2 s y x ≤ 20000 := fun y x hy hx =>
  ⟨h.pos (fun y x hy hx => (ok.need hy hx).1) y x hy hx, h.top (B := 20000) (fun y x hy hx => (ok.need hy hx).2) (by omega) ok.cb.1 y x hy hx⟩
theorem OkT.tot {t : Tk} (ok : OkT t) {s : List (List Int)} (h : Pre t s) : 0 ≤ tot s ∧ tot s ≤ 2880000 := by
  have h1 := tot_le h.sh (B := 20000) fun y x hy hx => (ok.top h y x hy hx).2
  have h2 := tot_pos h.sh fun y x hy hx => (ok.top h y x hy hx).1
  have h3 : (t.W : Int) * 20000 ≤ 240000 := by have := ok.w1; omega
  have h4 : (t.H : Int) * ((t.W : Int) * 20000) ≤ 12 * 240000 := Int.mul_le_mul (by have := ok.h1; unfold Tk.H; omega) h3 (by omega) (by omega)
  omega
theorem OkT.lea {t : Tk} (ok : OkT t) : ∃ s, Lea t s := lea_ex fun s hs => (ok.tot hs).2
inductive QuM (m0 B : Nat) (h : MHeap) : MV → List (Nat × Nat) → Prop
  | nil : QuM m0 B h (.lit (.slice none 0 0)) []
  | arr (id gen : Nat) (P Q : List (Nat × Nat)) : h[id]? = some ⟨gen, false, 2, (P ++ Q).map posM⟩ → m0 ≤ id → P.length + Q.length ≤ B → QuM m0 B h (.arr id P.length Q.length gen) Q
theorem QuM.cell {m0 B : Nat} {h : MHeap} {v : MV} {Q : List (Nat × Nat)} (q : QuM m0 B h v Q) : rdCells v.cells 0 none = some v := by
  cases q <;> rfl
theorem QuM.app {m0 B : Nat} {h : MHeap} {v : MV} {Q : List (Nat × Nat)} (q : QuM m0 B h v Q) (X : MHeap) : QuM m0 B (h ++ X) v Q := by
  cases q with
  | nil => exact .nil
  | arr id gen P Q h1 h2 h3 => exact .arr id gen P Q (at_app h1 X) h2 h3
theorem QuM.set {m0 B i : Nat} {h : MHeap} {o : MObj} {v : MV} {Q : List (Nat × Nat)} (q : QuM m0 B h v Q) (hi : i < m0) : QuM m0 B (h.set i o) v Q := by
  cases q with
  | nil => exact .nil
  | arr id gen P Q h1 h2 h3 => exact .arr id gen P Q (by rw [List.getElem?_set_ne (by omega)]; exact h1) h2 h3
theorem ltL_P (n : Nat) (l : List (Nat × Nat)) : ltL n (l.map posM) = true := ltL_lits (fun _ => rfl) l
structure LoM (t : Tk) (N : Nat → Prop) (g : List (List Int)) (B : Nat) (qv : MV) (Q : List (Nat × Nat)) (h : MHeap) : Prop where
  b0 : h[0]? = some ⟨0, false, 9, [encO t]⟩
  b3 : h[3]? = some ⟨0, false, 1, [.arr 2 0 t.ter.length 0]⟩
  sf : Srf 2 0 t.W t.ter.length (4 + ·) g h
  qc : h[4 + t.ter.length]? = some ⟨0, false, 1, [qv]⟩
  qu : QuM (5 + t.ter.length) B h qv Q
  fu : Full h
  lv : ∀ n, N n → 5 + t.ter.length ≤ n ∧ Cl n h
section
variable {t : Tk} {N : Nat → Prop} {g : List (List Int)} {B : Nat} {qv : MV} {Q : List (Nat × Nat)} {h : MHeap}
theorem LoM.app1 (m : LoM t N g B qv Q h) (o : MObj) (ho : ltL (h.length + 1) o.es = true) : LoM t N g B qv Q (h ++ [o]) :=
  ⟨at_app m.b0 _, at_app m.b3 _, m.sf.app _, at_app m.qc _, m.qu.app _, m.fu.app1 ho, fun n hn => ⟨(m.lv n hn).1, (m.lv n hn).2.app _⟩⟩
theorem LoM.len (m : LoM t N g B qv Q h) : 4 + t.ter.length < h.length := (List.getElem?_eq_some_iff.1 m.qc).1
theorem LoM.put (m : LoM t N g B qv Q h) {y x : Nat} {v : Int} (hy : y < t.ter.length) : LoM t N (set2 g y x v) B qv Q (h.set (4 + y) ⟨0, false, 1, ((g.getD y []).map I64).set x (I64 v)⟩) := by
  have hl : ∀ n, ltL n (((g.getD y []).map I64).set x (I64 v)) = true := fun n => by
    rw [show ((g.getD y []).map I64).set x (I64 v) = ((g.getD y []).set x v).map I64 by rw [List.map_set]]; exact ltL_I n _
  exact ⟨by rw [List.getElem?_set_ne (by omega)]; exact m.b0, by rw [List.getElem?_set_ne (by omega)]; exact m.b3, m.sf.put hy, by rw [List.getElem?_set_ne (by omega)]; exact m.qc, m.qu.set (by omega), m.fu.set (hl _), fun n hn => ⟨(m.lv n hn).1, (m.lv n hn).2.set fun _ => hl _⟩⟩
theorem LoM.qlt (m : LoM t N g B qv Q h) {n : Nat} (hc : Cl n h) (hn : 5 + t.ter.length ≤ n) : qv.lt n = true := by
  have := hc.2 _ _ (by omega) m.qc
  simpa [ltL] using this
theorem LoM.take (m : LoM t N g B qv Q h) {n : Nat} (hn : N n) (hN : ∀ k, N k → k ≤ n) : LoM t N g B qv Q (h.take n) := by
  obtain ⟨h1, h2⟩ := m.lv n hn
  have hq := m.qlt h2 h1
  refine ⟨by rw [List.getElem?_take, if_pos (by omega)]; exact m.b0, by rw [List.getElem?_take, if_pos (by omega)]; exact m.b3, m.sf.take (by omega) (fun y hy => by omega), by rw [List.getElem?_take, if_pos (by omega)]; exact m.qc, ?_, h2.full, fun k hk => ⟨(m.lv k hk).1, (m.lv k hk).2.take (hN k hk)⟩⟩
  have := m.qu
  cases this with
  | nil => exact .nil
  | arr id gen P Q k1 k2 k3 =>
    simp only [MV.lt, decide_eq_true_eq] at hq
    exact .arr id gen P Q (by rw [List.getElem?_take, if_pos hq]; exact k1) k2 k3
theorem LoM.lev (m : LoM t N g B qv Q h) : LoM t (fun n => N n ∨ n = h.length) g B qv Q h :=
  ⟨m.b0, m.b3, m.sf, m.qc, m.qu, m.fu, fun n hn => by
    rcases hn with hn | rfl
    · exact m.lv n hn
    · exact ⟨by have := m.len; omega, m.fu⟩⟩
theorem LoM.less (m : LoM t N g B qv Q h) {N' : Nat → Prop} (hN : ∀ n, N' n → N n) : LoM t N' g B qv Q h :=
  ⟨m.b0, m.b3, m.sf, m.qc, m.qu, m.fu, fun n hn => m.lv n (hN n hn)⟩
end
end Go.Proofs.Ytgjpdjihjphbdaa

/- One more node at the end of a queue. -/
namespace Go.Proofs.Ytgjpdjihjphbdaa
open Go.RowKit
set_option linter.unusedVariables false
theorem HeadIs.tk {keep : List Nat} {m : Nat} {A : Sl} {h : MHeap} (hc : Cl m h) (hk : ∀ t ∈ keep, ∃ v, look A t = some v ∧ v.lt m = true) : HeadIs keep m A h (h.take m) := by
  by_cases hl : h.length ≤ m
  · rw [List.take_of_length_le hl]; exact .all hl
  · exact .cut hk hc.head
theorem LoM.pop {t : Tk} {N : Nat → Prop} {g : List (List Int)} {B id gen : Nat} {P Q : List (Nat × Nat)} {q : Nat × Nat} {h : MHeap} (m : LoM t N g B (.arr id P.length (Q.length + 1) gen) (q :: Q) h) (hk : h[id]? = some ⟨gen, false, 2, (P ++ q :: Q).map posM⟩) (hi : 5 + t.ter.length ≤ id) (hB : P.length + (Q.length + 1) ≤ B) :
    LoM t N g B (.arr id (P.length + 1) Q.length gen) Q (h.set (4 + t.ter.length) ⟨0, false, 1, [.arr id (P.length + 1) Q.length gen]⟩) := by
  have hl := m.len
  have hc : ∀ k, 5 + t.ter.length ≤ k → Cl k h → ltL k [MV.arr id (P.length + 1) Q.length gen] = true := fun k hk hcl => by
    have := m.qlt hcl hk
    simpa [ltL, MV.lt] using this
  refine ⟨by rw [List.getElem?_set_ne (by omega)]; exact m.b0, by rw [List.getElem?_set_ne (by omega)]; exact m.b3, m.sf.other (by omega) (fun y hy => by omega), by rw [List.getElem?_set_self hl], ?_, m.fu.set (hc _ (by omega) m.fu), fun k hk => ⟨(m.lv k hk).1, (m.lv k hk).2.set fun _ => hc k (m.lv k hk).1 (m.lv k hk).2⟩⟩
  have e : QuM (5 + t.ter.length) B (h.set (4 + t.ter.length) ⟨0, false, 1, [.arr id (P.length + 1) Q.length gen]⟩) (.arr id (P ++ [q]).length Q.length gen) Q :=
    .arr id gen (P ++ [q]) Q (by rw [List.getElem?_set_ne (by omega), hk]; simp) hi (by simp; omega)
  simpa using e
section
variable {O : Oracle} {I : Iter} {M n : Nat} {lk : Nat → Bool} {A : Sl} {h : MHeap} {Qc : MX2 → Sl → MHeap → Prop}
variable {t : Tk} {N : Nat → Prop} {g : List (List Int)} {B : Nat} {qv : MV} {Q : List (Nat × Nat)}
theorem ef_pushA {t2 tp t1 c : Nat} {q : Nat × Nat} {os : List GO} (ht2 : Nat.blt t2 n = true) (hp : look A tp = some qv) (h1 : look A t1 = some (.arr h.length 0 1 0)) (hc : ∀ v, look ((t2, v) :: A) c = some (.ptr (4 + t.ter.length) 0 0 0)) (hlk : ∀ i, lk i = false)
    (hm : LoM t N g B qv Q h) (hq : qv ≠ .lit (.slice none 0 0)) (hB : B < 4000000)
    (hE : ∀ h' qv', LoM t N g (B + 1) qv' (Q ++ [q]) h' → qv' ≠ .lit (.slice none 0 0) → (∀ k, qv'.lt k = qv.lt k) → h.length ≤ h'.length → (∀ j, j < h.length → qv.lt j = true → j ≠ 4 + t.ter.length → h'[j]? = h[j]?) → Ef O I M n lk (.reg os) ((t2, qv') :: A) h' Qc) :
    Ef O I M n lk (.reg (⟨none, some t2, .app 2 (.s tp) (.s t1)⟩ :: ⟨none, none, .st 1 (.s c) (.s t2)⟩ :: os)) A (h ++ [⟨0, false, 2, [posM q]⟩]) Qc := by
  have hlen := hm.len
  have hqu := hm.qu
  cases hqu with
  | nil => exact absurd rfl hq
  | arr id gen P Q k1 k2 k3 =>
    have hid : id < h.length := (List.getElem?_eq_some_iff.1 k1).1
    have e1 : (h ++ [(⟨0, false, 2, [posM q]⟩ : MObj)])[id]? = some ⟨gen, false, 2, (P ++ Q).map posM⟩ := at_app k1 _
    have hes : ((P ++ Q).map posM).drop P.length ++ [posM q] = ([] ++ (Q ++ [q])).map posM := by
      rw [List.map_append, List.drop_append_of_le_length (by simp), List.drop_of_length_le (by simp)]; simp
    have hl2 : ∀ k, ltL k (((P ++ Q).map posM).drop P.length ++ [posM q]) = true := fun k => by rw [hes]; exact ltL_P k _
    have mA := hm.app1 ⟨0, false, 2, [posM q]⟩ rfl
    refine ef_app (ht := ht2) (o := ⟨gen, false, 2, (P ++ Q).map posM⟩) (v := .arr h.length 0 1 0) (e := posM q) (xs := []) hp h1 (by simp [MV.elems]) e1 rfl (by simp) rfl (by simp; omega) rfl (hlk _) ?_
    refine ef_st (o := ⟨0, false, 1, [.arr id P.length Q.length gen]⟩) look_here rfl (hc _) (by rw [List.getElem?_set_ne (by omega)]; exact mA.qc) rfl (hlk _) rfl rfl ?_
    refine hE _ (.arr id 0 (Q.length + 1) (gen + 1)) ?_ (fun h => by cases h) (fun k => by simp [MV.lt]) (by simp) (fun j hj hlt hne => ?_)
    · have hqc : ((h ++ [(⟨0, false, 2, [posM q]⟩ : MObj)]).set id ⟨gen + 1, false, 2, ((P ++ Q).map posM).drop P.length ++ [posM q]⟩)[4 + t.ter.length]? = some ⟨0, false, 1, [.arr id P.length Q.length gen]⟩ := by rw [List.getElem?_set_ne (by omega)]; exact mA.qc
      have hlt3 : ∀ k, 5 + t.ter.length ≤ k → Cl k (h ++ [(⟨0, false, 2, [posM q]⟩ : MObj)]) → ltL k [MV.arr id 0 (Q.length + 1) (gen + 1)] = true := fun k hk hcl => by
        have := mA.qlt hcl hk
        simpa [ltL, MV.lt] using this
      refine ⟨?_, ?_, ?_, ?_, ?_, ?_, fun k hk => ?_⟩
      · rw [List.getElem?_set_ne (by omega), List.getElem?_set_ne (by omega)]; exact mA.b0
      · rw [List.getElem?_set_ne (by omega), List.getElem?_set_ne (by omega)]; exact mA.b3
      · exact (mA.sf.other (by omega) fun y hy => by omega).other (by omega) fun y hy => by omega
      · rw [List.getElem?_set_self (by simp; omega)]; rfl
      · have e : QuM (5 + t.ter.length) (B + 1) (((h ++ [(⟨0, false, 2, [posM q]⟩ : MObj)]).set id ⟨gen + 1, false, 2, ((P ++ Q).map posM).drop P.length ++ [posM q]⟩).set (4 + t.ter.length) ⟨0, false, 1, [.arr id 0 (Q.length + 1) (gen + 1)]⟩) (.arr id ([] : List (Nat × Nat)).length (Q ++ [q]).length (gen + 1)) (Q ++ [q]) :=
          .arr id (gen + 1) [] (Q ++ [q]) (by rw [List.getElem?_set_ne (by omega), List.getElem?_set_self (by simp; omega), hes]) k2 (by simp; omega)
        simpa using e
      · exact (mA.fu.set (hl2 _)).set (by simpa using hlt3 (h ++ [(⟨0, false, 2, [posM q]⟩ : MObj)]).length (by simp; omega) mA.fu)
      · exact ⟨(mA.lv k hk).1, (((mA.lv k hk).2.set fun _ => hl2 k).set fun _ => hlt3 k (mA.lv k hk).1 (mA.lv k hk).2)⟩
    · simp only [MV.lt, decide_eq_true_eq] at hlt
      rw [List.getElem?_set_ne (by omega), List.getElem?_set_ne (by omega), List.getElem?_append_left hj]
theorem ef_pushN {t2 tp t1 c : Nat} {q : Nat × Nat} {os : List GO} (ht2 : Nat.blt t2 n = true) (hp : look A tp = some (.lit (.slice none 0 0))) (h1 : look A t1 = some (.arr h.length 0 1 0)) (hc : ∀ v, look ((t2, v) :: A) c = some (.ptr (4 + t.ter.length) 0 0 0)) (hlk : ∀ i, lk i = false)
    (hm : LoM t N g B (.lit (.slice none 0 0)) [] h)
    (hE : ∀ h' qv', LoM t (fun _ => False) g (B + 1) qv' [q] h' → qv' ≠ .lit (.slice none 0 0) → (∀ k, k ≤ h.length → qv'.lt k = false) → Ef O I M n lk (.reg os) ((t2, qv') :: A) h' Qc) :
    Ef O I M n lk (.reg (⟨none, some t2, .app 2 (.s tp) (.s t1)⟩ :: ⟨none, none, .st 1 (.s c) (.s t2)⟩ :: os)) A (h ++ [⟨0, false, 2, [posM q]⟩]) Qc := by
  have hlen := hm.len
  have mA := (hm.less (N' := fun _ => False) fun _ h => h.elim).app1 ⟨0, false, 2, [posM q]⟩ rfl
  have mB := mA.app1 ⟨0, false, 2, [posM q]⟩ rfl
  refine ef_appn (ht := ht2) (v := .arr h.length 0 1 0) (e := posM q) (xs := []) hp h1 (by simp [MV.elems]) (by simp) rfl ?_
  refine ef_st (o := ⟨0, false, 1, [.lit (.slice none 0 0)]⟩) look_here rfl (hc _) mB.qc rfl (hlk _) rfl rfl ?_
  refine hE _ _ ?_ (fun h => by cases h) (fun k hk => by simp [MV.lt]; omega)
  refine ⟨?_, ?_, ?_, ?_, ?_, ?_, fun k hk => hk.elim⟩
  · rw [List.getElem?_set_ne (by omega)]; exact mB.b0
  · rw [List.getElem?_set_ne (by omega)]; exact mB.b3
  · exact mB.sf.other (by omega) fun y hy => by omega
  · rw [List.getElem?_set_self (by simp; omega)]; rfl
  · have e : QuM (5 + t.ter.length) (B + 1) (((h ++ [(⟨0, false, 2, [posM q]⟩ : MObj)]) ++ [(⟨0, false, 2, [posM q]⟩ : MObj)]).set (4 + t.ter.length) ⟨0, false, 1, [.arr (h.length + 1) 0 1 0]⟩) (.arr (h.length + 1) ([] : List (Nat × Nat)).length [q].length 0) [q] :=
      .arr (h.length + 1) 0 [] [q] (by rw [List.getElem?_set_ne (by omega)]; simp) (by omega) (by simp)
    simpa using e
  · exact mB.fu.set (by simp [ltL, MV.lt])
end
end Go.Proofs.Ytgjpdjihjphbdaa

/- The contract of lowest: heights are raised along a queue. -/
namespace Go.Proofs.Ytgjpdjihjphbdaa
open Go.RowKit
set_option linter.unusedVariables false
def rRow (H W y : Nat) : List MV := (List.range H).map fun j => if j < y then .arr (4 + j) 0 W 0 else .lit (.slice none 0 0)
theorem rRow_at {H W y j : Nat} (h : j < H) : (rRow H W y)[j]? = some (if j < y then .arr (4 + j) 0 W 0 else .lit (.slice none 0 0)) := rng_get _ h
theorem rRow_zero (H W : Nat) : rRow H W 0 = List.replicate H (.lit (.slice none 0 0)) := by
  apply List.ext_getElem?
  intro j
  by_cases hj : j < H
  · rw [rRow_at hj, List.getElem?_replicate, if_pos hj]; rfl
  · rw [List.getElem?_eq_none (by simp [rRow]; omega), List.getElem?_replicate, if_neg hj]
theorem rRow_set {H W y : Nat} : (rRow H W y).set (0 + ((y : Nat) : Int).toNat) (.arr (4 + y) 0 W 0) = rRow H W (y + 1) := by
  rw [Nat.zero_add, Int.toNat_natCast]
  unfold rRow
  rw [rng_set]
  refine rng_congr fun j hj => ?_
  by_cases h : j = y
  · subst h; rw [if_pos rfl, if_pos (by omega)]
  · rw [if_neg h]
    by_cases h2 : j < y
    · rw [if_pos h2, if_pos (by omega)]
    · rw [if_neg h2, if_neg (by omega)]
theorem rRow_lt {H W y : Nat} (h : y < H) : ltL 4 (rRow H W (y + 1)) = false := by
  rw [Bool.eq_false_iff]
  intro hc
  have h1 := rRow_at (W := W) (y := y + 1) h
  rw [if_pos (by omega)] at h1
  have := ltL_iff'.1 hc _ (List.mem_of_getElem? h1)
  simp [MV.lt] at this
  try omega
theorem HeadIs.cellE {keep : List Nat} {m : Nat} {A : Sl} {h h1 : MHeap} (e : h = h1) (hn : hltL m (h1.take m) = false) : HeadIs keep m A h h1 := by
  subst e; exact .cell hn
abbrev loH (t : Tk) (y : Nat) : MHeap := [⟨0, false, 9, [encO t]⟩, ⟨0, true, 1, []⟩, ⟨0, false, 1, rRow t.ter.length t.W y⟩, ⟨0, false, 1, [.arr 2 0 t.ter.length 0]⟩] ++ List.replicate y ⟨0, false, 1, List.replicate t.W (I64 0)⟩
theorem loH_len (t : Tk) (y : Nat) : (loH t y).length = 4 + y := by simp [loH]; omega
theorem loH_get {t : Tk} {y : Nat} (hy : y < t.ter.length) : (loH t t.ter.length)[4 + y]? = some ⟨0, false, 1, List.replicate t.W (I64 0)⟩ := by
  unfold loH
  rw [List.getElem?_append_right (by simp)]
  rw [List.getElem?_replicate, if_pos (by simp; try omega)]
theorem zeros_at {H W : Nat} {y : Nat} (hy : y < H) : (List.replicate H (List.replicate W (0 : Int))).getD y [] = List.replicate W 0 := by
  rw [List.getD_eq_getElem?_getD, List.getElem?_replicate, if_pos hy]; rfl
theorem loM0 (t : Tk) (ok : OkT t) : LoM t (fun n => n = 5 + t.ter.length) (List.replicate t.ter.length (List.replicate t.W 0)) 0 (.lit (.slice none 0 0)) [] (loH t t.ter.length ++ [⟨0, false, 1, [.lit (.slice none 0 0)]⟩]) := by
  have hL := loH_len t t.ter.length
  have hfull : Full (loH t t.ter.length ++ [(⟨0, false, 1, [.lit (.slice none 0 0)]⟩ : MObj)]) := by
    refine Full.app1 ⟨Nat.le_refl _, fun j o hj ho => ?_⟩ rfl
    rw [hL] at hj ⊢
    have hm := List.mem_of_getElem? ho
    simp only [loH, List.cons_append, List.nil_append, List.mem_cons, List.mem_replicate] at hm
    rcases hm with rfl | rfl | rfl | rfl | ⟨_, rfl⟩
    · simp [ltL, MV.lt, ltL_I, ltL_W, ltL_B]
    · rfl
    · refine ltL_iff'.2 fun m hm => ?_
      obtain ⟨i, hi⟩ := List.getElem?_of_mem hm
      have hi2 : i < t.ter.length := by have := (List.getElem?_eq_some_iff.1 hi).1; simpa [rRow] using this
      rw [rRow_at hi2, if_pos hi2] at hi
      cases hi
      simp [MV.lt]; omega
    · simp [ltL, MV.lt]; omega
    · refine ltL_iff'.2 fun m hm => ?_
      rw [List.mem_replicate] at hm
      rw [hm.2]; rfl
  refine ⟨rfl, rfl, ⟨⟨rRow t.ter.length t.W t.ter.length, rfl, by simp [rRow], fun y hy => by rw [rRow_at hy, if_pos hy]⟩, fun y hy => ?_, by simp, fun y hy => by rw [zeros_at hy]; simp, fun y y' _ _ h => Nat.add_left_cancel h, fun y hy => by show 4 + y ≠ 2; omega⟩, ?_, .nil, hfull, fun n hn => ?_⟩
  · rw [zeros_at hy]
    show (loH t t.ter.length ++ _)[4 + y]? = _
    rw [List.getElem?_append_left (by omega), loH_get hy]
    simp
  · rw [List.getElem?_append_right (by omega), hL]; simp
  · subst hn
    refine ⟨Nat.le_refl _, ?_⟩
    have := hfull
    unfold Full at this
    rw [List.length_append, hL] at this
    simpa [Nat.add_comm, Nat.add_left_comm, Nat.add_assoc] using this
theorem nodesP_mem {H W y x : Nat} : (y, x) ∈ nodesP H W ↔ y < H ∧ x < W := by
  unfold nodesP
  simp only [List.mem_flatMap, List.mem_range, List.mem_map, Prod.mk.injEq]
  constructor
  · rintro ⟨a, h1, b, h2, rfl, rfl⟩; exact ⟨h1, h2⟩
  · rintro ⟨h1, h2⟩; exact ⟨y, h1, x, h2, rfl, rfl⟩
theorem nodesP_len (H W : Nat) : (nodesP H W).length = H * W := by
  induction H with
  | zero => simp [nodesP]
  | succ n ih => rw [nodesP_succ, List.length_append, ih, List.length_map, List.length_range, Nat.succ_mul]
theorem mf_lowest : MT.mf 115 = some ⟨96, [(.tmp 2)], (.seq (.reg [⟨none, some 1, .box 9 (.s 0)⟩, ⟨none, some 2, .nil0 1⟩]) (.seq (.reg [⟨none, some 10, .fa 6 (.s 1)⟩, ⟨none, some 11, .ld none (.s 10)⟩, ⟨none, some 12, .mks (.lit (.slice none 0 0)) (.s 11)⟩, ⟨none, some 3, .new (.lit (.slice none 0 0))⟩, ⟨none, none, .st 1 (.s 3) (.s 12)⟩]) (.seq (.seq (.reg [⟨none, some 13, .ld none (.s 3)⟩, ⟨none, some 14, .len (.s 13)⟩, ⟨none, some 15, .mv (.c (.lit (.int .i64 0)))⟩]) (.block 0 (.loop [15, 14, 3, 1] (.seq (.reg [⟨none, some 16, .bin .lss (.s 15) (.s 14)⟩]) (.seq (.cond (.s 16) .skip (.exit 0)) (.seq (.block 1 (.seq (.reg [⟨none, some 17, .mv (.s 15)⟩, ⟨none, some 4, .mv (.s 17)⟩]) (.reg [⟨none, some 18, .ld none (.s 3)⟩, ⟨none, some 19, .mv (.s 4)⟩, ⟨none, some 20, .fa 5 (.s 1)⟩, ⟨none, some 21, .ld none (.s 20)⟩, ⟨none, some 22, .mks (.lit (.int .i64 0)) (.s 21)⟩, ⟨none, some 23, .ia 1 (.s 18) (.s 19)⟩, ⟨none, none, .st 1 (.s 23) (.s 22)⟩]))) (.reg [⟨none, some 24, .bin .add (.s 15) (.c (.lit (.int .i64 1)))⟩, ⟨none, some 15, .mv (.s 24)⟩]))))))) (.seq (.reg [⟨none, some 5, .new (.lit (.slice none 0 0))⟩]) (.seq (.seq (.reg [⟨none, some 25, .ld (some 9) (.s 1)⟩, ⟨none, some 26, .mf 114 1 [.s 25]⟩]) (.block 2 (.rf [1, 3, 5] (.s 26) [27] (.reg [⟨none, some 6, .new (.agg [(.lit (.int .i64 0)), (.lit (.int .i64 0))])⟩, ⟨none, none, .st 2 (.s 6) (.s 27)⟩]) (.block 3 (.seq (.reg [⟨none, some 28, .ld (some 9) (.s 1)⟩, ⟨none, some 29, .ld (some 2) (.s 6)⟩, ⟨none, some 30, .call 116 [.s 28, .s 29]⟩]) (.cond (.s 30) (.seq (.reg [⟨none, some 31, .ld none (.s 3)⟩, ⟨none, some 32, .fa 1 (.s 6)⟩, ⟨none, some 33, .ld none (.s 32)⟩, ⟨none, some 34, .ia 1 (.s 31) (.s 33)⟩, ⟨none, some 35, .ld none (.s 34)⟩, ⟨none, some 36, .fa 0 (.s 6)⟩, ⟨none, some 37, .ld none (.s 36)⟩, ⟨none, some 38, .ld (some 9) (.s 1)⟩, ⟨none, some 39, .ld (some 2) (.s 6)⟩, ⟨none, some 40, .call 117 [.s 38, .s 39]⟩, ⟨none, some 41, .ia 1 (.s 35) (.s 37)⟩, ⟨none, none, .st 1 (.s 41) (.s 40)⟩]) (.reg [⟨none, some 42, .ld none (.s 5)⟩, ⟨none, some 43, .ld (some 2) (.s 6)⟩, ⟨none, some 44, .bsl (.agg [(.lit (.int .i64 0)), (.lit (.int .i64 0))]) 2 1 [(0, (.s 43))]⟩, ⟨none, some 45, .app 2 (.s 42) (.s 44)⟩, ⟨none, none, .st 1 (.s 5) (.s 45)⟩])) .skip)))))) (.seq (.block 4 (.loop [5, 1, 3] (.seq (.seq (.reg [⟨none, some 46, .ld none (.s 5)⟩, ⟨none, some 47, .len (.s 46)⟩, ⟨none, some 48, .bin .gtr (.s 47) (.c (.lit (.int .i64 0)))⟩]) (.cond (.s 48) .skip (.exit 4))) (.block 5 (.seq (.reg [⟨none, some 49, .ld none (.s 5)⟩, ⟨none, some 50, .ia 2 (.s 49) (.c (.lit (.int .i64 0)))⟩, ⟨none, some 51, .ld (some 2) (.s 50)⟩, ⟨none, some 7, .new (.agg [(.lit (.int .i64 0)), (.lit (.int .i64 0))])⟩, ⟨none, none, .st 2 (.s 7) (.s 51)⟩]) (.seq (.reg [⟨none, some 52, .ld none (.s 5)⟩, ⟨none, some 53, .slc 2 (.s 52) (some (.c (.lit (.int .i64 1)))) none⟩, ⟨none, none, .st 1 (.s 5) (.s 53)⟩]) (.seq (.reg [⟨none, some 54, .ld (some 9) (.s 1)⟩, ⟨none, some 55, .ld (some 2) (.s 7)⟩, ⟨none, some 56, .call 154 [.s 54, .s 55]⟩]) (.block 6 (.rf [3, 7, 1, 5] (.s 56) [57] (.reg [⟨none, some 8, .new (.agg [(.lit (.int .i64 0)), (.lit (.int .i64 0))])⟩, ⟨none, none, .st 2 (.s 8) (.s 57)⟩]) (.block 7 (.seq (.reg [⟨none, some 58, .ld none (.s 3)⟩, ⟨none, some 59, .fa 1 (.s 7)⟩, ⟨none, some 60, .ld none (.s 59)⟩, ⟨none, some 61, .ia 1 (.s 58) (.s 60)⟩, ⟨none, some 62, .ld none (.s 61)⟩, ⟨none, some 63, .fa 0 (.s 7)⟩, ⟨none, some 64, .ld none (.s 63)⟩, ⟨none, some 65, .ia 1 (.s 62) (.s 64)⟩, ⟨none, some 66, .ld none (.s 65)⟩, ⟨none, some 67, .fa 0 (.s 1)⟩, ⟨none, some 68, .fa 4 (.s 67)⟩, ⟨none, some 69, .ld none (.s 68)⟩, ⟨none, some 70, .bin .sub (.s 66) (.s 69)⟩, ⟨none, some 9, .mv (.s 70)⟩]) (.seq (.reg [⟨none, some 71, .mv (.s 9)⟩, ⟨none, some 72, .ld none (.s 3)⟩, ⟨none, some 73, .fa 1 (.s 8)⟩, ⟨none, some 74, .ld none (.s 73)⟩, ⟨none, some 75, .ia 1 (.s 72) (.s 74)⟩, ⟨none, some 76, .ld none (.s 75)⟩, ⟨none, some 77, .fa 0 (.s 8)⟩, ⟨none, some 78, .ld none (.s 77)⟩, ⟨none, some 79, .ia 1 (.s 76) (.s 78)⟩, ⟨none, some 80, .ld none (.s 79)⟩, ⟨none, some 81, .bin .gtr (.s 71) (.s 80)⟩]) (.cond (.s 81) (.seq (.reg [⟨none, some 82, .ld none (.s 3)⟩, ⟨none, some 83, .fa 1 (.s 8)⟩, ⟨none, some 84, .ld none (.s 83)⟩, ⟨none, some 85, .ia 1 (.s 82) (.s 84)⟩, ⟨none, some 86, .ld none (.s 85)⟩, ⟨none, some 87, .fa 0 (.s 8)⟩, ⟨none, some 88, .ld none (.s 87)⟩, ⟨none, some 89, .mv (.s 9)⟩, ⟨none, some 90, .ia 1 (.s 86) (.s 88)⟩, ⟨none, none, .st 1 (.s 90) (.s 89)⟩]) (.reg [⟨none, some 91, .ld none (.s 5)⟩, ⟨none, some 92, .ld (some 2) (.s 8)⟩, ⟨none, some 93, .bsl (.agg [(.lit (.int .i64 0)), (.lit (.int .i64 0))]) 2 1 [(0, (.s 92))]⟩, ⟨none, some 94, .app 2 (.s 91) (.s 93)⟩, ⟨none, none, .st 1 (.s 5) (.s 94)⟩])) .skip))))))))))))) (.seq (.reg [⟨none, some 95, .ld none (.s 3)⟩, ⟨none, some 2, .mv (.s 95)⟩]) .ret)))))))⟩ := by kernel_rfl
set_option maxHeartbeats 4000000 in
theorem lowest_z (k : Nat) (t : Tk) (ok : OkT t) {g : List (List Int)} (hg : Lea t g) : runZ MT (orA (k + 4)) (itA (k + 4)) 4000000 115 [encO t] [] = some (.arr 0 0 t.ter.length 0, [⟨0, false, 1, g.map encW⟩]) := by
  obtain ⟨h1, h2⟩ := ok.h1
  obtain ⟨w1, w2⟩ := ok.w1
  refine runZ_of mf_lowest (by simp) ?_
  simp only [argsL]
  repeat (first | apply ef_seq | (apply ef_mv; exact rfl; exact rfl) | (apply ef_len; exact rfl; exact rfl; (exact rfl)) | (apply ef_ldp; exact rfl; exact rfl; (exact rfl); exact rfl; (exact rfl); (exact rfl)) | (apply ef_fap; exact rfl; exact rfl) | (apply ef_box; exact rfl; exact rfl; exact rfl; exact rfl) | (apply ef_newst; exact rfl; exact rfl; exact rfl; exact rfl; exact rfl) | (apply ef_nil0; exact rfl) | (apply ef_mks; exact rfl; exact rfl; (omega); (omega)) | apply ef_nil | apply seqQ.normal | apply ef_block)
  refine ef_loopg (α := Nat) (fun y => y ≤ t.ter.length) (fun y => [(15, I64 (y : Int))]) [(14, _), (3, .ptr 3 0 0 0), (1, .ptr 0 0 0 0)] (fun y => loH t y) (fun y => t.ter.length - y) 0 [15] (fun _ => rfl) (by ((repeat (refine Hold.cons (by exact rfl) ?_)); exact Hold.nil)) (by ((repeat (refine Hold.cons (by exact rfl) ?_)); exact Hold.nil)) rfl rfl (by rw [loH, rRow_zero]; rfl) (by simp) (by simp; omega) ?_
  intro y hy
  by_cases hlt : y < t.ter.length
  · have hcell : (rRow t.ter.length t.W y)[0 + ((y : Nat) : Int).toNat]? = some (.lit (.slice none 0 0)) := by
      rw [Nat.zero_add, Int.toNat_natCast, rRow_at hlt, if_neg (by omega)]
    repeat (first | apply ef_seq | (apply ef_mv; exact rfl; exact rfl) | (apply ef_bin; exact rfl; exact rfl; exact rfl; (first | exact cmp_t rfl (by first | exact rfl | (simp only [cmpP]; omega)) | ((with_reducible refine bin_add (wrap_of ?_ ?_)) <;> omega))) | (apply ef_ldp; exact rfl; exact rfl; (exact rfl); exact rfl; (exact rfl); (exact rfl)) | (apply ef_iaa; exact rfl; exact rfl; exact rfl; (omega); (omega); (exact rfl)) | (apply ef_fap; exact rfl; exact rfl) | (apply ef_mks; exact rfl; exact rfl; (omega); (omega)) | (apply ef_st; exact rfl; exact rfl; exact rfl; exact rfl; exact rfl; exact rfl; (assumption); exact rfl) | apply ef_nil | apply seqQ.normal | apply blockQ.normal | apply ef_block | apply ef_skip | (apply ef_condt; exact rfl; (exact (rfl : true = true))))
    refine loopQ.normal _ _ ⟨y + 1, hlt, by omega, ⟨by ((repeat (refine Hold.cons (by exact rfl) ?_)); exact Hold.nil), by ((repeat (refine Hold.cons (by exact rfl) ?_)); exact Hold.nil)⟩, HeadIs.cellE ?_ (hltL_no (m := 4) (j := 2) (o := ⟨0, false, 1, rRow t.ter.length t.W (y + 1)⟩) (by decide) rfl (rRow_lt hlt))⟩
    show List.set (loH t y ++ [⟨0, false, 1, List.replicate ((t.W : Int)).toNat (I64 0)⟩]) 2 ⟨0, false, 1, (rRow t.ter.length t.W y).set (0 + ((y : Nat) : Int).toNat) (.arr (loH t y).length 0 ((t.W : Int)).toNat 0)⟩ = _
    rw [loH_len, Int.toNat_natCast t.W, rRow_set]
    simp [loH, List.replicate_succ']
  · obtain rfl : y = t.ter.length := by omega
    repeat (first | apply ef_seq | (apply ef_bin; exact rfl; exact rfl; exact rfl; (exact cmp_f rfl (by simp only [cmpP]; omega))) | (apply ef_ldp; exact rfl; exact rfl; (exact rfl); exact rfl; (exact rfl); (exact rd_whole rfl)) | (apply ef_new; exact rfl) | (apply ef_mf; exact rfl; (repeat (apply XVs.cons; exact rfl)); exact XVs.nil) | apply ef_nil | apply seqQ.normal | apply loopQ.exit | apply ef_exit | apply seqQ.exit | apply blockQ.here | apply ef_block | (apply ef_condf; exact rfl; (exact (rfl : false = false))))
    rw [loH_len]
    have hm0 := loM0 t ok
    show Ef _ _ _ _ _ _ _ (loH t t.ter.length ++ [⟨0, false, 1, [.lit (.slice none 0 0)]⟩]) _
    have hlen0 : (loH t t.ter.length ++ [(⟨0, false, 1, [.lit (.slice none 0 0)]⟩ : MObj)]).length = 5 + t.ter.length := by rw [List.length_append, loH_len]; simp; omega
    generalize (loH t t.ter.length ++ [(⟨0, false, 1, [.lit (.slice none 0 0)]⟩ : MObj)]) = hh0 at *
    refine ef_rf (α := List (List Int) × Nat × MV × List (Nat × Nat) × MHeap) (ids := [])
      (fun i s => Shp t s.1 ∧ (∀ y x, y < t.H → x < t.W → at2 s.1 y x = if (y, x) ∈ (nodesP t.ter.length t.W).take i then t.base y x else 0) ∧ s.2.2.2.1 = ((nodesP t.ter.length t.W).take i).filter (fun p => t.fl p.1 p.2) ∧ s.2.1 ≤ i ∧ LoM t (fun n => s.2.2.2.1 = [] ∧ n = 5 + t.ter.length) s.1 s.2.1 s.2.2.1 s.2.2.2.1 s.2.2.2.2 ∧ (s.2.2.2.1 = [] → s.2.2.1 = .lit (.slice none 0 0)) ∧ (s.2.2.2.1 ≠ [] → s.2.2.1.lt (5 + t.ter.length) = false ∧ s.2.2.1 ≠ .lit (.slice none 0 0)))
      [(1, .ptr 0 0 0 0), (3, .ptr 3 0 0 0), (5, .ptr (4 + t.ter.length) 0 0 0)] (fun s => s.2.2.2.2) (fun s => if s.2.2.2.1 = [] then s.2.2.2.2.take (5 + t.ter.length) else s.2.2.2.2)
      (List.replicate t.ter.length (List.replicate t.W 0), 0, .lit (.slice none 0 0), [], hh0) (by exact rfl) (nodes_it (k + 4) t ok _) (by simp [posY]) (idsL_lt0 (by simp [ltL, MV.lt, ltL_I, ltL_W, ltL_B])) (by ((repeat (refine Hold.cons (by exact rfl) ?_)); exact Hold.nil)) rfl rfl rfl ⟨⟨by simp [Tk.H], fun y h => by simp⟩, fun y x hy hx => by
        simp only [List.take_zero, List.not_mem_nil, if_false]
        unfold at2
        rw [zeros_at (H := t.ter.length) hy, List.getD_eq_getElem?_getD, List.getElem?_replicate, if_pos hx]; rfl, rfl, by simp, hm0.less fun n h => h.2, fun _ => rfl, fun h => absurd rfl h⟩ rfl ?_ ?_ ?_
    · rintro i ⟨s, B, qv, Q, h⟩ ⟨_, _, _, _, hm, _, hq⟩
      simp only at hm hq ⊢
      rw [hlen0]
      by_cases hQ : Q = []
      · rw [if_pos hQ]
        refine HeadIs.tk (hm.lv _ ⟨hQ, rfl⟩).2 fun u hu => ?_
        simp only [List.mem_cons, List.not_mem_nil, or_false] at hu
        rcases hu with rfl | rfl | rfl
        · exact ⟨.ptr 0 0 0 0, by exact rfl, by simp [MV.lt]; omega⟩
        · exact ⟨.ptr 3 0 0 0, by exact rfl, by simp [MV.lt]; omega⟩
        · exact ⟨.ptr (4 + t.ter.length) 0 0 0, by exact rfl, by simp [MV.lt]⟩
      · rw [if_neg hQ]
        exact .cell (hltL_no (j := 4 + t.ter.length) (by omega) hm.qc (by simp [ltL, (hq hQ).1]))
    · rintro i ⟨s, B, qv, Q, h⟩ x hx ⟨hsh, hat, hQ, hB, hm, hq1, hq2⟩
      simp only at hsh hat hQ hB hm hq1 hq2 ⊢
      obtain ⟨⟨y, x⟩, hp, rfl⟩ : ∃ p, (nodesP t.ter.length t.W)[i]? = some p ∧ x = [posM p] := by
        simp only [posY, List.getElem?_map, Option.map_eq_some_iff] at hx
        obtain ⟨w, h1, h2⟩ := hx
        exact ⟨w, h1, h2.symm⟩
      obtain ⟨hy, hxw⟩ := nodesP_mem.1 (List.mem_of_getElem? hp)
      have hi := (List.getElem?_eq_some_iff.1 hp).1
      have htk : (nodesP t.ter.length t.W).take (i + 1) = (nodesP t.ter.length t.W).take i ++ [(y, x)] := by rw [List.take_add_one, hp]; rfl
      have hm1 : LoM t (fun n => Q = [] ∧ n = 5 + t.ter.length) s B qv Q (if Q = [] then h.take (5 + t.ter.length) else h) := by
        by_cases hQ0 : Q = []
        · rw [if_pos hQ0]
          exact hm.take ⟨hQ0, rfl⟩ fun k hk => by omega
        · rw [if_neg hQ0]; exact hm
      generalize (if Q = [] then h.take (5 + t.ter.length) else h) = hh at *
      simp only [putA]
      have hm2 := hm1.app1 ⟨0, false, 2, [posM (y, x)]⟩ rfl
      have hpc : (hh ++ [(⟨0, false, 2, [posM (y, x)]⟩ : MObj)])[hh.length]? = some ⟨0, false, 2, [posM (y, x)]⟩ := at_end _ _
      have hpl := hm1.len
      have f0 := hm2.b0
      have f3 := hm2.b3
      have fq := hm2.qc
      obtain ⟨refs, r1, r2, r3, r4, r5, r6⟩ := hm2.sf.rd hy hxw
      try simp only at r3 r4 r5
      repeat (first | (apply ef_newst; exact rfl; exact rfl; exact rfl; exact rfl; exact rfl) | apply ef_nil)
      apply preQ.normal
      cases hf : t.fl y x
      · have hfl := fun h => flown_c (k + 1) t (x : Int) (y : Int) h (by omega) (by omega) ((t.flI_nat hy hxw).trans hf)
        repeat (first | apply ef_seq | (apply ef_ldp; exact rfl; exact rfl; (assumption); exact rfl; (exact rfl); (first | exact rd_2 rfl rfl | exact rd_whole rfl)) | apply ef_nil | apply seqQ.normal | apply blockQ.normal | apply ef_block | apply ef_skip | (apply ef_condf; exact rfl; (exact (rfl : false = false))) | (apply ef_call; exact rfl; ((repeat (apply XVs.cons; exact rfl)); exact XVs.nil); (with_reducible exact hfl _)))
        apply rfQ.normal
        refine ⟨(s, B, qv, Q, hh ++ [⟨0, false, 2, [posM (y, x)]⟩]), ⟨hsh, fun a b ha hb => ?_, ?_, by simp only; omega, hm2, hq1, hq2⟩, rfl⟩
        · simp only
          rw [hat a b ha hb, htk]
          by_cases e : (a, b) = (y, x)
          · cases e
            have : t.base y x = 0 := by simp [Tk.base, hf]
            simp [this]
          · simp [List.mem_append, e]
        · simp only
          rw [hQ, htk, List.filter_append]
          simp [hf]
      · have hfl := fun h => flown_c (k + 1) t (x : Int) (y : Int) h (by omega) (by omega) ((t.flI_nat hy hxw).trans hf)
        have hown := fun h => own_c (k + 3) t ok hy hxw h
        repeat (first | apply ef_seq | (apply ef_ldp; exact rfl; exact rfl; (assumption); exact rfl; (first | exact rfl | assumption); (first | exact rd_2 rfl rfl | exact rd_whole rfl | exact rfl)) | (apply ef_iaa; exact rfl; exact rfl; exact rfl; (omega); (omega); (assumption)) | (apply ef_fap; exact rfl; exact rfl) | apply ef_nil | apply seqQ.normal | apply ef_block | (apply ef_condt; exact rfl; (exact (rfl : true = true))) | (apply ef_call; exact rfl; ((repeat (apply XVs.cons; exact rfl)); exact XVs.nil); (with_reducible first | exact hfl _ | exact hown _)))
        refine ef_st (o := ⟨0, false, 1, (s.getD y []).map I64⟩) (v := I64 (t.need y x)) (by exact rfl) rfl (by exact rfl) r4 rfl rfl r6 rfl ?_
        have m3 := hm2.put (x := x) (v := t.need y x) hy
        have hpc3 : ((hh ++ [(⟨0, false, 2, [posM (y, x)]⟩ : MObj)]).set (4 + y) ⟨0, false, 1, ((s.getD y []).map I64).set x (I64 (t.need y x))⟩)[hh.length]? = some ⟨0, false, 2, [posM (y, x)]⟩ := by
          rw [List.getElem?_set_ne (by omega)]; exact hpc
        show Ef _ _ _ _ _ _ _ ((hh ++ [(⟨0, false, 2, [posM (y, x)]⟩ : MObj)]).set (4 + y) ⟨0, false, 1, ((s.getD y []).map I64).set (0 + ((x : Nat) : Int).toNat) (I64 (t.need y x))⟩) _
        rw [show 0 + ((x : Nat) : Int).toNat = x by simp]
        clear f0 f3 fq r1 r2 r3 r4 r5 r6 hpc
        generalize ((hh ++ [(⟨0, false, 2, [posM (y, x)]⟩ : MObj)]).set (4 + y) ⟨0, false, 1, ((s.getD y []).map I64).set x (I64 (t.need y x))⟩) = h3 at m3 hpc3 ⊢
        have fq := m3.qc
        have hset := fun a b => at2_set (g := s) (y := y) (x := x) (y' := a) (x' := b) (v := t.need y x) (by rw [hsh.hl]; exact hy) (by rw [hsh.row hy]; exact hxw)
        have hat2 : ∀ a b, a < t.H → b < t.W → at2 (set2 s y x (t.need y x)) a b = if (a, b) ∈ (nodesP t.ter.length t.W).take (i + 1) then t.base a b else 0 := fun a b ha hb => by
          rw [hset, hat a b ha hb, htk]
          by_cases e : a = y ∧ b = x
          · obtain ⟨rfl, rfl⟩ := e
            simp [Tk.base, hf]
          · rw [if_neg e]
            have : ¬ ((a, b) = (y, x)) := fun h => e (by cases h; exact ⟨rfl, rfl⟩)
            simp [List.mem_append, this]
        have hfil : ((nodesP t.ter.length t.W).take (i + 1)).filter (fun p => t.fl p.1 p.2) = Q ++ [(y, x)] := by
          rw [htk, List.filter_append, ← hQ]
          simp [hf]
        have hnl : i < 144 := by
          rw [nodesP_len] at hi
          have := Nat.mul_le_mul h2 w2
          omega
        have hl3 := m3.len
        repeat (first | apply ef_nil | apply seqQ.normal)
        (apply ef_ldp; (· exact rfl); (· exact rfl); (· exact fq); (· exact rfl); (· exact rfl); (· exact m3.qu.cell))
        repeat (first | (apply ef_ldp; exact rfl; exact rfl; (assumption); exact rfl; (exact rfl); (exact rd_2 rfl rfl)) | (apply ef_bsl; exact rfl; (repeat (apply XVs.cons; exact rfl)); exact XVs.nil; exact rfl))
        by_cases hQ0 : Q = []
        · have hqn := hq1 hQ0
          rw [hQ0, hqn] at m3
          rw [hQ0, List.nil_append] at hfil
          subst hqn
          (apply ef_pushN (t := t) (q := (y, x)); (· exact rfl); (· exact rfl); (· exact rfl); (· exact fun _ => rfl); (· exact fun _ => rfl); (· exact m3))
          intro h4 qv4 m4 n4 l4
          repeat (first | apply ef_nil | apply blockQ.normal)
          apply rfQ.normal
          exact ⟨(set2 s y x (t.need y x), B + 1, qv4, [(y, x)], h4), ⟨hsh.set hy, hat2, hfil.symm, by simp only; omega, m4.less (fun n hn => by cases hn.1), (fun h => by cases h), fun _ => ⟨l4 _ (by omega), n4⟩⟩, rfl⟩
        · obtain ⟨q1, q2⟩ := hq2 hQ0
          (apply ef_pushA (t := t) (q := (y, x)); (· exact rfl); (· exact rfl); (· exact rfl); (· exact fun _ => rfl); (· exact fun _ => rfl); (· exact m3); (· exact q2); (· omega))
          intro h4 qv4 m4 n4 l4 _ _
          repeat (first | apply ef_nil | apply blockQ.normal)
          apply rfQ.normal
          exact ⟨(set2 s y x (t.need y x), B + 1, qv4, Q ++ [(y, x)], h4), ⟨hsh.set hy, hat2, hfil.symm, by simp only; omega, m4.less (fun n hn => by have := hn.1; simp at this), (fun h => by simp at h), fun _ => ⟨by rw [l4]; exact q1, n4⟩⟩, rfl⟩
    · rintro ⟨s, B, qv, Q, h⟩ ⟨hsh, hat, hQ, hB, hm, hq1, hq2⟩
      simp only at hsh hat hQ hB hm hq1 hq2 ⊢
      have hlenY : (posY (nodesP t.ter.length t.W)).length = (nodesP t.ter.length t.W).length := by simp [posY]
      rw [hlenY, List.take_length] at hQ hat
      rw [hlenY, nodesP_len] at hB
      have hs0 : s = t.s0 := hsh.ext (s0_shp t) fun y x hy hx => by rw [hat y x hy hx, if_pos (nodesP_mem (H := t.ter.length).2 ⟨hy, hx⟩), s0_at hy hx]
      have h144 : t.ter.length * t.W ≤ 12 * 12 := Nat.mul_le_mul h2 w2
      have hQl : Q.length ≤ 144 := by
        rw [hQ]
        have := List.length_filter_le (fun p => t.fl p.1 p.2) (nodesP t.ter.length t.W)
        rw [nodesP_len] at this
        omega
      have hqi : QuI t s Q none := by
        subst hs0
        refine ⟨s0_pre t, fun p hp => ?_, fun y x hy hx hf hn _ => ?_⟩
        · rw [hQ, List.mem_filter] at hp
          obtain ⟨a, b⟩ := p
          exact ⟨(nodesP_mem.1 hp.1).1, (nodesP_mem.1 hp.1).2, hp.2⟩
        · exact absurd (by rw [hQ, List.mem_filter]; exact ⟨nodesP_mem.2 ⟨hy, hx⟩, hf⟩) hn
      have hq3 : Q ≠ [] → qv ≠ .lit (.slice none 0 0) := fun h => (hq2 h).2
      have hm3 := hm.lev.less (N' := fun n => n = h.length) fun n hn => .inr hn
      clear hQ hat hq1 hq2 hs0 hsh hm hm0 hlenY
      have ht0 := ok.tot hqi.pre
      repeat (first | apply ef_seq | apply seqQ.normal | apply blockQ.normal | apply ef_block)
      refine ef_loopg (α := List (List Int) × Nat × MV × List (Nat × Nat) × MHeap)
        (fun s => QuI t s.1 s.2.2.2.1 none ∧ LoM t (fun n => n = h.length) s.1 s.2.1 s.2.2.1 s.2.2.2.1 s.2.2.2.2 ∧ s.2.2.2.2.length = h.length ∧ (s.2.1 : Int) ≤ 144 + tot s.1 ∧ (s.2.2.2.1 ≠ [] → s.2.2.1 ≠ .lit (.slice none 0 0)))
        (fun _ => []) [(5, .ptr (4 + t.ter.length) 0 0 0), (1, .ptr 0 0 0 0), (3, .ptr 3 0 0 0)] (fun s => s.2.2.2.2) (fun s => s.2.2.2.1.length + (2880000 - tot s.1).toNat) (s, B, qv, Q, h) [] (fun _ => rfl) (by ((repeat (refine Hold.cons (by exact rfl) ?_)); exact Hold.nil)) (by ((repeat (refine Hold.cons (by exact rfl) ?_)); exact Hold.nil)) rfl rfl rfl ⟨hqi, hm3, rfl, by simp only; omega, hq3⟩ (by simp only; omega) ?_
      clear hqi hm3 hB hQl hq3 ht0 hlen0 s B qv Q
      rintro ⟨s, B, qv, Q, h5⟩ ⟨hqi, hm, hl5, hB, hq3⟩
      simp only at hqi hm hl5 hB hq3 ⊢
      have ht0 := ok.tot hqi.pre
      have fq := hm.qc
      have f3 := hm.b3
      cases Q with
      | nil =>
        have hlea := hqi.done
        have hsg : s = g := hlea.uniq hg
        obtain ⟨refs, k1, k2, k3⟩ := hm.sf.top
        have hrow := hm.sf.row
        have hwl := hm.sf.wl
        have hgl := hm.sf.gl
        have he : refs.mapM (frz 0 [2] h5 8) = some (g.map encW) := by
          rw [← hsg]
          refine mapM_get (by rw [k2, List.length_map, hgl]) fun j a b ha hb => ?_
          have hj : j < t.ter.length := by have := (List.getElem?_eq_some_iff.1 ha).1; omega
          rw [k3 j hj] at ha
          cases ha
          have hr := hrow j hj
          have hw := hwl j hj
          have hb2 : b = encW (s.getD j []) := by
            rw [List.getElem?_map, List.getElem?_eq_getElem (by omega)] at hb
            cases hb
            rw [List.getD_eq_getElem?_getD, List.getElem?_eq_getElem (by omega)]; rfl
          rw [hb2]
          clear hb hb2
          generalize s.getD j [] = r at *
          have q1 : ([2] : List Nat).contains (4 + j) = false := by simp; omega
          have q2 : (r.map I64).take t.W = r.map I64 := List.take_of_length_le (by simp; omega)
          simp only [frz, MV.lt, Nat.not_lt_zero, decide_false, Bool.false_eq_true, if_false, q1, hr]
          simp only [ltL_I, if_true, List.drop_zero, q2]
          simp [hw]
        have hlf : ltL 0 refs = true → refs = g.map encW := fun hl => by
          have := ltL_iff'.1 hl _ (List.mem_of_getElem? (k3 0 h1))
          simp [MV.lt] at this
        have hqu := hm.qu
        cases hqu with
        | nil =>
          repeat (first | apply ef_seq | (apply ef_mv; exact rfl; exact rfl) | (apply ef_bin; exact rfl; exact rfl; exact rfl; (exact cmp_f rfl (by simp only [cmpP]; omega))) | (apply ef_len; exact rfl; exact rfl; (exact rfl)) | (apply ef_ldp; exact rfl; exact rfl; (assumption); exact rfl; (exact rfl); (exact rfl)) | apply ef_nil | apply seqQ.normal | apply loopQ.exit | apply ef_ret | apply ef_exit | apply seqQ.exit | apply blockQ.here | (apply ef_condf; exact rfl; (exact (rfl : false = false))))
          (apply fin_arrF; (· exact rfl); (· exact rfl); (· exact k1); (· exact rfl); (· exact k2.symm); (· exact he); (· exact hlf); (· exact rfl); (· exact rfl))
        | arr id gen P _ k1' k2' k3' =>
          repeat (first | apply ef_seq | (apply ef_mv; exact rfl; exact rfl) | (apply ef_bin; exact rfl; exact rfl; exact rfl; (exact rfl)) | (apply ef_len; exact rfl; exact rfl; (exact rfl)) | (apply ef_ldp; exact rfl; exact rfl; (assumption); exact rfl; (exact rfl); (exact rfl)) | apply ef_nil | apply seqQ.normal | apply loopQ.exit | apply ef_ret | apply ef_exit | apply seqQ.exit | apply blockQ.here | (apply ef_condf; exact rfl; (exact (rfl : false = false))))
          (apply fin_arrF; (· exact rfl); (· exact rfl); (· exact k1); (· exact rfl); (· exact k2.symm); (· exact he); (· exact hlf); (· exact rfl); (· exact rfl))
      | cons q Q =>
        obtain ⟨y, x⟩ := q
        have hq4 := hq3 (by simp)
        have hqu := hm.qu
        cases hqu with
        | arr id gen P _ k1 k2 k3 =>
          have hok : MHeap.ok h5 id gen 2 = true := ok_of k1 rfl rfl
          have hlq : ((y, x) :: Q).length = Q.length + 1 := rfl
          have hel : ((P ++ (y, x) :: Q).map posM)[P.length + (0 : Int).toNat]? = some (posM (y, x)) := by simp
          have hm1 := (hm.app1 ⟨0, false, 2, [posM (y, x)]⟩ rfl)
          have fq1 := hm1.qc
          have hpc : (h5 ++ [(⟨0, false, 2, [posM (y, x)]⟩ : MObj)])[h5.length]? = some ⟨0, false, 2, [posM (y, x)]⟩ := at_end _ _
          have hok1 : MHeap.ok (h5 ++ [(⟨0, false, 2, [posM (y, x)]⟩ : MObj)]) id gen 2 = true := ok_of (at_app k1 _) rfl rfl
          repeat (first | apply ef_seq | (apply ef_bin; exact rfl; exact rfl; exact rfl; (exact cmp_t rfl (by first | exact rfl | (simp only [cmpP]; omega)))) | (apply ef_len; exact rfl; exact rfl; (exact rfl)) | (apply ef_ldp; exact rfl; exact rfl; (assumption); exact rfl; (first | exact rfl | assumption); (first | exact rd_2 rfl rfl | exact rfl)) | (apply ef_iaa; exact rfl; exact rfl; exact rfl; (omega); (omega); (assumption)) | (apply ef_newst; exact rfl; exact rfl; exact rfl; exact rfl; exact rfl) | apply ef_nil | apply seqQ.normal | apply ef_block | apply ef_skip | (apply ef_condt; exact rfl; (exact (rfl : true = true))))
          refine ef_slca1 (ht := by exact rfl) (l := 1) (m := ((y, x) :: Q).length) (by exact rfl) (by exact rfl) (by omega) hok1 ?_
          (apply ef_st; (· exact rfl); (· exact rfl); (· exact rfl); (· exact fq1); (· exact rfl); (· exact rfl); (· exact rfl); (· exact rfl))
          have hid : id < h.length := by
            have := hm.qlt (hm.lv h.length rfl).2 (hm.lv h.length rfl).1
            simpa [MV.lt] using this
          have h5l := hm.len
          have m2 := hm1.pop (at_app k1 _) k2 k3
          show Ef _ _ _ _ _ _ _ ((h5 ++ [(⟨0, false, 2, [posM (y, x)]⟩ : MObj)]).set (4 + t.ter.length) ⟨0, false, 1, [.arr id (P.length + 1) Q.length gen]⟩) _
          have hpc2 : ((h5 ++ [(⟨0, false, 2, [posM (y, x)]⟩ : MObj)]).set (4 + t.ter.length) ⟨0, false, 1, [.arr id (P.length + 1) Q.length gen]⟩)[h5.length]? = some ⟨0, false, 2, [posM (y, x)]⟩ := by
            rw [List.getElem?_set_ne (by omega)]; exact hpc
          have hl6 : ((h5 ++ [(⟨0, false, 2, [posM (y, x)]⟩ : MObj)]).set (4 + t.ter.length) ⟨0, false, 1, [.arr id (P.length + 1) Q.length gen]⟩).length = h.length + 1 := by simp [hl5]
          obtain ⟨hyb, hxb, hfb⟩ := hqi.mem (y, x) List.mem_cons_self
          simp only at hyb hxb hfb
          have hqp := hqi.pop
          clear hm1 hpc hok hok1 fq fq1 hel k1 hm hqi hq3 hq4 f3
          generalize ((h5 ++ [(⟨0, false, 2, [posM (y, x)]⟩ : MObj)]).set (4 + t.ter.length) ⟨0, false, 1, [.arr id (P.length + 1) Q.length gen]⟩) = h6 at *
          have f0 := m2.b0
          repeat (first | apply ef_seq | (apply ef_ldp; exact rfl; exact rfl; (assumption); exact rfl; (exact rfl); (first | exact rd_2 rfl rfl | exact rd_whole rfl)) | apply ef_nil | apply seqQ.normal | apply ef_block | (apply ef_call; exact rfl; ((repeat (apply XVs.cons; exact rfl)); exact XVs.nil); (with_reducible exact neighbours_c (k + 3) t _)))
          refine ef_rf (α := List (List Int) × Nat × MV × List (Nat × Nat) × MHeap) (ids := [])
            (fun j s' => QuI t s'.1 s'.2.2.2.1 (some (y, x)) ∧ (∀ p ∈ (t.nbL y x).take j, at2 s'.1 y x - t.cb ≤ at2 s'.1 p.1 p.2) ∧ LoM t (fun n => n = h.length ∨ n = h6.length) s'.1 s'.2.1 s'.2.2.1 s'.2.2.2.1 s'.2.2.2.2 ∧ s'.2.2.1 ≠ .lit (.slice none 0 0) ∧ s'.2.2.1.lt h.length = true ∧ (s'.2.1 : Int) ≤ 144 + tot s'.1 ∧ (s'.2.2.2.1.length : Int) - tot s'.1 ≤ (Q.length : Int) - tot s ∧ s'.2.2.2.2[h5.length]? = some ⟨0, false, 2, [posM (y, x)]⟩)
            [(3, .ptr 3 0 0 0), (7, .ptr h5.length 0 0 0), (1, .ptr 0 0 0 0), (5, .ptr (4 + t.ter.length) 0 0 0)] (fun s => s.2.2.2.2) (fun s => s.2.2.2.2.take h6.length)
            (s, B, .arr id (P.length + 1) Q.length gen, Q, h6) (by exact rfl) (neighbours1_it (k + 2) t ok hyb hxb _) (by simp [posY]) (idsL_lt0 (by simp [ltL, MV.lt, ltL_I, ltL_W, ltL_B])) (by ((repeat (refine Hold.cons (by exact rfl) ?_)); exact Hold.nil)) rfl rfl rfl
            ⟨hqp, by simp, m2.lev, (fun h => by cases h), by simp [MV.lt]; omega, hB, Int.le_refl _, hpc2⟩ rfl ?_ ?_ ?_
          · rintro j ⟨s', B', qv', Q', h7⟩ ⟨_, _, hm7, _⟩
            simp only at hm7 ⊢
            refine HeadIs.tk (hm7.lv _ (.inr rfl)).2 fun u hu => ?_
            simp only [List.mem_cons, List.not_mem_nil, or_false] at hu
            rcases hu with rfl | rfl | rfl | rfl
            · exact ⟨.ptr 3 0 0 0, by exact rfl, by simp [MV.lt]; omega⟩
            · exact ⟨.ptr h5.length 0 0 0, by exact rfl, by simp [MV.lt]; omega⟩
            · exact ⟨.ptr 0 0 0 0, by exact rfl, by simp [MV.lt]; omega⟩
            · exact ⟨.ptr (4 + t.ter.length) 0 0 0, by exact rfl, by simp [MV.lt]; omega⟩
          · rintro j ⟨s', B', qv', Q', h7⟩ x' hx' ⟨hqi, hall, hm7, hqn, hql, hB7, hms, hpc7⟩
            simp only at hqi hall hm7 hqn hql hB7 hms hpc7 ⊢
            obtain ⟨⟨y1, x1⟩, hp, rfl⟩ : ∃ p, (t.nbL y x)[j]? = some p ∧ x' = [posM p] := by
              simp only [posY, List.getElem?_map, Option.map_eq_some_iff] at hx'
              obtain ⟨w, h1, h2⟩ := hx'
              exact ⟨w, h1, h2.symm⟩
            have hnb := (Tk.nbL_mem hyb hxb).1 (List.mem_of_getElem? hp)
            simp only at hnb
            have htk : (t.nbL y x).take (j + 1) = (t.nbL y x).take j ++ [(y1, x1)] := by rw [List.take_add_one, hp]; rfl
            have hm8 := hm7.take (n := h6.length) (.inr rfl) fun k hk => by omega
            have hpc8 : (h7.take h6.length)[h5.length]? = some ⟨0, false, 2, [posM (y, x)]⟩ := by rw [List.getElem?_take, if_pos (by omega)]; exact hpc7
            clear hm7 hpc7 hx'
            generalize h7.take h6.length = h8 at *
            have hm9 := hm8.app1 ⟨0, false, 2, [posM (y1, x1)]⟩ rfl
            have hpc9 := at_app hpc8 [(⟨0, false, 2, [posM (y1, x1)]⟩ : MObj)]
            have hpd9 : (h8 ++ [(⟨0, false, 2, [posM (y1, x1)]⟩ : MObj)])[h8.length]? = some ⟨0, false, 2, [posM (y1, x1)]⟩ := at_end _ _
            have h8l := (hm8.lv h6.length (.inr rfl)).2.1
            have f0 := hm9.b0
            have f3 := hm9.b3
            obtain ⟨refs, r1, r2, r3, r4, r5, r6⟩ := hm9.sf.rd hyb hxb
            obtain ⟨refs', p1, p2, p3, p4, p5, p6⟩ := hm9.sf.rd hnb.1 hnb.2.1
            have hrr : refs' = refs := by rw [p1] at r1; cases r1; rfl
            subst hrr
            try simp only at r3 r4 r5 p3 p4 p5
            obtain ⟨b1, b2⟩ := ok.top hqi.pre y x hyb hxb
            obtain ⟨b3, b4⟩ := ok.top hqi.pre y1 x1 hnb.1 hnb.2.1
            obtain ⟨c1, c2⟩ := ok.cb
            have hy1 : y1 < t.ter.length := hnb.1
            have hx1 := hnb.2.1
            have hyb2 : y < t.ter.length := hyb
            simp only [putA]
            repeat (first | (apply ef_newst; exact rfl; exact rfl; exact rfl; exact rfl; exact rfl) | apply ef_nil)
            apply preQ.normal
            by_cases hr : at2 s' y1 x1 < at2 s' y x - t.cb
            · repeat (first | apply ef_seq | (apply ef_mv; exact rfl; exact rfl) | (apply ef_bin; exact rfl; exact rfl; exact rfl; (first | exact cmp_t rfl (by first | exact rfl | (simp only [cmpP]; omega)) | ((with_reducible refine bin_sub (wrap_of ?_ ?_)) <;> omega))) | (apply ef_ldp; exact rfl; exact rfl; (assumption); exact rfl; (first | exact rfl | assumption); (exact rfl)) | (apply ef_iaa; exact rfl; exact rfl; exact rfl; (omega); (omega); (assumption)) | (apply ef_fap; exact rfl; exact rfl) | apply ef_nil | apply seqQ.normal | apply ef_block | (apply ef_condt; exact rfl; (exact (rfl : true = true))))
              refine ef_st (o := ⟨0, false, 1, (s'.getD y1 []).map I64⟩) (v := I64 (at2 s' y x - t.cb)) (by exact rfl) rfl (by exact rfl) p4 rfl rfl p6 rfl ?_
              have m10 := hm9.put (x := x1) (v := at2 s' y x - t.cb) hnb.1
              have hpc10 : ((h8 ++ [(⟨0, false, 2, [posM (y1, x1)]⟩ : MObj)]).set (4 + y1) ⟨0, false, 1, ((s'.getD y1 []).map I64).set x1 (I64 (at2 s' y x - t.cb))⟩)[h5.length]? = some ⟨0, false, 2, [posM (y, x)]⟩ := by
                rw [List.getElem?_set_ne (by omega)]; exact hpc9
              have hpd10 : ((h8 ++ [(⟨0, false, 2, [posM (y1, x1)]⟩ : MObj)]).set (4 + y1) ⟨0, false, 1, ((s'.getD y1 []).map I64).set x1 (I64 (at2 s' y x - t.cb))⟩)[h8.length]? = some ⟨0, false, 2, [posM (y1, x1)]⟩ := by
                rw [List.getElem?_set_ne (by omega)]; exact hpd9
              show Ef _ _ _ _ _ _ _ ((h8 ++ [(⟨0, false, 2, [posM (y1, x1)]⟩ : MObj)]).set (4 + y1) ⟨0, false, 1, ((s'.getD y1 []).map I64).set (0 + ((x1 : Nat) : Int).toNat) (I64 (at2 s' y x - t.cb))⟩) _
              rw [show 0 + ((x1 : Nat) : Int).toNat = x1 by simp]
              have hl10 : ((h8 ++ [(⟨0, false, 2, [posM (y1, x1)]⟩ : MObj)]).set (4 + y1) ⟨0, false, 1, ((s'.getD y1 []).map I64).set x1 (I64 (at2 s' y x - t.cb))⟩).length = h8.length + 1 := by simp
              clear f0 f3 r1 r2 r3 r4 r5 r6 p1 p2 p3 p4 p5 p6 hpc9 hpd9 hm9
              generalize ((h8 ++ [(⟨0, false, 2, [posM (y1, x1)]⟩ : MObj)]).set (4 + y1) ⟨0, false, 1, ((s'.getD y1 []).map I64).set x1 (I64 (at2 s' y x - t.cb))⟩) = h10 at m10 hpc10 hpd10 hl10 ⊢
              have fq := m10.qc
              have hsh := hqi.pre.sh
              have hset := fun a b => at2_set (g := s') (y := y1) (x := x1) (y' := a) (x' := b) (v := at2 s' y x - t.cb) (by rw [hsh.hl]; exact hnb.1) (by rw [hsh.row hnb.1]; exact hnb.2.1)
              have hrs := hqi.raise hyb hxb hfb hnb hr
              have htot := tot_le_up (s0 := s') hsh hnb.1 hnb.2.1 hr
              have ht1 := ok.tot hqi.pre
              have hsame : at2 (set2 s' y1 x1 (at2 s' y x - t.cb)) y x = at2 s' y x := by rw [hset, if_neg hnb.ne]
              have hall2 : ∀ p ∈ (t.nbL y x).take (j + 1), at2 (set2 s' y1 x1 (at2 s' y x - t.cb)) y x - t.cb ≤ at2 (set2 s' y1 x1 (at2 s' y x - t.cb)) p.1 p.2 := fun p hp => by
                rw [hsame, hset]
                by_cases e : p.1 = y1 ∧ p.2 = x1
                · rw [if_pos e]; exact Int.le_refl _
                · rw [if_neg e]
                  rw [htk, List.mem_append] at hp
                  rcases hp with hp | hp
                  · exact hall p hp
                  · exact absurd (by rw [List.mem_singleton] at hp; subst hp; exact ⟨rfl, rfl⟩) e
              repeat (first | apply ef_nil | apply seqQ.normal)
              (apply ef_ldp; (· exact rfl); (· exact rfl); (· exact fq); (· exact rfl); (· exact rfl); (· exact m10.qu.cell))
              repeat (first | (apply ef_ldp; exact rfl; exact rfl; (assumption); exact rfl; (exact rfl); (exact rd_2 rfl rfl)) | (apply ef_bsl; exact rfl; (repeat (apply XVs.cons; exact rfl)); exact XVs.nil; exact rfl))
              (apply ef_pushA (t := t) (q := (y1, x1)); (· exact rfl); (· exact rfl); (· exact rfl); (· exact fun _ => rfl); (· exact fun _ => rfl); (· exact m10); (· exact hqn); (· omega))
              intro h11 qv11 m11 n11 l11 hlen11 hkeep
              have hpc11 : h11[h5.length]? = some ⟨0, false, 2, [posM (y, x)]⟩ := by
                rw [hkeep h5.length (by omega) (by rw [hl5]; exact hql) (by omega)]; exact hpc10
              repeat (first | apply ef_nil | apply blockQ.normal)
              apply rfQ.normal
              exact ⟨(set2 s' y1 x1 (at2 s' y x - t.cb), B' + 1, qv11, Q' ++ [(y1, x1)], h11), ⟨hrs, hall2, m11, n11, by rw [l11]; exact hql, by simp only; omega, by simp only [List.length_append, List.length_cons, List.length_nil]; omega, hpc11⟩, rfl⟩
            · repeat (first | apply ef_seq | (apply ef_mv; exact rfl; exact rfl) | (apply ef_bin; exact rfl; exact rfl; exact rfl; (first | exact cmp_f rfl (by simp only [cmpP]; omega) | ((with_reducible refine bin_sub (wrap_of ?_ ?_)) <;> omega))) | (apply ef_ldp; exact rfl; exact rfl; (assumption); exact rfl; (first | exact rfl | assumption); (exact rfl)) | (apply ef_iaa; exact rfl; exact rfl; exact rfl; (omega); (omega); (assumption)) | (apply ef_fap; exact rfl; exact rfl) | apply ef_nil | apply seqQ.normal | apply blockQ.normal | apply ef_block | apply ef_skip | (apply ef_condf; exact rfl; (exact (rfl : false = false))))
              apply rfQ.normal
              refine ⟨(s', B', qv', Q', h8 ++ [⟨0, false, 2, [posM (y1, x1)]⟩]), ⟨hqi, fun p hp => ?_, hm9, hqn, hql, hB7, hms, hpc9⟩, rfl⟩
              simp only at hp ⊢
              rw [htk, List.mem_append] at hp
              rcases hp with hp | hp
              · exact hall p hp
              · rw [List.mem_singleton] at hp
                subst hp
                simp only
                omega
          · rintro ⟨s', B', qv', Q', h7⟩ ⟨hqi, hall, hm7, hqn, hql, hB7, hms, hpc7⟩
            simp only at hqi hall hm7 hqn hql hB7 hms hpc7 ⊢
            have hlenY : (posY (t.nbL y x)).length = (t.nbL y x).length := by simp [posY]
            rw [hlenY, List.take_length] at hall
            have hqc := hqi.close (n := (y, x)) fun y1 x1 hnb => hall (y1, x1) ((Tk.nbL_mem hyb hxb).2 hnb)
            have ht1 := ok.tot hqc.pre
            have hm8 := (hm7.less (N' := fun n => n = h.length) fun n hn => .inl hn)
            have hlv := (hm8.lv _ rfl).2
            repeat (first | apply blockQ.normal)
            refine loopQ.normal _ _ ⟨(s', B', qv', Q', h7.take h.length), ⟨hqc, hm8.take rfl (fun k hk => by omega), by simp only [List.length_take]; have := hlv.1; omega, hB7, fun _ => hqn⟩, by simp only [hlq]; omega, ⟨by ((repeat (refine Hold.cons (by exact rfl) ?_)); exact Hold.nil), by ((repeat (refine Hold.cons (by exact rfl) ?_)); exact Hold.nil)⟩, HeadIs.tk hlv fun u hu => ?_⟩
            simp only [List.mem_cons, List.not_mem_nil, or_false] at hu
            rcases hu with rfl | rfl | rfl
            · exact ⟨.ptr (4 + t.ter.length) 0 0 0, by exact rfl, by simp [MV.lt]; omega⟩
            · exact ⟨.ptr 0 0 0 0, by exact rfl, by simp [MV.lt]; omega⟩
            · exact ⟨.ptr 3 0 0 0, by exact rfl, by simp [MV.lt]; omega⟩
theorem lowest_c (k : Nat) (t : Tk) (ok : OkT t) {g : List (List Int)} (hg : Lea t g) (h : MHeap) : orA (k + 5) 115 [encO t] h = some (.arr h.length 0 t.ter.length 0, h ++ [⟨0, false, 1, g.map encW⟩]) := by
  have := callA (k := k + 4) (h := h) (frzL_lt (ms := [encO t]) (by simp [ltL, MV.lt, ltL_I, ltL_W, ltL_B])) rfl (lowest_z k t ok hg) rfl (by simp [okH, ltL_W, ltL, MV.lt, ltL_I, ltL_B])
  simpa [shV, sh1] using this
end Go.Proofs.Ytgjpdjihjphbdaa

/- Contracts of the reference: flown nodes, neighbours. -/
namespace Go.Proofs.Ytgjpdjihjphbdaa
open Go.RowKit
set_option linter.unusedVariables false
theorem mf_rFlown : MT.mf 47 = some ⟨35, [(.tmp 6)], (.seq (.reg [⟨none, some 3, .box 5 (.s 0)⟩, ⟨none, some 6, .mv (.c (.lit (.bool false)))⟩]) (.seq (.reg [⟨none, some 7, .mv (.s 2)⟩, ⟨none, some 8, .fa 0 (.s 3)⟩, ⟨none, some 9, .ld none (.s 8)⟩, ⟨none, some 10, .len (.s 9)⟩, ⟨none, some 11, .bin .sub (.s 10) (.c (.lit (.int .i64 1)))⟩, ⟨none, some 12, .call 22 [.s 7, (.c (.lit (.int .i64 0))), .s 11]⟩, ⟨none, some 13, .mv (.s 12)⟩, ⟨some (13, true), some 14, .mv (.s 1)⟩, ⟨some (13, true), some 15, .fa 0 (.s 3)⟩, ⟨some (13, true), some 16, .ld none (.s 15)⟩, ⟨some (13, true), some 17, .ia 1 (.s 16) (.c (.lit (.int .i64 0)))⟩, ⟨some (13, true), some 18, .ld none (.s 17)⟩, ⟨some (13, true), some 19, .len (.s 18)⟩, ⟨some (13, true), some 20, .bin .sub (.s 19) (.c (.lit (.int .i64 1)))⟩, ⟨some (13, true), some 21, .call 22 [.s 14, (.c (.lit (.int .i64 0))), .s 20]⟩, ⟨none, some 22, .pick (.s 13) (.s 21) (.c (.lit (.bool false)))⟩, ⟨none, some 23, .mv (.s 22)⟩, ⟨some (23, true), some 24, .fa 1 (.s 3)⟩, ⟨some (23, true), some 25, .ld none (.s 24)⟩, ⟨some (23, true), some 26, .mv (.s 2)⟩, ⟨some (23, true), some 27, .call 71 [.s 25, .s 26]⟩, ⟨some (23, true), some 28, .mv (.s 27)⟩, ⟨some (28, false), some 29, .fa 2 (.s 3)⟩, ⟨some (28, false), some 30, .ld none (.s 29)⟩, ⟨some (28, false), some 31, .mv (.s 1)⟩, ⟨some (28, false), some 32, .call 71 [.s 30, .s 31]⟩, ⟨some (23, true), some 33, .pick (.s 28) (.c (.lit (.bool true))) (.s 32)⟩, ⟨none, some 34, .pick (.s 23) (.s 33) (.c (.lit (.bool false)))⟩, ⟨none, some 6, .mv (.s 34)⟩]) .ret))⟩ := by kernel_rfl
theorem rFlown_c (k : Nat) (t : Tk) (hb : Bd t) (h0 : 0 < t.ter.length) (x y : Int) (h : MHeap) {b : Bool} (hf : t.flI x y = b) : orA (k + 2) 47 [encT t, I64 x, I64 y] h = some (Bo b, h) := by
  refine callL (args' := [encT t, I64 x, I64 y]) (frzL_lt (by simp [ltL, MV.lt, ltL_I, ltL_W])) rfl (runZ_of mf_rFlown (by simp) ?_)
  simp only [argsL]
  have hs1 : (MV.sl (t.ter.map encW)).slen = some t.ter.length := by simp [MV.slen]
  have hbw := hb.w
  obtain ⟨b1, b2, b3, b4⟩ := hb
  have e0 := Tk.head h0
  have hsw := Tk.headW t
  generalize t.ter.getD 0 [] = r0 at e0 hsw
  have hH1 := fun h => bHas_c k t.rows y h (v := .sl (t.rows.map I64)) b2 (frz_sl (ltL_I 0 t.rows)) rfl
  have hH2 := fun h => bHas_c k t.ties x h (v := .sl (t.ties.map I64)) b3 (frz_sl (ltL_I 0 t.ties)) rfl
  unfold Tk.flI at hf
  generalize t.rows.contains y = p at hH1 hf
  generalize t.ties.contains x = q at hH2 hf
  cases g1 : inB y 0 ((t.ter.length : Int) - 1)
  · rw [g1, Bool.and_false, Bool.false_and] at hf
    repeat (first | apply ef_seq | (apply ef_mv; exact rfl; exact rfl) | (apply ef_bin; exact rfl; exact rfl; exact rfl; (((with_reducible refine bin_sub (wrap_of ?_ ?_)) <;> omega))) | (apply ef_gn; exact rfl; (exact (rfl : false = false)); exact rfl) | (apply ef_gu; exact rfl; exact rfl) | (apply ef_pick; exact rfl; exact rfl; exact rfl) | (apply ef_len; exact rfl; exact rfl; (assumption)) | (apply ef_ldp; exact rfl; exact rfl; (exact rfl); exact rfl; (exact rfl); (exact rfl)) | (apply ef_fap; exact rfl; exact rfl) | (apply ef_box; exact rfl; exact rfl; exact rfl; exact rfl) | apply ef_nil | apply seqQ.normal | apply ef_ret | (apply ef_call; exact rfl; ((repeat (apply XVs.cons; exact rfl)); exact XVs.nil); (with_reducible exact Within_c _ _ _ _ _ (by assumption))))
    (refine fin1 rfl (by exact rfl) rfl ?_)
    rw [← hf]
  · cases g2 : inB x 0 ((t.W : Int) - 1)
    · rw [g2, Bool.false_and, Bool.false_and] at hf
      repeat (first | apply ef_seq | (apply ef_mv; exact rfl; exact rfl) | (apply ef_bin; exact rfl; exact rfl; exact rfl; (((with_reducible refine bin_sub (wrap_of ?_ ?_)) <;> omega))) | (apply ef_gy; exact rfl; (exact (rfl : true = true))) | (apply ef_gn; exact rfl; (exact (rfl : false = false)); exact rfl) | (apply ef_gu; exact rfl; exact rfl) | (apply ef_pick; exact rfl; exact rfl; exact rfl) | (apply ef_len; exact rfl; exact rfl; (assumption)) | (apply ef_ldr; exact rfl; exact rfl; (exact rfl)) | (apply ef_ldp; exact rfl; exact rfl; (exact rfl); exact rfl; (exact rfl); (exact rfl)) | (apply ef_ias; exact rfl; exact rfl; exact rfl; (omega); assumption; exact rfl) | (apply ef_fap; exact rfl; exact rfl) | (apply ef_box; exact rfl; exact rfl; exact rfl; exact rfl) | apply ef_nil | apply seqQ.normal | apply ef_ret | (apply ef_call; exact rfl; ((repeat (apply XVs.cons; exact rfl)); exact XVs.nil); (with_reducible exact Within_c _ _ _ _ _ (by assumption))))
      (refine fin1 rfl (by exact rfl) rfl ?_)
      rw [← hf]
    · rw [g1, g2, Bool.true_and, Bool.true_and] at hf
      cases p
      · repeat (first | apply ef_seq | (apply ef_mv; exact rfl; exact rfl) | (apply ef_bin; exact rfl; exact rfl; exact rfl; (((with_reducible refine bin_sub (wrap_of ?_ ?_)) <;> omega))) | (apply ef_gy; exact rfl; (first | exact (rfl : true = true) | exact (rfl : false = false))) | (apply ef_pick; exact rfl; exact rfl; exact rfl) | (apply ef_len; exact rfl; exact rfl; (assumption)) | (apply ef_ldr; exact rfl; exact rfl; (exact rfl)) | (apply ef_ldp; exact rfl; exact rfl; (exact rfl); exact rfl; (exact rfl); (exact rfl)) | (apply ef_ias; exact rfl; exact rfl; exact rfl; (omega); assumption; exact rfl) | (apply ef_fap; exact rfl; exact rfl) | (apply ef_box; exact rfl; exact rfl; exact rfl; exact rfl) | apply ef_nil | apply seqQ.normal | apply ef_ret | (apply ef_call; exact rfl; ((repeat (apply XVs.cons; exact rfl)); exact XVs.nil); (with_reducible first | exact Within_c _ _ _ _ _ (by assumption) | exact hH1 _ | exact hH2 _)))
        (refine fin1 rfl (by exact rfl) rfl ?_)
        rw [← hf]; rfl
      · repeat (first | apply ef_seq | (apply ef_mv; exact rfl; exact rfl) | (apply ef_bin; exact rfl; exact rfl; exact rfl; (((with_reducible refine bin_sub (wrap_of ?_ ?_)) <;> omega))) | (apply ef_gy; exact rfl; (exact (rfl : true = true))) | (apply ef_gn; exact rfl; (exact (rfl : true = true)); exact rfl) | (apply ef_pick; exact rfl; exact rfl; exact rfl) | (apply ef_len; exact rfl; exact rfl; (assumption)) | (apply ef_ldr; exact rfl; exact rfl; (exact rfl)) | (apply ef_ldp; exact rfl; exact rfl; (exact rfl); exact rfl; (exact rfl); (exact rfl)) | (apply ef_ias; exact rfl; exact rfl; exact rfl; (omega); assumption; exact rfl) | (apply ef_fap; exact rfl; exact rfl) | (apply ef_box; exact rfl; exact rfl; exact rfl; exact rfl) | apply ef_nil | apply seqQ.normal | apply ef_ret | (apply ef_call; exact rfl; ((repeat (apply XVs.cons; exact rfl)); exact XVs.nil); (with_reducible first | exact Within_c _ _ _ _ _ (by assumption) | exact hH1 _)))
        (refine fin1 rfl (by exact rfl) rfl ?_)
        rw [← hf]; rfl
theorem mf_rNeed : MT.mf 51 = some ⟨18, [(.tmp 6)], (.seq (.reg [⟨none, some 3, .box 5 (.s 0)⟩, ⟨none, some 6, .mv (.c (.lit (.int .i64 0)))⟩]) (.seq (.reg [⟨none, some 7, .fa 0 (.s 3)⟩, ⟨none, some 8, .ld none (.s 7)⟩, ⟨none, some 9, .mv (.s 2)⟩, ⟨none, some 10, .ia 1 (.s 8) (.s 9)⟩, ⟨none, some 11, .ld none (.s 10)⟩, ⟨none, some 12, .mv (.s 1)⟩, ⟨none, some 13, .ia 1 (.s 11) (.s 12)⟩, ⟨none, some 14, .ld none (.s 13)⟩, ⟨none, some 15, .fa 3 (.s 3)⟩, ⟨none, some 16, .ld none (.s 15)⟩, ⟨none, some 17, .bin .add (.s 14) (.s 16)⟩, ⟨none, some 6, .mv (.s 17)⟩]) .ret))⟩ := by kernel_rfl
theorem rNeed_c (k : Nat) (t : Tk) (ok : OkT t) {y x : Nat} (hy : y < t.H) (hx : x < t.W) (h : MHeap) : orA (k + 1) 51 [encT t, I64 (x : Int), I64 (y : Int)] h = some (I64 (t.need y x), h) := by
  refine callL (args' := [encT t, I64 (x : Int), I64 (y : Int)]) (frzL_lt (by simp [ltL, MV.lt, ltL_I, ltL_W])) rfl (runZ_of mf_rNeed (by simp) ?_)
  simp only [argsL]
  have e1 := row_at (t := t) hy
  obtain ⟨a1, a2, a3⟩ := ok.at (y := y) (x := x) hy hx
  have e2 := cell_at a1
  obtain ⟨c1, c2⟩ := ok.cl
  have HN := Lib.hid (show t.need y x = (t.ter.getD y []).getD x 0 + t.cl from rfl)
  generalize (t.ter.getD y []).getD x 0 = v at *
  generalize t.ter.getD y [] = r at *
  repeat (first | apply ef_seq | (apply ef_mv; exact rfl; exact rfl) | (apply ef_bin; exact rfl; exact rfl; exact rfl; (((with_reducible refine bin_add (wrap_of ?_ ?_)) <;> omega))) | (apply ef_ldr; exact rfl; exact rfl; (exact rfl)) | (apply ef_ldp; exact rfl; exact rfl; (exact rfl); exact rfl; (exact rfl); (exact rfl)) | (apply ef_ias; exact rfl; exact rfl; exact rfl; (omega); assumption; exact rfl) | (apply ef_fap; exact rfl; exact rfl) | (apply ef_box; exact rfl; exact rfl; exact rfl; exact rfl) | apply ef_nil | apply seqQ.normal | apply ef_ret)
  (refine fin1 rfl (by exact rfl) rfl ?_)
  rw [HN.out]
def nbA (c d : Bool) (p : Nat × Nat) : List (Nat × Nat) := if c && d then [p] else []
def nbR (t : Tk) (y x : Nat) : List (Nat × Nat) :=
  nbA (t.rows.contains (y : Int)) (decide (0 < x)) (y, x - 1) ++ nbA (t.ties.contains (x : Int)) (decide (0 < y)) (y - 1, x) ++ nbA (t.rows.contains (y : Int)) (decide (x + 1 < t.W)) (y, x + 1) ++ nbA (t.ties.contains (x : Int)) (decide (y + 1 < t.ter.length)) (y + 1, x)
theorem nbR_mem {t : Tk} {y x : Nat} (hy : y < t.H) (hx : x < t.W) {p : Nat × Nat} : p ∈ nbR t y x ↔ t.Nb y x p.1 p.2 := by
  rw [← Tk.nbL_mem hy hx]
  unfold nbR nbA Tk.nbL Tk.H
  cases t.rows.contains (y : Int) <;> cases t.ties.contains (x : Int) <;> by_cases h1 : 0 < x <;> by_cases h2 : 0 < y <;> by_cases h3 : x + 1 < t.W <;> by_cases h4 : y + 1 < t.ter.length <;> simp [h1, h2, h3, h4, or_comm, or_left_comm, or_assoc]
def nbP (t : Tk) (y x : Nat) : Nat → List (Nat × Nat)
  | 0 => []
  | 1 => nbA (t.rows.contains (y : Int)) (decide (0 < x)) (y, x - 1) ++ nbA (t.ties.contains (x : Int)) (decide (0 < y)) (y - 1, x)
  | _ => nbR t y x
abbrev nbHp (t : Tk) (L : List (Nat × Nat)) : MHeap := [⟨0, false, 5, [encT t]⟩, ⟨0, true, 2, []⟩, ⟨L.length, nlN L.length, 2, L.map posM⟩]
theorem nbHp_cl (t : Tk) (L : List (Nat × Nat)) (G : MHeap) : Cl 3 (nbHp t L ++ G) := by
  refine ⟨by simp, fun j o hj ho => ?_⟩
  match j, hj with
  | 0, _ => cases ho; simp [ltL, MV.lt, ltL_I, ltL_W]
  | 1, _ => cases ho; rfl
  | 2, _ => cases ho; exact ltL_P 3 L
theorem HeadIs.tkE {keep : List Nat} {m : Nat} {A : Sl} {h h1 : MHeap} (X : MHeap) (e : h = h1 ++ X) (hm : h1.length = m) (hc : Cl m (h1 ++ X)) (hk : ∀ t ∈ keep, ∃ v, look A t = some v ∧ v.lt m = true) : HeadIs keep m A h h1 := by
  subst e
  have := HeadIs.tk hc hk
  rwa [List.take_left' hm] at this
section
variable {O : Oracle} {I : Iter} {M n : Nat} {lk : Nat → Bool} {A : Sl} {Qc : MX2 → Sl → MHeap → Prop}
theorem ef_nbapp {t : Tk} {t2 tp t1 : Nat} {L : List (Nat × Nat)} {p : Nat × Nat} {G : MHeap} {m : MV} {os : List GO} (ht2 : Nat.blt t2 n = true) (hp : look A tp = some (.arr 2 0 L.length L.length)) (h1 : look A t1 = some (.arr (nbHp t L ++ G).length 0 1 0)) (hL : L.length ≤ 1000) (hm : m = posM p) (hlk : ∀ i, lk i = false)
    (hE : Ef O I M n lk (.reg os) ((t2, .arr 2 0 (L ++ [p]).length (L ++ [p]).length) :: A) (nbHp t (L ++ [p]) ++ (G ++ [⟨0, false, 2, [posM p]⟩])) Qc) :
    Ef O I M n lk (.reg (⟨none, some t2, .app 2 (.s tp) (.s t1)⟩ :: os)) A ((nbHp t L ++ G) ++ [⟨0, false, 2, [m]⟩]) Qc := by
  subst hm
  refine ef_app (ht := ht2) (o := ⟨L.length, nlN L.length, 2, L.map posM⟩) (v := .arr (nbHp t L ++ G).length 0 1 0) (e := posM p) (xs := []) hp h1 (elems_end rfl rfl rfl rfl) rfl rfl (by simp) rfl (by simp; omega) rfl (hlk _) ?_
  have e1 : L.length + (posM p :: []).length = (L ++ [p]).length := by simp
  rw [e1]
  have e2 : L.length + 1 = (L ++ [p]).length := by simp
  show Ef _ _ _ _ _ _ ((t2, .arr 2 0 (L ++ [p]).length (L.length + 1)) :: A) ((nbHp t L ++ G ++ [(⟨0, false, 2, [posM p]⟩ : MObj)]).set 2 ⟨L.length + 1, false, 2, (L.map posM).drop 0 ++ [posM p]⟩) _
  rw [e2]
  have e3 : ((nbHp t L ++ G ++ [(⟨0, false, 2, [posM p]⟩ : MObj)]).set 2 ⟨(L ++ [p]).length, false, 2, (L.map posM).drop 0 ++ [posM p]⟩) = nbHp t (L ++ [p]) ++ (G ++ [⟨0, false, 2, [posM p]⟩]) := by
    simp [nlN]
  rw [e3]
  exact hE
end
theorem nbK {A : Sl} {u : Nat} {a b : Int} {c : Int} {n : Nat} (hu : u ∈ [8, 3, 2, 1, 7]) (h8 : look A 8 = some (I64 a)) (h3 : look A 3 = some (.ptr 0 0 0 0)) (h2 : look A 2 = some (I64 b)) (h1 : look A 1 = some (I64 c)) (h7 : look A 7 = some (.arr 2 0 n n)) : ∃ v, look A u = some v ∧ v.lt 3 = true := by
  simp only [List.mem_cons, List.not_mem_nil, or_false] at hu
  rcases hu with rfl | rfl | rfl | rfl | rfl
  · exact ⟨_, h8, rfl⟩
  · exact ⟨_, h3, by simp [MV.lt]⟩
  · exact ⟨_, h2, rfl⟩
  · exact ⟨_, h1, rfl⟩
  · exact ⟨_, h7, by simp [MV.lt]⟩
theorem mf_rNeighbours : MT.mf 119 = some ⟨60, [(.tmp 6)], (.seq (.reg [⟨none, some 3, .box 5 (.s 0)⟩, ⟨none, some 6, .nil0 2⟩]) (.seq (.reg [⟨none, some 7, .nil0 2⟩]) (.seq (.seq (.reg [⟨none, some 8, .mv (.c (.lit (.int .i64 (-1))))⟩]) (.block 0 (.loop [8, 3, 2, 1, 7] (.seq (.seq (.reg [⟨none, some 9, .mv (.s 8)⟩, ⟨none, some 10, .bin .leq (.s 9) (.c (.lit (.int .i64 1)))⟩]) (.cond (.s 10) .skip (.exit 0))) (.seq (.block 1 (.seq (.seq (.reg [⟨none, some 13, .fa 1 (.s 3)⟩, ⟨none, some 14, .ld none (.s 13)⟩, ⟨none, some 15, .mv (.s 2)⟩, ⟨none, some 16, .call 71 [.s 14, .s 15]⟩, ⟨none, some 17, .mv (.s 16)⟩, ⟨some (17, true), some 18, .mv (.s 1)⟩, ⟨some (17, true), some 19, .mv (.s 8)⟩, ⟨some (17, true), some 20, .bin .add (.s 18) (.s 19)⟩, ⟨some (17, true), some 21, .fa 0 (.s 3)⟩, ⟨some (17, true), some 22, .ld none (.s 21)⟩, ⟨some (17, true), some 23, .ia 1 (.s 22) (.c (.lit (.int .i64 0)))⟩, ⟨some (17, true), some 24, .ld none (.s 23)⟩, ⟨some (17, true), some 25, .len (.s 24)⟩, ⟨some (17, true), some 26, .bin .sub (.s 25) (.c (.lit (.int .i64 1)))⟩, ⟨some (17, true), some 27, .call 22 [.s 20, (.c (.lit (.int .i64 0))), .s 26]⟩, ⟨none, some 28, .pick (.s 17) (.s 27) (.c (.lit (.bool false)))⟩]) (.cond (.s 28) (.reg [⟨none, some 29, .mv (.s 7)⟩, ⟨none, some 30, .mv (.s 1)⟩, ⟨none, some 31, .mv (.s 8)⟩, ⟨none, some 32, .bin .add (.s 30) (.s 31)⟩, ⟨none, some 33, .mv (.s 2)⟩, ⟨none, some 34, .build [(.lit (.int .i64 0)), (.lit (.int .i64 0))] [(0, (1, (.s 32))), (1, (1, (.s 33)))]⟩, ⟨none, some 35, .bsl (.agg [(.lit (.int .i64 0)), (.lit (.int .i64 0))]) 2 1 [(0, (.s 34))]⟩, ⟨none, some 36, .app 2 (.s 29) (.s 35)⟩, ⟨none, some 7, .mv (.s 36)⟩]) .skip)) (.seq (.reg [⟨none, some 37, .fa 2 (.s 3)⟩, ⟨none, some 38, .ld none (.s 37)⟩, ⟨none, some 39, .mv (.s 1)⟩, ⟨none, some 40, .call 71 [.s 38, .s 39]⟩, ⟨none, some 41, .mv (.s 40)⟩, ⟨some (41, true), some 42, .mv (.s 2)⟩, ⟨some (41, true), some 43, .mv (.s 8)⟩, ⟨some (41, true), some 44, .bin .add (.s 42) (.s 43)⟩, ⟨some (41, true), some 45, .fa 0 (.s 3)⟩, ⟨some (41, true), some 46, .ld none (.s 45)⟩, ⟨some (41, true), some 47, .len (.s 46)⟩, ⟨some (41, true), some 48, .bin .sub (.s 47) (.c (.lit (.int .i64 1)))⟩, ⟨some (41, true), some 49, .call 22 [.s 44, (.c (.lit (.int .i64 0))), .s 48]⟩, ⟨none, some 50, .pick (.s 41) (.s 49) (.c (.lit (.bool false)))⟩]) (.cond (.s 50) (.reg [⟨none, some 51, .mv (.s 7)⟩, ⟨none, some 52, .mv (.s 1)⟩, ⟨none, some 53, .mv (.s 2)⟩, ⟨none, some 54, .mv (.s 8)⟩, ⟨none, some 55, .bin .add (.s 53) (.s 54)⟩, ⟨none, some 56, .build [(.lit (.int .i64 0)), (.lit (.int .i64 0))] [(0, (1, (.s 52))), (1, (1, (.s 55)))]⟩, ⟨none, some 57, .bsl (.agg [(.lit (.int .i64 0)), (.lit (.int .i64 0))]) 2 1 [(0, (.s 56))]⟩, ⟨none, some 58, .app 2 (.s 51) (.s 57)⟩, ⟨none, some 7, .mv (.s 58)⟩]) .skip)))) (.reg [⟨none, some 11, .mv (.s 8)⟩, ⟨none, some 12, .bin .add (.s 11) (.c (.lit (.int .i64 2)))⟩, ⟨none, some 8, .mv (.s 12)⟩])))))) (.seq (.reg [⟨none, some 59, .mv (.s 7)⟩, ⟨none, some 6, .mv (.s 59)⟩]) .ret))))⟩ := by kernel_rfl
set_option maxHeartbeats 4000000 in
theorem rNeighbours_z (k : Nat) (t : Tk) (ok : OkT t) (hb : Bd t) {y x : Nat} (hy : y < t.ter.length) (hx : x < t.W) : runZ MT (orA (k + 1)) (itA (k + 1)) 4000000 119 [encT t, I64 (x : Int), I64 (y : Int)] [] = some (.arr 0 0 (nbR t y x).length 0, [⟨0, nlN (nbR t y x).length, 2, (nbR t y x).map posM⟩]) := by
  obtain ⟨h1, h2⟩ := ok.h1
  obtain ⟨w1, w2⟩ := ok.w1
  obtain ⟨b1, b2, b3, b4⟩ := hb
  have hs1 : (MV.sl (t.ter.map encW)).slen = some t.ter.length := by simp [MV.slen]
  have e0 := Tk.head h1
  have hsw := Tk.headW t
  generalize t.ter.getD 0 [] = r0 at e0 hsw
  have hH1 := fun h => bHas_c k t.rows (y : Int) h (v := .sl (t.rows.map I64)) b2 (frz_sl (ltL_I 0 t.rows)) rfl
  have hH2 := fun h => bHas_c k t.ties (x : Int) h (v := .sl (t.ties.map I64)) b3 (frz_sl (ltL_I 0 t.ties)) rfl
  refine runZ_of mf_rNeighbours (by simp) ?_
  simp only [argsL]
  repeat (first | apply ef_seq | (apply ef_mv; exact rfl; exact rfl) | (apply ef_box; exact rfl; exact rfl; exact rfl; exact rfl) | (apply ef_nil0; exact rfl) | apply ef_nil | apply seqQ.normal | apply ef_block)
  refine ef_loopg (α := Nat × List (Nat × Nat)) (fun s => s.1 ≤ 2 ∧ s.2 = nbP t y x s.1 ∧ s.2.length ≤ 10 * s.1) (fun s => [(8, I64 (2 * (s.1 : Int) - 1)), (7, .arr 2 0 s.2.length s.2.length)]) [(3, .ptr 0 0 0 0), (2, _), (1, _)] (fun s => nbHp t s.2) (fun s => 2 - s.1) (0, []) [8, 7] (fun _ => rfl) (by ((repeat (refine Hold.cons (by exact rfl) ?_)); exact Hold.nil)) (by ((repeat (refine Hold.cons (by exact rfl) ?_)); exact Hold.nil)) rfl rfl rfl ⟨by simp, rfl, by simp⟩ (by simp) ?_
  rintro ⟨i, L⟩ ⟨hi, hL, hLl⟩
  simp only at hi hL hLl ⊢
  match i, hi, hL, hLl with
  | 0, hi, hL, hLl =>
    have HN := (show nbP t y x (0 + 1) = nbP t y x 0 ++ (nbA (t.rows.contains (y : Int)) (decide (0 < x)) (y, x - 1) ++ nbA (t.ties.contains (x : Int)) (decide (0 < y)) (y - 1, x)) from rfl)
    rw [← hL] at HN
    generalize t.rows.contains (y : Int) = p at hH1 HN
    generalize t.ties.contains (x : Int) = q at hH2 HN
    cases p
    · cases q
      · repeat (first | apply ef_seq | (apply ef_mv; exact rfl; exact rfl) | (apply ef_bin; exact rfl; exact rfl; exact rfl; (first | exact cmp_t rfl (by first | exact rfl | (simp only [cmpP]; omega)) | ((with_reducible refine bin_add (wrap_of ?_ ?_)) <;> omega))) | (apply ef_gn; exact rfl; (exact (rfl : false = false)); exact rfl) | (apply ef_pick; exact rfl; exact rfl; exact rfl) | (apply ef_ldp; exact rfl; exact rfl; (exact rfl); exact rfl; (exact rfl); (exact rfl)) | (apply ef_fap; exact rfl; exact rfl) | apply ef_nil | apply seqQ.normal | apply blockQ.normal | apply ef_block | apply ef_skip | (apply ef_condt; exact rfl; (exact (rfl : true = true))) | (apply ef_condf; exact rfl; (exact (rfl : false = false))) | (apply ef_call; exact rfl; ((repeat (apply XVs.cons; exact rfl)); exact XVs.nil); (with_reducible first | exact hH1 _ | exact hH2 _)))
        refine loopQ.normal _ _ ⟨(0 + 1, L), ⟨by simp only; omega, by rw [HN]; simp [nbA, *], by (try simp only [List.length_append, List.length_cons, List.length_nil] at hLl ⊢); omega⟩, by simp only; omega, ⟨by ((repeat (refine Hold.cons (by exact rfl) ?_)); exact Hold.nil), by ((repeat (refine Hold.cons (by exact rfl) ?_)); exact Hold.nil)⟩, HeadIs.tkE [] (by first | exact rfl | simp) rfl (nbHp_cl t _ _) fun u hu => ?_⟩
        exact nbK hu (by exact rfl) (by exact rfl) (by exact rfl) (by exact rfl) (by exact rfl)
      · by_cases d2 : 0 < y
        · have g2 : inB ((y : Int) + (2 * ((0 : Nat) : Int) - 1)) 0 ((t.ter.length : Int) - 1) = true := inB_iff.2 (by omega)
          repeat (first | apply ef_seq | (apply ef_mv; exact rfl; exact rfl) | (apply ef_bin; exact rfl; exact rfl; exact rfl; (first | exact cmp_t rfl (by first | exact rfl | (simp only [cmpP]; omega)) | ((with_reducible refine bin_add (wrap_of ?_ ?_)) <;> omega) | ((with_reducible refine bin_sub (wrap_of ?_ ?_)) <;> omega))) | (apply ef_gy; exact rfl; (exact (rfl : true = true))) | (apply ef_gn; exact rfl; (exact (rfl : false = false)); exact rfl) | (apply ef_pick; exact rfl; exact rfl; exact rfl) | (apply ef_len; exact rfl; exact rfl; (assumption)) | (apply ef_ldp; exact rfl; exact rfl; (exact rfl); exact rfl; (exact rfl); (exact rfl)) | (apply ef_fap; exact rfl; exact rfl) | (apply ef_build; exact rfl; (repeat (apply XVs.cons; exact rfl)); exact XVs.nil; exact rfl; exact rfl) | (apply ef_bsl; exact rfl; (repeat (apply XVs.cons; exact rfl)); exact XVs.nil; exact rfl) | apply ef_nil | apply seqQ.normal | apply ef_block | apply ef_skip | (apply ef_condt; exact rfl; (exact (rfl : true = true))) | (apply ef_condf; exact rfl; (exact (rfl : false = false))) | (apply ef_call; exact rfl; ((repeat (apply XVs.cons; exact rfl)); exact XVs.nil); (with_reducible first | exact Within_c _ _ _ _ _ (by assumption) | exact hH1 _ | exact hH2 _)))
          (apply ef_nbapp (t := t) (L := L) (p := (y - 1, x)) (G := []); (· exact rfl); (· exact rfl); (· exact rfl); (· (try simp only [List.length_append, List.length_cons, List.length_nil] at hLl ⊢); omega); (· exact show posI (x : Int) ((y : Int) + (2 * ((0 : Nat) : Int) - 1)) = posM (y - 1, x) from by rw [show ((y : Int) + (2 * ((0 : Nat) : Int) - 1)) = (((y - 1, x).1 : Nat) : Int) by simp only; omega]); (· exact fun _ => rfl))
          repeat (first | (apply ef_mv; exact rfl; exact rfl) | (apply ef_bin; exact rfl; exact rfl; exact rfl; (((with_reducible refine bin_add (wrap_of ?_ ?_)) <;> omega))) | apply ef_nil | apply seqQ.normal | apply blockQ.normal)
          refine loopQ.normal _ _ ⟨(0 + 1, (L ++ [(y - 1, x)])), ⟨by simp only; omega, by rw [HN]; simp [nbA, *], by (try simp only [List.length_append, List.length_cons, List.length_nil] at hLl ⊢); omega⟩, by simp only; omega, ⟨by ((repeat (refine Hold.cons (by exact rfl) ?_)); exact Hold.nil), by ((repeat (refine Hold.cons (by exact rfl) ?_)); exact Hold.nil)⟩, HeadIs.tkE [⟨0, false, 2, [posM (y - 1, x)]⟩] (by first | exact rfl | simp) rfl (nbHp_cl t _ _) fun u hu => ?_⟩
          exact nbK hu (by exact rfl) (by exact rfl) (by exact rfl) (by exact rfl) (by exact rfl)
        · have g2 : inB ((y : Int) + (2 * ((0 : Nat) : Int) - 1)) 0 ((t.ter.length : Int) - 1) = false := inB_not.2 (by omega)
          repeat (first | apply ef_seq | (apply ef_mv; exact rfl; exact rfl) | (apply ef_bin; exact rfl; exact rfl; exact rfl; (first | exact cmp_t rfl (by first | exact rfl | (simp only [cmpP]; omega)) | ((with_reducible refine bin_add (wrap_of ?_ ?_)) <;> omega) | ((with_reducible refine bin_sub (wrap_of ?_ ?_)) <;> omega))) | (apply ef_gy; exact rfl; (exact (rfl : true = true))) | (apply ef_gn; exact rfl; (exact (rfl : false = false)); exact rfl) | (apply ef_pick; exact rfl; exact rfl; exact rfl) | (apply ef_len; exact rfl; exact rfl; (assumption)) | (apply ef_ldp; exact rfl; exact rfl; (exact rfl); exact rfl; (exact rfl); (exact rfl)) | (apply ef_fap; exact rfl; exact rfl) | apply ef_nil | apply seqQ.normal | apply blockQ.normal | apply ef_block | apply ef_skip | (apply ef_condt; exact rfl; (exact (rfl : true = true))) | (apply ef_condf; exact rfl; (exact (rfl : false = false))) | (apply ef_call; exact rfl; ((repeat (apply XVs.cons; exact rfl)); exact XVs.nil); (with_reducible first | exact Within_c _ _ _ _ _ (by assumption) | exact hH1 _ | exact hH2 _)))
          refine loopQ.normal _ _ ⟨(0 + 1, L), ⟨by simp only; omega, by rw [HN]; simp [nbA, *], by (try simp only [List.length_append, List.length_cons, List.length_nil] at hLl ⊢); omega⟩, by simp only; omega, ⟨by ((repeat (refine Hold.cons (by exact rfl) ?_)); exact Hold.nil), by ((repeat (refine Hold.cons (by exact rfl) ?_)); exact Hold.nil)⟩, HeadIs.tkE [] (by first | exact rfl | simp) rfl (nbHp_cl t _ _) fun u hu => ?_⟩
          exact nbK hu (by exact rfl) (by exact rfl) (by exact rfl) (by exact rfl) (by exact rfl)
    · by_cases d1 : 0 < x
      · have g1 : inB ((x : Int) + (2 * ((0 : Nat) : Int) - 1)) 0 ((t.W : Int) - 1) = true := inB_iff.2 (by omega)
        cases q
        · repeat (first | apply ef_seq | (apply ef_mv; exact rfl; exact rfl) | (apply ef_bin; exact rfl; exact rfl; exact rfl; (first | exact cmp_t rfl (by first | exact rfl | (simp only [cmpP]; omega)) | ((with_reducible refine bin_add (wrap_of ?_ ?_)) <;> omega) | ((with_reducible refine bin_sub (wrap_of ?_ ?_)) <;> omega))) | (apply ef_gy; exact rfl; (exact (rfl : true = true))) | (apply ef_pick; exact rfl; exact rfl; exact rfl) | (apply ef_len; exact rfl; exact rfl; (assumption)) | (apply ef_ldr; exact rfl; exact rfl; (exact rfl)) | (apply ef_ldp; exact rfl; exact rfl; (exact rfl); exact rfl; (exact rfl); (exact rfl)) | (apply ef_ias; exact rfl; exact rfl; exact rfl; (omega); assumption; exact rfl) | (apply ef_fap; exact rfl; exact rfl) | (apply ef_build; exact rfl; (repeat (apply XVs.cons; exact rfl)); exact XVs.nil; exact rfl; exact rfl) | (apply ef_bsl; exact rfl; (repeat (apply XVs.cons; exact rfl)); exact XVs.nil; exact rfl) | apply ef_nil | apply seqQ.normal | apply ef_block | apply ef_skip | (apply ef_condt; exact rfl; (exact (rfl : true = true))) | (apply ef_call; exact rfl; ((repeat (apply XVs.cons; exact rfl)); exact XVs.nil); (with_reducible first | exact Within_c _ _ _ _ _ (by assumption) | exact hH1 _)))
          (apply ef_nbapp (t := t) (L := L) (p := (y, x - 1)) (G := []); (· exact rfl); (· exact rfl); (· exact rfl); (· (try simp only [List.length_append, List.length_cons, List.length_nil] at hLl ⊢); omega); (· exact show posI ((x : Int) + (2 * ((0 : Nat) : Int) - 1)) (y : Int) = posM (y, x - 1) from by rw [show ((x : Int) + (2 * ((0 : Nat) : Int) - 1)) = (((y, x - 1).2 : Nat) : Int) by simp only; omega]); (· exact fun _ => rfl))
          repeat (first | apply ef_seq | (apply ef_mv; exact rfl; exact rfl) | (apply ef_bin; exact rfl; exact rfl; exact rfl; (((with_reducible refine bin_add (wrap_of ?_ ?_)) <;> omega))) | (apply ef_gn; exact rfl; (exact (rfl : false = false)); exact rfl) | (apply ef_pick; exact rfl; exact rfl; exact rfl) | (apply ef_ldp; exact rfl; exact rfl; (exact rfl); exact rfl; (exact rfl); (exact rfl)) | (apply ef_fap; exact rfl; exact rfl) | apply ef_nil | apply seqQ.normal | apply blockQ.normal | apply ef_skip | (apply ef_condf; exact rfl; (exact (rfl : false = false))) | (apply ef_call; exact rfl; ((repeat (apply XVs.cons; exact rfl)); exact XVs.nil); (with_reducible exact hH2 _)))
          refine loopQ.normal _ _ ⟨(0 + 1, (L ++ [(y, x - 1)])), ⟨by simp only; omega, by rw [HN]; simp [nbA, *], by (try simp only [List.length_append, List.length_cons, List.length_nil] at hLl ⊢); omega⟩, by simp only; omega, ⟨by ((repeat (refine Hold.cons (by exact rfl) ?_)); exact Hold.nil), by ((repeat (refine Hold.cons (by exact rfl) ?_)); exact Hold.nil)⟩, HeadIs.tkE [⟨0, false, 2, [posM (y, x - 1)]⟩] (by first | exact rfl | simp) rfl (nbHp_cl t _ _) fun u hu => ?_⟩
          exact nbK hu (by exact rfl) (by exact rfl) (by exact rfl) (by exact rfl) (by exact rfl)
        · by_cases d2 : 0 < y
          · have g2 : inB ((y : Int) + (2 * ((0 : Nat) : Int) - 1)) 0 ((t.ter.length : Int) - 1) = true := inB_iff.2 (by omega)
            repeat (first | apply ef_seq | (apply ef_mv; exact rfl; exact rfl) | (apply ef_bin; exact rfl; exact rfl; exact rfl; (first | exact cmp_t rfl (by first | exact rfl | (simp only [cmpP]; omega)) | ((with_reducible refine bin_add (wrap_of ?_ ?_)) <;> omega) | ((with_reducible refine bin_sub (wrap_of ?_ ?_)) <;> omega))) | (apply ef_gy; exact rfl; (exact (rfl : true = true))) | (apply ef_pick; exact rfl; exact rfl; exact rfl) | (apply ef_len; exact rfl; exact rfl; (assumption)) | (apply ef_ldr; exact rfl; exact rfl; (exact rfl)) | (apply ef_ldp; exact rfl; exact rfl; (exact rfl); exact rfl; (exact rfl); (exact rfl)) | (apply ef_ias; exact rfl; exact rfl; exact rfl; (omega); assumption; exact rfl) | (apply ef_fap; exact rfl; exact rfl) | (apply ef_build; exact rfl; (repeat (apply XVs.cons; exact rfl)); exact XVs.nil; exact rfl; exact rfl) | (apply ef_bsl; exact rfl; (repeat (apply XVs.cons; exact rfl)); exact XVs.nil; exact rfl) | apply ef_nil | apply seqQ.normal | apply ef_block | apply ef_skip | (apply ef_condt; exact rfl; (exact (rfl : true = true))) | (apply ef_call; exact rfl; ((repeat (apply XVs.cons; exact rfl)); exact XVs.nil); (with_reducible first | exact Within_c _ _ _ _ _ (by assumption) | exact hH1 _)))
            (apply ef_nbapp (t := t) (L := L) (p := (y, x - 1)) (G := []); (· exact rfl); (· exact rfl); (· exact rfl); (· (try simp only [List.length_append, List.length_cons, List.length_nil] at hLl ⊢); omega); (· exact show posI ((x : Int) + (2 * ((0 : Nat) : Int) - 1)) (y : Int) = posM (y, x - 1) from by rw [show ((x : Int) + (2 * ((0 : Nat) : Int) - 1)) = (((y, x - 1).2 : Nat) : Int) by simp only; omega]); (· exact fun _ => rfl))
            repeat (first | apply ef_seq | (apply ef_mv; exact rfl; exact rfl) | (apply ef_bin; exact rfl; exact rfl; exact rfl; (first | ((with_reducible refine bin_add (wrap_of ?_ ?_)) <;> omega) | ((with_reducible refine bin_sub (wrap_of ?_ ?_)) <;> omega))) | (apply ef_gy; exact rfl; (exact (rfl : true = true))) | (apply ef_pick; exact rfl; exact rfl; exact rfl) | (apply ef_len; exact rfl; exact rfl; (assumption)) | (apply ef_ldp; exact rfl; exact rfl; (exact rfl); exact rfl; (exact rfl); (exact rfl)) | (apply ef_fap; exact rfl; exact rfl) | (apply ef_build; exact rfl; (repeat (apply XVs.cons; exact rfl)); exact XVs.nil; exact rfl; exact rfl) | (apply ef_bsl; exact rfl; (repeat (apply XVs.cons; exact rfl)); exact XVs.nil; exact rfl) | apply ef_nil | apply seqQ.normal | (apply ef_condt; exact rfl; (exact (rfl : true = true))) | (apply ef_call; exact rfl; ((repeat (apply XVs.cons; exact rfl)); exact XVs.nil); (with_reducible first | exact Within_c _ _ _ _ _ (by assumption) | exact hH2 _)))
            (apply ef_nbapp (t := t) (L := (L ++ [(y, x - 1)])) (p := (y - 1, x)) (G := [⟨0, false, 2, [posM (y, x - 1)]⟩]); (· exact rfl); (· exact rfl); (· exact rfl); (· (try simp only [List.length_append, List.length_cons, List.length_nil] at hLl ⊢); omega); (· exact show posI (x : Int) ((y : Int) + (2 * ((0 : Nat) : Int) - 1)) = posM (y - 1, x) from by rw [show ((y : Int) + (2 * ((0 : Nat) : Int) - 1)) = (((y - 1, x).1 : Nat) : Int) by simp only; omega]); (· exact fun _ => rfl))
            repeat (first | (apply ef_mv; exact rfl; exact rfl) | (apply ef_bin; exact rfl; exact rfl; exact rfl; (((with_reducible refine bin_add (wrap_of ?_ ?_)) <;> omega))) | apply ef_nil | apply seqQ.normal | apply blockQ.normal)
            refine loopQ.normal _ _ ⟨(0 + 1, ((L ++ [(y, x - 1)]) ++ [(y - 1, x)])), ⟨by simp only; omega, by rw [HN]; simp [nbA, *], by (try simp only [List.length_append, List.length_cons, List.length_nil] at hLl ⊢); omega⟩, by simp only; omega, ⟨by ((repeat (refine Hold.cons (by exact rfl) ?_)); exact Hold.nil), by ((repeat (refine Hold.cons (by exact rfl) ?_)); exact Hold.nil)⟩, HeadIs.tkE [⟨0, false, 2, [posM (y, x - 1)]⟩, ⟨0, false, 2, [posM (y - 1, x)]⟩] (by first | exact rfl | simp) rfl (nbHp_cl t _ _) fun u hu => ?_⟩
            exact nbK hu (by exact rfl) (by exact rfl) (by exact rfl) (by exact rfl) (by exact rfl)
          · have g2 : inB ((y : Int) + (2 * ((0 : Nat) : Int) - 1)) 0 ((t.ter.length : Int) - 1) = false := inB_not.2 (by omega)
            repeat (first | apply ef_seq | (apply ef_mv; exact rfl; exact rfl) | (apply ef_bin; exact rfl; exact rfl; exact rfl; (first | exact cmp_t rfl (by first | exact rfl | (simp only [cmpP]; omega)) | ((with_reducible refine bin_add (wrap_of ?_ ?_)) <;> omega) | ((with_reducible refine bin_sub (wrap_of ?_ ?_)) <;> omega))) | (apply ef_gy; exact rfl; (exact (rfl : true = true))) | (apply ef_pick; exact rfl; exact rfl; exact rfl) | (apply ef_len; exact rfl; exact rfl; (assumption)) | (apply ef_ldr; exact rfl; exact rfl; (exact rfl)) | (apply ef_ldp; exact rfl; exact rfl; (exact rfl); exact rfl; (exact rfl); (exact rfl)) | (apply ef_ias; exact rfl; exact rfl; exact rfl; (omega); assumption; exact rfl) | (apply ef_fap; exact rfl; exact rfl) | (apply ef_build; exact rfl; (repeat (apply XVs.cons; exact rfl)); exact XVs.nil; exact rfl; exact rfl) | (apply ef_bsl; exact rfl; (repeat (apply XVs.cons; exact rfl)); exact XVs.nil; exact rfl) | apply ef_nil | apply seqQ.normal | apply ef_block | apply ef_skip | (apply ef_condt; exact rfl; (exact (rfl : true = true))) | (apply ef_call; exact rfl; ((repeat (apply XVs.cons; exact rfl)); exact XVs.nil); (with_reducible first | exact Within_c _ _ _ _ _ (by assumption) | exact hH1 _)))
            (apply ef_nbapp (t := t) (L := L) (p := (y, x - 1)) (G := []); (· exact rfl); (· exact rfl); (· exact rfl); (· (try simp only [List.length_append, List.length_cons, List.length_nil] at hLl ⊢); omega); (· exact show posI ((x : Int) + (2 * ((0 : Nat) : Int) - 1)) (y : Int) = posM (y, x - 1) from by rw [show ((x : Int) + (2 * ((0 : Nat) : Int) - 1)) = (((y, x - 1).2 : Nat) : Int) by simp only; omega]); (· exact fun _ => rfl))
            repeat (first | apply ef_seq | (apply ef_mv; exact rfl; exact rfl) | (apply ef_bin; exact rfl; exact rfl; exact rfl; (first | ((with_reducible refine bin_add (wrap_of ?_ ?_)) <;> omega) | ((with_reducible refine bin_sub (wrap_of ?_ ?_)) <;> omega))) | (apply ef_gy; exact rfl; (exact (rfl : true = true))) | (apply ef_pick; exact rfl; exact rfl; exact rfl) | (apply ef_len; exact rfl; exact rfl; (assumption)) | (apply ef_ldp; exact rfl; exact rfl; (exact rfl); exact rfl; (exact rfl); (exact rfl)) | (apply ef_fap; exact rfl; exact rfl) | apply ef_nil | apply seqQ.normal | apply blockQ.normal | apply ef_skip | (apply ef_condf; exact rfl; (exact (rfl : false = false))) | (apply ef_call; exact rfl; ((repeat (apply XVs.cons; exact rfl)); exact XVs.nil); (with_reducible first | exact Within_c _ _ _ _ _ (by assumption) | exact hH2 _)))
            refine loopQ.normal _ _ ⟨(0 + 1, (L ++ [(y, x - 1)])), ⟨by simp only; omega, by rw [HN]; simp [nbA, *], by (try simp only [List.length_append, List.length_cons, List.length_nil] at hLl ⊢); omega⟩, by simp only; omega, ⟨by ((repeat (refine Hold.cons (by exact rfl) ?_)); exact Hold.nil), by ((repeat (refine Hold.cons (by exact rfl) ?_)); exact Hold.nil)⟩, HeadIs.tkE [⟨0, false, 2, [posM (y, x - 1)]⟩] (by first | exact rfl | simp) rfl (nbHp_cl t _ _) fun u hu => ?_⟩
            exact nbK hu (by exact rfl) (by exact rfl) (by exact rfl) (by exact rfl) (by exact rfl)
      · have g1 : inB ((x : Int) + (2 * ((0 : Nat) : Int) - 1)) 0 ((t.W : Int) - 1) = false := inB_not.2 (by omega)
        cases q
        · repeat (first | apply ef_seq | (apply ef_mv; exact rfl; exact rfl) | (apply ef_bin; exact rfl; exact rfl; exact rfl; (first | exact cmp_t rfl (by first | exact rfl | (simp only [cmpP]; omega)) | ((with_reducible refine bin_add (wrap_of ?_ ?_)) <;> omega) | ((with_reducible refine bin_sub (wrap_of ?_ ?_)) <;> omega))) | (apply ef_gy; exact rfl; (exact (rfl : true = true))) | (apply ef_gn; exact rfl; (exact (rfl : false = false)); exact rfl) | (apply ef_pick; exact rfl; exact rfl; exact rfl) | (apply ef_len; exact rfl; exact rfl; (assumption)) | (apply ef_ldr; exact rfl; exact rfl; (exact rfl)) | (apply ef_ldp; exact rfl; exact rfl; (exact rfl); exact rfl; (exact rfl); (exact rfl)) | (apply ef_ias; exact rfl; exact rfl; exact rfl; (omega); assumption; exact rfl) | (apply ef_fap; exact rfl; exact rfl) | apply ef_nil | apply seqQ.normal | apply blockQ.normal | apply ef_block | apply ef_skip | (apply ef_condt; exact rfl; (exact (rfl : true = true))) | (apply ef_condf; exact rfl; (exact (rfl : false = false))) | (apply ef_call; exact rfl; ((repeat (apply XVs.cons; exact rfl)); exact XVs.nil); (with_reducible first | exact Within_c _ _ _ _ _ (by assumption) | exact hH1 _ | exact hH2 _)))
          refine loopQ.normal _ _ ⟨(0 + 1, L), ⟨by simp only; omega, by rw [HN]; simp [nbA, *], by (try simp only [List.length_append, List.length_cons, List.length_nil] at hLl ⊢); omega⟩, by simp only; omega, ⟨by ((repeat (refine Hold.cons (by exact rfl) ?_)); exact Hold.nil), by ((repeat (refine Hold.cons (by exact rfl) ?_)); exact Hold.nil)⟩, HeadIs.tkE [] (by first | exact rfl | simp) rfl (nbHp_cl t _ _) fun u hu => ?_⟩
          exact nbK hu (by exact rfl) (by exact rfl) (by exact rfl) (by exact rfl) (by exact rfl)
        · by_cases d2 : 0 < y
          · have g2 : inB ((y : Int) + (2 * ((0 : Nat) : Int) - 1)) 0 ((t.ter.length : Int) - 1) = true := inB_iff.2 (by omega)
            repeat (first | apply ef_seq | (apply ef_mv; exact rfl; exact rfl) | (apply ef_bin; exact rfl; exact rfl; exact rfl; (first | exact cmp_t rfl (by first | exact rfl | (simp only [cmpP]; omega)) | ((with_reducible refine bin_add (wrap_of ?_ ?_)) <;> omega) | ((with_reducible refine bin_sub (wrap_of ?_ ?_)) <;> omega))) | (apply ef_gy; exact rfl; (exact (rfl : true = true))) | (apply ef_pick; exact rfl; exact rfl; exact rfl) | (apply ef_len; exact rfl; exact rfl; (assumption)) | (apply ef_ldr; exact rfl; exact rfl; (exact rfl)) | (apply ef_ldp; exact rfl; exact rfl; (exact rfl); exact rfl; (exact rfl); (exact rfl)) | (apply ef_ias; exact rfl; exact rfl; exact rfl; (omega); assumption; exact rfl) | (apply ef_fap; exact rfl; exact rfl) | (apply ef_build; exact rfl; (repeat (apply XVs.cons; exact rfl)); exact XVs.nil; exact rfl; exact rfl) | (apply ef_bsl; exact rfl; (repeat (apply XVs.cons; exact rfl)); exact XVs.nil; exact rfl) | apply ef_nil | apply seqQ.normal | apply ef_block | apply ef_skip | (apply ef_condt; exact rfl; (exact (rfl : true = true))) | (apply ef_condf; exact rfl; (exact (rfl : false = false))) | (apply ef_call; exact rfl; ((repeat (apply XVs.cons; exact rfl)); exact XVs.nil); (with_reducible first | exact Within_c _ _ _ _ _ (by assumption) | exact hH1 _ | exact hH2 _)))
            (apply ef_nbapp (t := t) (L := L) (p := (y - 1, x)) (G := []); (· exact rfl); (· exact rfl); (· exact rfl); (· (try simp only [List.length_append, List.length_cons, List.length_nil] at hLl ⊢); omega); (· exact show posI (x : Int) ((y : Int) + (2 * ((0 : Nat) : Int) - 1)) = posM (y - 1, x) from by rw [show ((y : Int) + (2 * ((0 : Nat) : Int) - 1)) = (((y - 1, x).1 : Nat) : Int) by simp only; omega]); (· exact fun _ => rfl))
            repeat (first | (apply ef_mv; exact rfl; exact rfl) | (apply ef_bin; exact rfl; exact rfl; exact rfl; (((with_reducible refine bin_add (wrap_of ?_ ?_)) <;> omega))) | apply ef_nil | apply seqQ.normal | apply blockQ.normal)
            refine loopQ.normal _ _ ⟨(0 + 1, (L ++ [(y - 1, x)])), ⟨by simp only; omega, by rw [HN]; simp [nbA, *], by (try simp only [List.length_append, List.length_cons, List.length_nil] at hLl ⊢); omega⟩, by simp only; omega, ⟨by ((repeat (refine Hold.cons (by exact rfl) ?_)); exact Hold.nil), by ((repeat (refine Hold.cons (by exact rfl) ?_)); exact Hold.nil)⟩, HeadIs.tkE [⟨0, false, 2, [posM (y - 1, x)]⟩] (by first | exact rfl | simp) rfl (nbHp_cl t _ _) fun u hu => ?_⟩
            exact nbK hu (by exact rfl) (by exact rfl) (by exact rfl) (by exact rfl) (by exact rfl)
          · have g2 : inB ((y : Int) + (2 * ((0 : Nat) : Int) - 1)) 0 ((t.ter.length : Int) - 1) = false := inB_not.2 (by omega)
            repeat (first | apply ef_seq | (apply ef_mv; exact rfl; exact rfl) | (apply ef_bin; exact rfl; exact rfl; exact rfl; (first | exact cmp_t rfl (by first | exact rfl | (simp only [cmpP]; omega)) | ((with_reducible refine bin_add (wrap_of ?_ ?_)) <;> omega) | ((with_reducible refine bin_sub (wrap_of ?_ ?_)) <;> omega))) | (apply ef_gy; exact rfl; (exact (rfl : true = true))) | (apply ef_pick; exact rfl; exact rfl; exact rfl) | (apply ef_len; exact rfl; exact rfl; (assumption)) | (apply ef_ldr; exact rfl; exact rfl; (exact rfl)) | (apply ef_ldp; exact rfl; exact rfl; (exact rfl); exact rfl; (exact rfl); (exact rfl)) | (apply ef_ias; exact rfl; exact rfl; exact rfl; (omega); assumption; exact rfl) | (apply ef_fap; exact rfl; exact rfl) | apply ef_nil | apply seqQ.normal | apply blockQ.normal | apply ef_block | apply ef_skip | (apply ef_condt; exact rfl; (exact (rfl : true = true))) | (apply ef_condf; exact rfl; (exact (rfl : false = false))) | (apply ef_call; exact rfl; ((repeat (apply XVs.cons; exact rfl)); exact XVs.nil); (with_reducible first | exact Within_c _ _ _ _ _ (by assumption) | exact hH1 _ | exact hH2 _)))
            refine loopQ.normal _ _ ⟨(0 + 1, L), ⟨by simp only; omega, by rw [HN]; simp [nbA, *], by (try simp only [List.length_append, List.length_cons, List.length_nil] at hLl ⊢); omega⟩, by simp only; omega, ⟨by ((repeat (refine Hold.cons (by exact rfl) ?_)); exact Hold.nil), by ((repeat (refine Hold.cons (by exact rfl) ?_)); exact Hold.nil)⟩, HeadIs.tkE [] (by first | exact rfl | simp) rfl (nbHp_cl t _ _) fun u hu => ?_⟩
            exact nbK hu (by exact rfl) (by exact rfl) (by exact rfl) (by exact rfl) (by exact rfl)
  | 1, hi, hL, hLl =>
    have HN := (show nbP t y x (1 + 1) = nbP t y x 1 ++ (nbA (t.rows.contains (y : Int)) (decide (x + 1 < t.W)) (y, x + 1) ++ nbA (t.ties.contains (x : Int)) (decide (y + 1 < t.ter.length)) (y + 1, x)) from by simp [nbP, nbR])
    rw [← hL] at HN
    generalize t.rows.contains (y : Int) = p at hH1 HN
    generalize t.ties.contains (x : Int) = q at hH2 HN
    cases p
    · cases q
      · repeat (first | apply ef_seq | (apply ef_mv; exact rfl; exact rfl) | (apply ef_bin; exact rfl; exact rfl; exact rfl; (first | exact cmp_t rfl (by first | exact rfl | (simp only [cmpP]; omega)) | ((with_reducible refine bin_add (wrap_of ?_ ?_)) <;> omega))) | (apply ef_gn; exact rfl; (exact (rfl : false = false)); exact rfl) | (apply ef_pick; exact rfl; exact rfl; exact rfl) | (apply ef_ldp; exact rfl; exact rfl; (exact rfl); exact rfl; (exact rfl); (exact rfl)) | (apply ef_fap; exact rfl; exact rfl) | apply ef_nil | apply seqQ.normal | apply blockQ.normal | apply ef_block | apply ef_skip | (apply ef_condt; exact rfl; (exact (rfl : true = true))) | (apply ef_condf; exact rfl; (exact (rfl : false = false))) | (apply ef_call; exact rfl; ((repeat (apply XVs.cons; exact rfl)); exact XVs.nil); (with_reducible first | exact hH1 _ | exact hH2 _)))
        refine loopQ.normal _ _ ⟨(1 + 1, L), ⟨by simp only; omega, by rw [HN]; simp [nbA, *], by (try simp only [List.length_append, List.length_cons, List.length_nil] at hLl ⊢); omega⟩, by simp only; omega, ⟨by ((repeat (refine Hold.cons (by exact rfl) ?_)); exact Hold.nil), by ((repeat (refine Hold.cons (by exact rfl) ?_)); exact Hold.nil)⟩, HeadIs.tkE [] (by first | exact rfl | simp) rfl (nbHp_cl t _ _) fun u hu => ?_⟩
        exact nbK hu (by exact rfl) (by exact rfl) (by exact rfl) (by exact rfl) (by exact rfl)
      · by_cases d2 : y + 1 < t.ter.length
        · have g2 : inB ((y : Int) + (2 * ((1 : Nat) : Int) - 1)) 0 ((t.ter.length : Int) - 1) = true := inB_iff.2 (by omega)
          repeat (first | apply ef_seq | (apply ef_mv; exact rfl; exact rfl) | (apply ef_bin; exact rfl; exact rfl; exact rfl; (first | exact cmp_t rfl (by first | exact rfl | (simp only [cmpP]; omega)) | ((with_reducible refine bin_add (wrap_of ?_ ?_)) <;> omega) | ((with_reducible refine bin_sub (wrap_of ?_ ?_)) <;> omega))) | (apply ef_gy; exact rfl; (exact (rfl : true = true))) | (apply ef_gn; exact rfl; (exact (rfl : false = false)); exact rfl) | (apply ef_pick; exact rfl; exact rfl; exact rfl) | (apply ef_len; exact rfl; exact rfl; (assumption)) | (apply ef_ldp; exact rfl; exact rfl; (exact rfl); exact rfl; (exact rfl); (exact rfl)) | (apply ef_fap; exact rfl; exact rfl) | (apply ef_build; exact rfl; (repeat (apply XVs.cons; exact rfl)); exact XVs.nil; exact rfl; exact rfl) | (apply ef_bsl; exact rfl; (repeat (apply XVs.cons; exact rfl)); exact XVs.nil; exact rfl) | apply ef_nil | apply seqQ.normal | apply ef_block | apply ef_skip | (apply ef_condt; exact rfl; (exact (rfl : true = true))) | (apply ef_condf; exact rfl; (exact (rfl : false = false))) | (apply ef_call; exact rfl; ((repeat (apply XVs.cons; exact rfl)); exact XVs.nil); (with_reducible first | exact Within_c _ _ _ _ _ (by assumption) | exact hH1 _ | exact hH2 _)))
          (apply ef_nbapp (t := t) (L := L) (p := (y + 1, x)) (G := []); (· exact rfl); (· exact rfl); (· exact rfl); (· (try simp only [List.length_append, List.length_cons, List.length_nil] at hLl ⊢); omega); (· exact show posI (x : Int) ((y : Int) + (2 * ((1 : Nat) : Int) - 1)) = posM (y + 1, x) from by rw [show ((y : Int) + (2 * ((1 : Nat) : Int) - 1)) = (((y + 1, x).1 : Nat) : Int) by simp only; omega]); (· exact fun _ => rfl))
          repeat (first | (apply ef_mv; exact rfl; exact rfl) | (apply ef_bin; exact rfl; exact rfl; exact rfl; (((with_reducible refine bin_add (wrap_of ?_ ?_)) <;> omega))) | apply ef_nil | apply seqQ.normal | apply blockQ.normal)
          refine loopQ.normal _ _ ⟨(1 + 1, (L ++ [(y + 1, x)])), ⟨by simp only; omega, by rw [HN]; simp [nbA, *], by (try simp only [List.length_append, List.length_cons, List.length_nil] at hLl ⊢); omega⟩, by simp only; omega, ⟨by ((repeat (refine Hold.cons (by exact rfl) ?_)); exact Hold.nil), by ((repeat (refine Hold.cons (by exact rfl) ?_)); exact Hold.nil)⟩, HeadIs.tkE [⟨0, false, 2, [posM (y + 1, x)]⟩] (by first | exact rfl | simp) rfl (nbHp_cl t _ _) fun u hu => ?_⟩
          exact nbK hu (by exact rfl) (by exact rfl) (by exact rfl) (by exact rfl) (by exact rfl)
        · have g2 : inB ((y : Int) + (2 * ((1 : Nat) : Int) - 1)) 0 ((t.ter.length : Int) - 1) = false := inB_not.2 (by omega)
          repeat (first | apply ef_seq | (apply ef_mv; exact rfl; exact rfl) | (apply ef_bin; exact rfl; exact rfl; exact rfl; (first | exact cmp_t rfl (by first | exact rfl | (simp only [cmpP]; omega)) | ((with_reducible refine bin_add (wrap_of ?_ ?_)) <;> omega) | ((with_reducible refine bin_sub (wrap_of ?_ ?_)) <;> omega))) | (apply ef_gy; exact rfl; (exact (rfl : true = true))) | (apply ef_gn; exact rfl; (exact (rfl : false = false)); exact rfl) | (apply ef_pick; exact rfl; exact rfl; exact rfl) | (apply ef_len; exact rfl; exact rfl; (assumption)) | (apply ef_ldp; exact rfl; exact rfl; (exact rfl); exact rfl; (exact rfl); (exact rfl)) | (apply ef_fap; exact rfl; exact rfl) | apply ef_nil | apply seqQ.normal | apply blockQ.normal | apply ef_block | apply ef_skip | (apply ef_condt; exact rfl; (exact (rfl : true = true))) | (apply ef_condf; exact rfl; (exact (rfl : false = false))) | (apply ef_call; exact rfl; ((repeat (apply XVs.cons; exact rfl)); exact XVs.nil); (with_reducible first | exact Within_c _ _ _ _ _ (by assumption) | exact hH1 _ | exact hH2 _)))
          refine loopQ.normal _ _ ⟨(1 + 1, L), ⟨by simp only; omega, by rw [HN]; simp [nbA, *], by (try simp only [List.length_append, List.length_cons, List.length_nil] at hLl ⊢); omega⟩, by simp only; omega, ⟨by ((repeat (refine Hold.cons (by exact rfl) ?_)); exact Hold.nil), by ((repeat (refine Hold.cons (by exact rfl) ?_)); exact Hold.nil)⟩, HeadIs.tkE [] (by first | exact rfl | simp) rfl (nbHp_cl t _ _) fun u hu => ?_⟩
          exact nbK hu (by exact rfl) (by exact rfl) (by exact rfl) (by exact rfl) (by exact rfl)
    · by_cases d1 : x + 1 < t.W
      · have g1 : inB ((x : Int) + (2 * ((1 : Nat) : Int) - 1)) 0 ((t.W : Int) - 1) = true := inB_iff.2 (by omega)
        cases q
        · repeat (first | apply ef_seq | (apply ef_mv; exact rfl; exact rfl) | (apply ef_bin; exact rfl; exact rfl; exact rfl; (first | exact cmp_t rfl (by first | exact rfl | (simp only [cmpP]; omega)) | ((with_reducible refine bin_add (wrap_of ?_ ?_)) <;> omega) | ((with_reducible refine bin_sub (wrap_of ?_ ?_)) <;> omega))) | (apply ef_gy; exact rfl; (exact (rfl : true = true))) | (apply ef_pick; exact rfl; exact rfl; exact rfl) | (apply ef_len; exact rfl; exact rfl; (assumption)) | (apply ef_ldr; exact rfl; exact rfl; (exact rfl)) | (apply ef_ldp; exact rfl; exact rfl; (exact rfl); exact rfl; (exact rfl); (exact rfl)) | (apply ef_ias; exact rfl; exact rfl; exact rfl; (omega); assumption; exact rfl) | (apply ef_fap; exact rfl; exact rfl) | (apply ef_build; exact rfl; (repeat (apply XVs.cons; exact rfl)); exact XVs.nil; exact rfl; exact rfl) | (apply ef_bsl; exact rfl; (repeat (apply XVs.cons; exact rfl)); exact XVs.nil; exact rfl) | apply ef_nil | apply seqQ.normal | apply ef_block | apply ef_skip | (apply ef_condt; exact rfl; (exact (rfl : true = true))) | (apply ef_call; exact rfl; ((repeat (apply XVs.cons; exact rfl)); exact XVs.nil); (with_reducible first | exact Within_c _ _ _ _ _ (by assumption) | exact hH1 _)))
          (apply ef_nbapp (t := t) (L := L) (p := (y, x + 1)) (G := []); (· exact rfl); (· exact rfl); (· exact rfl); (· (try simp only [List.length_append, List.length_cons, List.length_nil] at hLl ⊢); omega); (· exact show posI ((x : Int) + (2 * ((1 : Nat) : Int) - 1)) (y : Int) = posM (y, x + 1) from by rw [show ((x : Int) + (2 * ((1 : Nat) : Int) - 1)) = (((y, x + 1).2 : Nat) : Int) by simp only; omega]); (· exact fun _ => rfl))
          repeat (first | apply ef_seq | (apply ef_mv; exact rfl; exact rfl) | (apply ef_bin; exact rfl; exact rfl; exact rfl; (((with_reducible refine bin_add (wrap_of ?_ ?_)) <;> omega))) | (apply ef_gn; exact rfl; (exact (rfl : false = false)); exact rfl) | (apply ef_pick; exact rfl; exact rfl; exact rfl) | (apply ef_ldp; exact rfl; exact rfl; (exact rfl); exact rfl; (exact rfl); (exact rfl)) | (apply ef_fap; exact rfl; exact rfl) | apply ef_nil | apply seqQ.normal | apply blockQ.normal | apply ef_skip | (apply ef_condf; exact rfl; (exact (rfl : false = false))) | (apply ef_call; exact rfl; ((repeat (apply XVs.cons; exact rfl)); exact XVs.nil); (with_reducible exact hH2 _)))
          refine loopQ.normal _ _ ⟨(1 + 1, (L ++ [(y, x + 1)])), ⟨by simp only; omega, by rw [HN]; simp [nbA, *], by (try simp only [List.length_append, List.length_cons, List.length_nil] at hLl ⊢); omega⟩, by simp only; omega, ⟨by ((repeat (refine Hold.cons (by exact rfl) ?_)); exact Hold.nil), by ((repeat (refine Hold.cons (by exact rfl) ?_)); exact Hold.nil)⟩, HeadIs.tkE [⟨0, false, 2, [posM (y, x + 1)]⟩] (by first | exact rfl | simp) rfl (nbHp_cl t _ _) fun u hu => ?_⟩
          exact nbK hu (by exact rfl) (by exact rfl) (by exact rfl) (by exact rfl) (by exact rfl)
        · by_cases d2 : y + 1 < t.ter.length
          · have g2 : inB ((y : Int) + (2 * ((1 : Nat) : Int) - 1)) 0 ((t.ter.length : Int) - 1) = true := inB_iff.2 (by omega)
            repeat (first | apply ef_seq | (apply ef_mv; exact rfl; exact rfl) | (apply ef_bin; exact rfl; exact rfl; exact rfl; (first | exact cmp_t rfl (by first | exact rfl | (simp only [cmpP]; omega)) | ((with_reducible refine bin_add (wrap_of ?_ ?_)) <;> omega) | ((with_reducible refine bin_sub (wrap_of ?_ ?_)) <;> omega))) | (apply ef_gy; exact rfl; (exact (rfl : true = true))) | (apply ef_pick; exact rfl; exact rfl; exact rfl) | (apply ef_len; exact rfl; exact rfl; (assumption)) | (apply ef_ldr; exact rfl; exact rfl; (exact rfl)) | (apply ef_ldp; exact rfl; exact rfl; (exact rfl); exact rfl; (exact rfl); (exact rfl)) | (apply ef_ias; exact rfl; exact rfl; exact rfl; (omega); assumption; exact rfl) | (apply ef_fap; exact rfl; exact rfl) | (apply ef_build; exact rfl; (repeat (apply XVs.cons; exact rfl)); exact XVs.nil; exact rfl; exact rfl) | (apply ef_bsl; exact rfl; (repeat (apply XVs.cons; exact rfl)); exact XVs.nil; exact rfl) | apply ef_nil | apply seqQ.normal | apply ef_block | apply ef_skip | (apply ef_condt; exact rfl; (exact (rfl : true = true))) | (apply ef_call; exact rfl; ((repeat (apply XVs.cons; exact rfl)); exact XVs.nil); (with_reducible first | exact Within_c _ _ _ _ _ (by assumption) | exact hH1 _)))
            (apply ef_nbapp (t := t) (L := L) (p := (y, x + 1)) (G := []); (· exact rfl); (· exact rfl); (· exact rfl); (· (try simp only [List.length_append, List.length_cons, List.length_nil] at hLl ⊢); omega); (· exact show posI ((x : Int) + (2 * ((1 : Nat) : Int) - 1)) (y : Int) = posM (y, x + 1) from by rw [show ((x : Int) + (2 * ((1 : Nat) : Int) - 1)) = (((y, x + 1).2 : Nat) : Int) by simp only; omega]); (· exact fun _ => rfl))
            repeat (first | apply ef_seq | (apply ef_mv; exact rfl; exact rfl) | (apply ef_bin; exact rfl; exact rfl; exact rfl; (first | ((with_reducible refine bin_add (wrap_of ?_ ?_)) <;> omega) | ((with_reducible refine bin_sub (wrap_of ?_ ?_)) <;> omega))) | (apply ef_gy; exact rfl; (exact (rfl : true = true))) | (apply ef_pick; exact rfl; exact rfl; exact rfl) | (apply ef_len; exact rfl; exact rfl; (assumption)) | (apply ef_ldp; exact rfl; exact rfl; (exact rfl); exact rfl; (exact rfl); (exact rfl)) | (apply ef_fap; exact rfl; exact rfl) | (apply ef_build; exact rfl; (repeat (apply XVs.cons; exact rfl)); exact XVs.nil; exact rfl; exact rfl) | (apply ef_bsl; exact rfl; (repeat (apply XVs.cons; exact rfl)); exact XVs.nil; exact rfl) | apply ef_nil | apply seqQ.normal | (apply ef_condt; exact rfl; (exact (rfl : true = true))) | (apply ef_call; exact rfl; ((repeat (apply XVs.cons; exact rfl)); exact XVs.nil); (with_reducible first | exact Within_c _ _ _ _ _ (by assumption) | exact hH2 _)))
            (apply ef_nbapp (t := t) (L := (L ++ [(y, x + 1)])) (p := (y + 1, x)) (G := [⟨0, false, 2, [posM (y, x + 1)]⟩]); (· exact rfl); (· exact rfl); (· exact rfl); (· (try simp only [List.length_append, List.length_cons, List.length_nil] at hLl ⊢); omega); (· exact show posI (x : Int) ((y : Int) + (2 * ((1 : Nat) : Int) - 1)) = posM (y + 1, x) from by rw [show ((y : Int) + (2 * ((1 : Nat) : Int) - 1)) = (((y + 1, x).1 : Nat) : Int) by simp only; omega]); (· exact fun _ => rfl))
            repeat (first | (apply ef_mv; exact rfl; exact rfl) | (apply ef_bin; exact rfl; exact rfl; exact rfl; (((with_reducible refine bin_add (wrap_of ?_ ?_)) <;> omega))) | apply ef_nil | apply seqQ.normal | apply blockQ.normal)
            refine loopQ.normal _ _ ⟨(1 + 1, ((L ++ [(y, x + 1)]) ++ [(y + 1, x)])), ⟨by simp only; omega, by rw [HN]; simp [nbA, *], by (try simp only [List.length_append, List.length_cons, List.length_nil] at hLl ⊢); omega⟩, by simp only; omega, ⟨by ((repeat (refine Hold.cons (by exact rfl) ?_)); exact Hold.nil), by ((repeat (refine Hold.cons (by exact rfl) ?_)); exact Hold.nil)⟩, HeadIs.tkE [⟨0, false, 2, [posM (y, x + 1)]⟩, ⟨0, false, 2, [posM (y + 1, x)]⟩] (by first | exact rfl | simp) rfl (nbHp_cl t _ _) fun u hu => ?_⟩
            exact nbK hu (by exact rfl) (by exact rfl) (by exact rfl) (by exact rfl) (by exact rfl)
          · have g2 : inB ((y : Int) + (2 * ((1 : Nat) : Int) - 1)) 0 ((t.ter.length : Int) - 1) = false := inB_not.2 (by omega)
            repeat (first | apply ef_seq | (apply ef_mv; exact rfl; exact rfl) | (apply ef_bin; exact rfl; exact rfl; exact rfl; (first | exact cmp_t rfl (by first | exact rfl | (simp only [cmpP]; omega)) | ((with_reducible refine bin_add (wrap_of ?_ ?_)) <;> omega) | ((with_reducible refine bin_sub (wrap_of ?_ ?_)) <;> omega))) | (apply ef_gy; exact rfl; (exact (rfl : true = true))) | (apply ef_pick; exact rfl; exact rfl; exact rfl) | (apply ef_len; exact rfl; exact rfl; (assumption)) | (apply ef_ldr; exact rfl; exact rfl; (exact rfl)) | (apply ef_ldp; exact rfl; exact rfl; (exact rfl); exact rfl; (exact rfl); (exact rfl)) | (apply ef_ias; exact rfl; exact rfl; exact rfl; (omega); assumption; exact rfl) | (apply ef_fap; exact rfl; exact rfl) | (apply ef_build; exact rfl; (repeat (apply XVs.cons; exact rfl)); exact XVs.nil; exact rfl; exact rfl) | (apply ef_bsl; exact rfl; (repeat (apply XVs.cons; exact rfl)); exact XVs.nil; exact rfl) | apply ef_nil | apply seqQ.normal | apply ef_block | apply ef_skip | (apply ef_condt; exact rfl; (exact (rfl : true = true))) | (apply ef_call; exact rfl; ((repeat (apply XVs.cons; exact rfl)); exact XVs.nil); (with_reducible first | exact Within_c _ _ _ _ _ (by assumption) | exact hH1 _)))
            (apply ef_nbapp (t := t) (L := L) (p := (y, x + 1)) (G := []); (· exact rfl); (· exact rfl); (· exact rfl); (· (try simp only [List.length_append, List.length_cons, List.length_nil] at hLl ⊢); omega); (· exact show posI ((x : Int) + (2 * ((1 : Nat) : Int) - 1)) (y : Int) = posM (y, x + 1) from by rw [show ((x : Int) + (2 * ((1 : Nat) : Int) - 1)) = (((y, x + 1).2 : Nat) : Int) by simp only; omega]); (· exact fun _ => rfl))
            repeat (first | apply ef_seq | (apply ef_mv; exact rfl; exact rfl) | (apply ef_bin; exact rfl; exact rfl; exact rfl; (first | ((with_reducible refine bin_add (wrap_of ?_ ?_)) <;> omega) | ((with_reducible refine bin_sub (wrap_of ?_ ?_)) <;> omega))) | (apply ef_gy; exact rfl; (exact (rfl : true = true))) | (apply ef_pick; exact rfl; exact rfl; exact rfl) | (apply ef_len; exact rfl; exact rfl; (assumption)) | (apply ef_ldp; exact rfl; exact rfl; (exact rfl); exact rfl; (exact rfl); (exact rfl)) | (apply ef_fap; exact rfl; exact rfl) | apply ef_nil | apply seqQ.normal | apply blockQ.normal | apply ef_skip | (apply ef_condf; exact rfl; (exact (rfl : false = false))) | (apply ef_call; exact rfl; ((repeat (apply XVs.cons; exact rfl)); exact XVs.nil); (with_reducible first | exact Within_c _ _ _ _ _ (by assumption) | exact hH2 _)))
            refine loopQ.normal _ _ ⟨(1 + 1, (L ++ [(y, x + 1)])), ⟨by simp only; omega, by rw [HN]; simp [nbA, *], by (try simp only [List.length_append, List.length_cons, List.length_nil] at hLl ⊢); omega⟩, by simp only; omega, ⟨by ((repeat (refine Hold.cons (by exact rfl) ?_)); exact Hold.nil), by ((repeat (refine Hold.cons (by exact rfl) ?_)); exact Hold.nil)⟩, HeadIs.tkE [⟨0, false, 2, [posM (y, x + 1)]⟩] (by first | exact rfl | simp) rfl (nbHp_cl t _ _) fun u hu => ?_⟩
            exact nbK hu (by exact rfl) (by exact rfl) (by exact rfl) (by exact rfl) (by exact rfl)
      · have g1 : inB ((x : Int) + (2 * ((1 : Nat) : Int) - 1)) 0 ((t.W : Int) - 1) = false := inB_not.2 (by omega)
        cases q
        · repeat (first | apply ef_seq | (apply ef_mv; exact rfl; exact rfl) | (apply ef_bin; exact rfl; exact rfl; exact rfl; (first | exact cmp_t rfl (by first | exact rfl | (simp only [cmpP]; omega)) | ((with_reducible refine bin_add (wrap_of ?_ ?_)) <;> omega) | ((with_reducible refine bin_sub (wrap_of ?_ ?_)) <;> omega))) | (apply ef_gy; exact rfl; (exact (rfl : true = true))) | (apply ef_gn; exact rfl; (exact (rfl : false = false)); exact rfl) | (apply ef_pick; exact rfl; exact rfl; exact rfl) | (apply ef_len; exact rfl; exact rfl; (assumption)) | (apply ef_ldr; exact rfl; exact rfl; (exact rfl)) | (apply ef_ldp; exact rfl; exact rfl; (exact rfl); exact rfl; (exact rfl); (exact rfl)) | (apply ef_ias; exact rfl; exact rfl; exact rfl; (omega); assumption; exact rfl) | (apply ef_fap; exact rfl; exact rfl) | apply ef_nil | apply seqQ.normal | apply blockQ.normal | apply ef_block | apply ef_skip | (apply ef_condt; exact rfl; (exact (rfl : true = true))) | (apply ef_condf; exact rfl; (exact (rfl : false = false))) | (apply ef_call; exact rfl; ((repeat (apply XVs.cons; exact rfl)); exact XVs.nil); (with_reducible first | exact Within_c _ _ _ _ _ (by assumption) | exact hH1 _ | exact hH2 _)))
          refine loopQ.normal _ _ ⟨(1 + 1, L), ⟨by simp only; omega, by rw [HN]; simp [nbA, *], by (try simp only [List.length_append, List.length_cons, List.length_nil] at hLl ⊢); omega⟩, by simp only; omega, ⟨by ((repeat (refine Hold.cons (by exact rfl) ?_)); exact Hold.nil), by ((repeat (refine Hold.cons (by exact rfl) ?_)); exact Hold.nil)⟩, HeadIs.tkE [] (by first | exact rfl | simp) rfl (nbHp_cl t _ _) fun u hu => ?_⟩
          exact nbK hu (by exact rfl) (by exact rfl) (by exact rfl) (by exact rfl) (by exact rfl)
        · by_cases d2 : y + 1 < t.ter.length
          · have g2 : inB ((y : Int) + (2 * ((1 : Nat) : Int) - 1)) 0 ((t.ter.length : Int) - 1) = true := inB_iff.2 (by omega)
            repeat (first | apply ef_seq | (apply ef_mv; exact rfl; exact rfl) | (apply ef_bin; exact rfl; exact rfl; exact rfl; (first | exact cmp_t rfl (by first | exact rfl | (simp only [cmpP]; omega)) | ((with_reducible refine bin_add (wrap_of ?_ ?_)) <;> omega) | ((with_reducible refine bin_sub (wrap_of ?_ ?_)) <;> omega))) | (apply ef_gy; exact rfl; (exact (rfl : true = true))) | (apply ef_pick; exact rfl; exact rfl; exact rfl) | (apply ef_len; exact rfl; exact rfl; (assumption)) | (apply ef_ldr; exact rfl; exact rfl; (exact rfl)) | (apply ef_ldp; exact rfl; exact rfl; (exact rfl); exact rfl; (exact rfl); (exact rfl)) | (apply ef_ias; exact rfl; exact rfl; exact rfl; (omega); assumption; exact rfl) | (apply ef_fap; exact rfl; exact rfl) | (apply ef_build; exact rfl; (repeat (apply XVs.cons; exact rfl)); exact XVs.nil; exact rfl; exact rfl) | (apply ef_bsl; exact rfl; (repeat (apply XVs.cons; exact rfl)); exact XVs.nil; exact rfl) | apply ef_nil | apply seqQ.normal | apply ef_block | apply ef_skip | (apply ef_condt; exact rfl; (exact (rfl : true = true))) | (apply ef_condf; exact rfl; (exact (rfl : false = false))) | (apply ef_call; exact rfl; ((repeat (apply XVs.cons; exact rfl)); exact XVs.nil); (with_reducible first | exact Within_c _ _ _ _ _ (by assumption) | exact hH1 _ | exact hH2 _)))
            (apply ef_nbapp (t := t) (L := L) (p := (y + 1, x)) (G := []); (· exact rfl); (· exact rfl); (· exact rfl); (· (try simp only [List.length_append, List.length_cons, List.length_nil] at hLl ⊢); omega); (· exact show posI (x : Int) ((y : Int) + (2 * ((1 : Nat) : Int) - 1)) = posM (y + 1, x) from by rw [show ((y : Int) + (2 * ((1 : Nat) : Int) - 1)) = (((y + 1, x).1 : Nat) : Int) by simp only; omega]); (· exact fun _ => rfl))
            repeat (first | (apply ef_mv; exact rfl; exact rfl) | (apply ef_bin; exact rfl; exact rfl; exact rfl; (((with_reducible refine bin_add (wrap_of ?_ ?_)) <;> omega))) | apply ef_nil | apply seqQ.normal | apply blockQ.normal)
            refine loopQ.normal _ _ ⟨(1 + 1, (L ++ [(y + 1, x)])), ⟨by simp only; omega, by rw [HN]; simp [nbA, *], by (try simp only [List.length_append, List.length_cons, List.length_nil] at hLl ⊢); omega⟩, by simp only; omega, ⟨by ((repeat (refine Hold.cons (by exact rfl) ?_)); exact Hold.nil), by ((repeat (refine Hold.cons (by exact rfl) ?_)); exact Hold.nil)⟩, HeadIs.tkE [⟨0, false, 2, [posM (y + 1, x)]⟩] (by first | exact rfl | simp) rfl (nbHp_cl t _ _) fun u hu => ?_⟩
            exact nbK hu (by exact rfl) (by exact rfl) (by exact rfl) (by exact rfl) (by exact rfl)
          · have g2 : inB ((y : Int) + (2 * ((1 : Nat) : Int) - 1)) 0 ((t.ter.length : Int) - 1) = false := inB_not.2 (by omega)
            repeat (first | apply ef_seq | (apply ef_mv; exact rfl; exact rfl) | (apply ef_bin; exact rfl; exact rfl; exact rfl; (first | exact cmp_t rfl (by first | exact rfl | (simp only [cmpP]; omega)) | ((with_reducible refine bin_add (wrap_of ?_ ?_)) <;> omega) | ((with_reducible refine bin_sub (wrap_of ?_ ?_)) <;> omega))) | (apply ef_gy; exact rfl; (exact (rfl : true = true))) | (apply ef_pick; exact rfl; exact rfl; exact rfl) | (apply ef_len; exact rfl; exact rfl; (assumption)) | (apply ef_ldr; exact rfl; exact rfl; (exact rfl)) | (apply ef_ldp; exact rfl; exact rfl; (exact rfl); exact rfl; (exact rfl); (exact rfl)) | (apply ef_ias; exact rfl; exact rfl; exact rfl; (omega); assumption; exact rfl) | (apply ef_fap; exact rfl; exact rfl) | apply ef_nil | apply seqQ.normal | apply blockQ.normal | apply ef_block | apply ef_skip | (apply ef_condt; exact rfl; (exact (rfl : true = true))) | (apply ef_condf; exact rfl; (exact (rfl : false = false))) | (apply ef_call; exact rfl; ((repeat (apply XVs.cons; exact rfl)); exact XVs.nil); (with_reducible first | exact Within_c _ _ _ _ _ (by assumption) | exact hH1 _ | exact hH2 _)))
            refine loopQ.normal _ _ ⟨(1 + 1, L), ⟨by simp only; omega, by rw [HN]; simp [nbA, *], by (try simp only [List.length_append, List.length_cons, List.length_nil] at hLl ⊢); omega⟩, by simp only; omega, ⟨by ((repeat (refine Hold.cons (by exact rfl) ?_)); exact Hold.nil), by ((repeat (refine Hold.cons (by exact rfl) ?_)); exact Hold.nil)⟩, HeadIs.tkE [] (by first | exact rfl | simp) rfl (nbHp_cl t _ _) fun u hu => ?_⟩
            exact nbK hu (by exact rfl) (by exact rfl) (by exact rfl) (by exact rfl) (by exact rfl)
  | 2, hi, hL, hLl =>
    have hR : L = nbR t y x := hL
    repeat (first | apply ef_seq | (apply ef_mv; exact rfl; exact rfl) | (apply ef_bin; exact rfl; exact rfl; exact rfl; (exact cmp_f rfl (by simp only [cmpP]; omega))) | apply ef_nil | apply seqQ.normal | apply loopQ.exit | apply ef_ret | apply ef_exit | apply seqQ.exit | apply blockQ.here | (apply ef_condf; exact rfl; (exact (rfl : false = false))))
    rw [← hR]
    (apply fin_arr; (· exact rfl); (· exact rfl); (· exact rfl); (· exact rfl); (· simp); (· (exact ltL_P 0 L)); (· (rw [List.drop_zero, List.take_of_length_le (by simp)])); (· exact rfl); (· exact rfl); (· (exact rfl)))
  | i + 3, hi, hL, hLl => omega
theorem rNeighbours_c (k : Nat) (t : Tk) (ok : OkT t) (hb : Bd t) {y x : Nat} (hy : y < t.ter.length) (hx : x < t.W) (h : MHeap) : orA (k + 2) 119 [encT t, I64 (x : Int), I64 (y : Int)] h = some (.arr h.length 0 (nbR t y x).length 0, h ++ [⟨0, nlN (nbR t y x).length, 2, (nbR t y x).map posM⟩]) := by
  have := callA (k := k + 1) (h := h) (frzL_lt (ms := [encT t, I64 (x : Int), I64 (y : Int)]) (by simp [ltL, MV.lt, ltL_I, ltL_W])) rfl (rNeighbours_z k t ok hb hy hx) rfl (by simp [okH, ltL_P, ltL, MV.lt, ltL_I, ltL_W])
  simpa [shV, sh1] using this
end Go.Proofs.Ytgjpdjihjphbdaa

/- Contracts: lowest surfaces, their excess, crossings. -/
namespace Go.Proofs.Ytgjpdjihjphbdaa
open Go.RowKit
set_option linter.unusedVariables false
theorem open_ok (k : Nat) {t : Tk} (hb : Bd t) (h0 : (taskF id t).2 = 0) (h : MHeap) : orA (k + 7) 113 [encT t] h = some (.tup [encO t, I64 0], h) := by
  have := open_c k t hb h
  unfold openM at this
  rwa [if_pos h0, h0] at this
theorem mf_Lowest : MT.mf 37 = some ⟨16, [(.tmp 2), (.tmp 3)], (.seq (.reg [⟨none, some 1, .box 5 (.s 0)⟩, ⟨none, some 2, .nil0 1⟩, ⟨none, some 3, .mv (.c (.lit (.int .i64 0)))⟩]) (.seq (.reg [⟨none, some 7, .ld (some 5) (.s 1)⟩, ⟨none, some 8, .call 113 [.s 7]⟩, ⟨none, some 6, .mv (.s 8)⟩, ⟨none, some 9, .ext (.s 6) 0⟩, ⟨none, some 10, .ext (.s 6) 1⟩, ⟨none, some 4, .new (.agg [(.lit (.slice none 0 0)), (.lit (.slice none 0 0)), (.lit (.slice none 0 0)), (.lit (.int .i64 0)), (.lit (.int .i64 0)), (.lit (.int .i64 0)), (.lit (.int .i64 0)), (.lit (.slice none 0 0)), (.lit (.slice none 0 0))])⟩, ⟨none, none, .st 9 (.s 4) (.s 9)⟩, ⟨none, some 5, .mv (.s 10)⟩]) (.seq (.seq (.reg [⟨none, some 11, .mv (.s 5)⟩, ⟨none, some 12, .bin .neq (.s 11) (.c (.lit (.int .i64 0)))⟩]) (.cond (.s 12) (.seq (.reg [⟨none, some 13, .mv (.s 5)⟩, ⟨none, some 2, .nil0 1⟩, ⟨none, some 3, .mv (.s 13)⟩]) .ret) .skip)) (.seq (.reg [⟨none, some 14, .ld (some 9) (.s 4)⟩, ⟨none, some 15, .call 115 [.s 14]⟩, ⟨none, some 2, .mv (.s 15)⟩, ⟨none, some 3, .mv (.c (.lit (.int .i64 0)))⟩]) .ret))))⟩ := by kernel_rfl
theorem Lowest_ok (k : Nat) {t : Tk} (hb : Bd t) (h0 : (taskF id t).2 = 0) {g : List (List Int)} (hg : Lea t g) (h : MHeap) : orA (k + 8) 37 [encT t] h = some (.tup [.arr h.length 0 t.ter.length 0, I64 0], h ++ [⟨0, false, 1, g.map encW⟩]) := by
  have ok := (task_ok h0).1
  have hz : runZ MT (orA (k + 7)) (itA (k + 7)) 4000000 37 [encT t] [] = some (.tup [.arr 0 0 t.ter.length 0, I64 0], [⟨0, false, 1, g.map encW⟩]) := by
    have ho := fun h => open_ok k hb h0 h
    have hl := fun h => lowest_c (k + 2) t ok hg h
    refine runZ_of mf_Lowest (by simp) ?_
    simp only [argsL]
    repeat (first | apply ef_seq | (apply ef_mv; exact rfl; exact rfl) | (apply ef_bin; exact rfl; exact rfl; exact rfl; (exact cmp_f rfl (by simp only [cmpP]; omega))) | (apply ef_ldp; exact rfl; exact rfl; (exact rfl); exact rfl; (exact rfl); (first | exact rd_5 rfl rfl rfl rfl rfl | exact rd_whole rfl)) | (apply ef_ext; exact rfl; exact rfl; exact rfl) | (apply ef_box; exact rfl; exact rfl; exact rfl; exact rfl) | (apply ef_newst; exact rfl; exact rfl; exact rfl; exact rfl; exact rfl) | (apply ef_nil0; exact rfl) | apply ef_nil | apply seqQ.normal | apply ef_ret | apply ef_skip | (apply ef_condf; exact rfl; (exact (rfl : false = false))) | (apply ef_call; exact rfl; ((repeat (apply XVs.cons; exact rfl)); exact XVs.nil); (with_reducible first | exact ho _ | exact hl _)))
    (apply fin_al; (· exact rfl); (· exact rfl); (· exact rfl); (· exact rfl); (· exact rfl); (· rw [List.length_map]; exact hg.1.sh.hl.symm); (· exact ltL_W 0 g); (· exact rfl); (· exact rfl); (· exact rfl))
  have := callA (k := k + 7) (h := h) (frzL_lt (ms := [encT t]) (by simp [ltL, encT_lt])) rfl hz (by simp [okV, ok1, MV.lt, MV.pure]) (by simp [okH, ltL_W, ltL, MV.lt, ltL_I])
  simpa [shV, sh1] using this
theorem Lea.pre {t : Tk} {s : List (List Int)} (h : Lea t s) : Pre t s := ⟨h.1.sh, h.1.ze, h.1.ab, h.2⟩
end Go.Proofs.Ytgjpdjihjphbdaa

/- Contracts: crossings; lists of nodes in a cell. -/
namespace Go.Proofs.Ytgjpdjihjphbdaa
open Go.RowKit
set_option linter.unusedVariables false
inductive LiM (m0 : Nat) (h : MHeap) : MV → List (Nat × Nat) → Prop
  | nil : LiM m0 h (.lit (.slice none 0 0)) []
  | arr (id gen : Nat) (Q : List (Nat × Nat)) : h[id]? = some ⟨gen, false, 2, Q.map posM⟩ → m0 ≤ id → LiM m0 h (.arr id 0 Q.length gen) Q
theorem LiM.app {m0 : Nat} {h : MHeap} {v : MV} {Q : List (Nat × Nat)} (q : LiM m0 h v Q) (X : MHeap) : LiM m0 (h ++ X) v Q := by
  cases q with
  | nil => exact .nil
  | arr id gen Q h1 h2 => exact .arr id gen Q (at_app h1 X) h2
theorem LiM.cell {m0 : Nat} {h : MHeap} {v : MV} {Q : List (Nat × Nat)} (q : LiM m0 h v Q) : rdCells v.cells 0 none = some v := by
  cases q <;> rfl
section
variable {O : Oracle} {I : Iter} {M n : Nat} {lk : Nat → Bool} {A : Sl} {h : MHeap} {Qc : MX2 → Sl → MHeap → Prop}
end
end Go.Proofs.Ytgjpdjihjphbdaa

/- Crossings in both orders (no program). -/
namespace Go.Proofs.Ytgjpdjihjphbdaa
open Go.RowKit
set_option linter.unusedVariables false
def Tk.cr (t : Tk) (p : Nat × Nat) : Bool := t.rows.contains (p.1 : Int) && t.ties.contains (p.2 : Int)
end Go.Proofs.Ytgjpdjihjphbdaa

/- Contracts: crossings, comparisons, limits. -/
namespace Go.Proofs.Ytgjpdjihjphbdaa
open Go.RowKit
set_option linter.unusedVariables false
structure CrM (t : Tk) (qv : MV) (Q : List (Nat × Nat)) (h : MHeap) : Prop where
  b0 : h[0]? = some ⟨0, false, 5, [encT t]⟩
  b1 : h[1]? = some ⟨0, true, 2, []⟩
  b2 : h[2]? = some ⟨0, false, 9, [encO t]⟩
  b3 : h[3]? = some ⟨0, false, 1, [qv]⟩
  li : LiM 4 h qv Q
  e0 : Q = [] → qv = .lit (.slice none 0 0)
  e1 : Q ≠ [] → qv.lt 4 = false
theorem LiM.take {m0 : Nat} {h : MHeap} {v : MV} (q : LiM m0 h v []) (e : v = .lit (.slice none 0 0)) (n : Nat) : LiM m0 (h.take n) v [] := by
  subst e; exact .nil
theorem CrM.len {t : Tk} {qv : MV} {Q : List (Nat × Nat)} {h : MHeap} (m : CrM t qv Q h) : 4 ≤ h.length := by
  have := (List.getElem?_eq_some_iff.1 m.b3).1; omega
theorem CrM.cl {t : Tk} {qv : MV} {h : MHeap} (m : CrM t qv [] h) : Cl 4 h := by
  refine ⟨m.len, fun j o hj ho => ?_⟩
  have hq := m.e0 rfl
  match j, hj with
  | 0, _ => rw [m.b0] at ho; cases ho; simp [ltL, MV.lt, ltL_I, ltL_W]
  | 1, _ => rw [m.b1] at ho; cases ho; rfl
  | 2, _ => rw [m.b2] at ho; cases ho; simp [ltL, MV.lt, ltL_I, ltL_W, ltL_B]
  | 3, _ => rw [m.b3] at ho; cases ho; subst hq; rfl
theorem CrM.head {t : Tk} {qv : MV} {Q : List (Nat × Nat)} {h : MHeap} (m : CrM t qv Q h) : CrM t qv Q (if Q = [] then h.take 4 else h) := by
  split
  · rename_i e
    subst e
    have ht : ∀ {j : Nat} {o : MObj}, j < 4 → h[j]? = some o → (h.take 4)[j]? = some o := fun hj ho => by rw [List.getElem?_take, if_pos hj]; exact ho
    exact ⟨ht (by decide) m.b0, ht (by decide) m.b1, ht (by decide) m.b2, ht (by decide) m.b3, m.li.take (m.e0 rfl) 4, m.e0, m.e1⟩
  · exact m
def fewT (t : Tk) : Bool := decide (t.ter.length ≤ 14) && decide (t.rows.length ≤ 14) && decide (t.ties.length ≤ 14) && t.ter.all fun r => decide (r.length ≤ 14)
theorem fewT_bd {t : Tk} (h : fewT t = true) : Bd t ∧ t.ter.length ≤ 14 ∧ t.rows.length ≤ 14 ∧ t.ties.length ≤ 14 := by
  simp only [fewT, Bool.and_eq_true, decide_eq_true_eq, List.all_eq_true] at h
  obtain ⟨⟨⟨h1, h2⟩, h3⟩, h4⟩ := h
  exact ⟨⟨by omega, by omega, by omega, fun r hr => by have := h4 r hr; omega⟩, h1, h2, h3⟩
theorem mf_Few : MT.mf 33 = some ⟨34, [(.tmp 2)], (.seq (.reg [⟨none, some 1, .box 5 (.s 0)⟩, ⟨none, some 2, .mv (.c (.lit (.bool false)))⟩]) (.seq (.seq (.reg [⟨none, some 4, .fa 0 (.s 1)⟩, ⟨none, some 5, .ld none (.s 4)⟩, ⟨none, some 6, .len (.s 5)⟩, ⟨none, some 7, .bin .gtr (.s 6) (.c (.lit (.int .i64 14)))⟩, ⟨none, some 8, .mv (.s 7)⟩, ⟨some (8, false), some 9, .fa 1 (.s 1)⟩, ⟨some (8, false), some 10, .ld none (.s 9)⟩, ⟨some (8, false), some 11, .len (.s 10)⟩, ⟨some (8, false), some 12, .bin .gtr (.s 11) (.c (.lit (.int .i64 14)))⟩, ⟨none, some 13, .pick (.s 8) (.c (.lit (.bool true))) (.s 12)⟩, ⟨none, some 14, .mv (.s 13)⟩, ⟨some (14, false), some 15, .fa 2 (.s 1)⟩, ⟨some (14, false), some 16, .ld none (.s 15)⟩, ⟨some (14, false), some 17, .len (.s 16)⟩, ⟨some (14, false), some 18, .bin .gtr (.s 17) (.c (.lit (.int .i64 14)))⟩, ⟨none, some 19, .pick (.s 14) (.c (.lit (.bool true))) (.s 18)⟩]) (.cond (.s 19) (.seq (.reg [⟨none, some 2, .mv (.c (.lit (.bool false)))⟩]) .ret) .skip)) (.seq (.seq (.reg [⟨none, some 3, .mv (.c (.lit (.int .i64 0)))⟩]) (.block 0 (.loop [3, 1] (.seq (.seq (.reg [⟨none, some 20, .mv (.s 3)⟩, ⟨none, some 21, .fa 0 (.s 1)⟩, ⟨none, some 22, .ld none (.s 21)⟩, ⟨none, some 23, .len (.s 22)⟩, ⟨none, some 24, .bin .lss (.s 20) (.s 23)⟩]) (.cond (.s 24) .skip (.exit 0))) (.seq (.block 1 (.seq (.reg [⟨none, some 27, .fa 0 (.s 1)⟩, ⟨none, some 28, .ld none (.s 27)⟩, ⟨none, some 29, .mv (.s 3)⟩, ⟨none, some 30, .ia 1 (.s 28) (.s 29)⟩, ⟨none, some 31, .ld none (.s 30)⟩, ⟨none, some 32, .len (.s 31)⟩, ⟨none, some 33, .bin .gtr (.s 32) (.c (.lit (.int .i64 14)))⟩]) (.cond (.s 33) (.seq (.reg [⟨none, some 2, .mv (.c (.lit (.bool false)))⟩]) .ret) .skip))) (.reg [⟨none, some 25, .mv (.s 3)⟩, ⟨none, some 26, .bin .add (.s 25) (.c (.lit (.int .i64 1)))⟩, ⟨none, some 3, .mv (.s 26)⟩])))))) (.seq (.reg [⟨none, some 2, .mv (.c (.lit (.bool true)))⟩]) .ret))))⟩ := by kernel_rfl
theorem Few_c (k : Nat) (t : Tk) (m1 : t.ter.length ≤ 9223372036854775807) (m2 : t.rows.length ≤ 9223372036854775807) (m3 : t.ties.length ≤ 9223372036854775807) (m4 : ∀ r ∈ t.ter, r.length ≤ 9223372036854775807) (h : MHeap) {b : Bool} (hf : fewT t = b) : orA (k + 1) 33 [encT t] h = some (Bo b, h) := by
  refine callL (args' := [encT t]) (frzL_lt (by simp [ltL, MV.lt, ltL_I, ltL_W])) rfl (runZ_of mf_Few (by simp) ?_)
  simp only [argsL]
  have hs1 : (MV.sl (t.ter.map encW)).slen = some t.ter.length := by simp [MV.slen]
  have hs2 : (MV.sl (t.rows.map I64)).slen = some t.rows.length := by simp [MV.slen]
  have hs3 : (MV.sl (t.ties.map I64)).slen = some t.ties.length := by simp [MV.slen]
  unfold fewT at hf
  by_cases q1 : t.ter.length ≤ 14
  · by_cases q2 : t.rows.length ≤ 14
    · by_cases q3 : t.ties.length ≤ 14
      · simp only [q1, q2, q3, decide_true, Bool.true_and] at hf
        repeat (first | apply ef_seq | (apply ef_mv; exact rfl; exact rfl) | (apply ef_bin; exact rfl; exact rfl; exact rfl; (exact cmp_f rfl (by simp only [cmpP]; omega))) | (apply ef_gy; exact rfl; (exact (rfl : false = false))) | (apply ef_pick; exact rfl; exact rfl; exact rfl) | (apply ef_len; exact rfl; exact rfl; (assumption)) | (apply ef_ldp; exact rfl; exact rfl; (exact rfl); exact rfl; (exact rfl); (exact rfl)) | (apply ef_fap; exact rfl; exact rfl) | (apply ef_box; exact rfl; exact rfl; exact rfl; exact rfl) | apply ef_nil | apply seqQ.normal | apply ef_block | apply ef_skip | (apply ef_condf; exact rfl; (exact (rfl : false = false))))
        refine ef_loopf (α := Nat) (fun i => i ≤ t.ter.length ∧ (t.ter.all fun r => decide (r.length ≤ 14)) = ((t.ter.drop i).all fun r => decide (r.length ≤ 14))) (fun i => [(3, I64 (i : Int))]) [(1, _)] (fun _ => _) (fun i => t.ter.length - i) 0 [3] (fun _ => rfl) (by ((repeat (refine Hold.cons (by exact rfl) ?_)); exact Hold.nil)) (by ((repeat (refine Hold.cons (by exact rfl) ?_)); exact Hold.nil)) rfl rfl ⟨by simp, rfl⟩ (by simp; omega) ?_
        rintro i ⟨hi, hz⟩
        try simp only at hi hz ⊢
        by_cases hlt : i < t.ter.length
        · have e1 := at_map encW t.ter i hlt
          have HD := Lib.hid (drop_at t.ter i hlt)
          have HZ := Lib.hid hz
          have hrl := m4 _ (List.getElem_mem hlt)
          clear hz
          generalize t.ter[i] = r at e1 HD hrl
          have hsr : (encW r).slen = some r.length := by simp [MV.slen]
          by_cases q4 : r.length ≤ 14
          · repeat (first | apply ef_seq | (apply ef_mv; exact rfl; exact rfl) | (apply ef_bin; exact rfl; exact rfl; exact rfl; (first | exact cmp_t rfl (by first | exact rfl | (simp only [cmpP]; omega)) | exact cmp_f rfl (by simp only [cmpP]; omega) | ((with_reducible refine bin_add (wrap_of ?_ ?_)) <;> omega))) | (apply ef_len; exact rfl; exact rfl; (assumption)) | (apply ef_ldr; exact rfl; exact rfl; (exact rfl)) | (apply ef_ldp; exact rfl; exact rfl; (exact rfl); exact rfl; (exact rfl); (exact rfl)) | (apply ef_ias; exact rfl; exact rfl; exact rfl; (omega); assumption; exact rfl) | (apply ef_fap; exact rfl; exact rfl) | apply ef_nil | apply seqQ.normal | apply blockQ.normal | apply ef_block | apply ef_skip | (apply ef_condt; exact rfl; (exact (rfl : true = true))) | (apply ef_condf; exact rfl; (exact (rfl : false = false))))
            (refine loopQ.normal _ _ ⟨i + 1, ⟨hlt, by rw [HZ.out, HD.out]; simp [q4]⟩, (by first | (simp only; omega) | omega), ⟨by ((repeat (refine Hold.cons (by exact rfl) ?_)); exact Hold.nil), by ((repeat (refine Hold.cons (by exact rfl) ?_)); exact Hold.nil)⟩, .inl (Nat.le_refl _), (by first | exact List.take_length | exact rfl | exact takeF rfl rfl)⟩)
          · repeat (first | apply ef_seq | (apply ef_mv; exact rfl; exact rfl) | (apply ef_bin; exact rfl; exact rfl; exact rfl; (exact cmp_t rfl (by first | exact rfl | (simp only [cmpP]; omega)))) | (apply ef_len; exact rfl; exact rfl; (assumption)) | (apply ef_ldr; exact rfl; exact rfl; (exact rfl)) | (apply ef_ldp; exact rfl; exact rfl; (exact rfl); exact rfl; (exact rfl); (exact rfl)) | (apply ef_ias; exact rfl; exact rfl; exact rfl; (omega); assumption; exact rfl) | (apply ef_fap; exact rfl; exact rfl) | apply ef_nil | apply seqQ.normal | apply loopQ.ret | apply ef_ret | apply seqQ.ret | apply blockQ.ret | apply ef_block | apply ef_skip | (apply ef_condt; exact rfl; (exact (rfl : true = true))))
            (refine fin1 rfl (by exact rfl) rfl ?_)
            rw [← hf, HZ.out, HD.out]; simp [q4]
        · repeat (first | apply ef_seq | (apply ef_mv; exact rfl; exact rfl) | (apply ef_bin; exact rfl; exact rfl; exact rfl; (exact cmp_f rfl (by simp only [cmpP]; omega))) | (apply ef_len; exact rfl; exact rfl; (assumption)) | (apply ef_ldp; exact rfl; exact rfl; (exact rfl); exact rfl; (exact rfl); (exact rfl)) | (apply ef_fap; exact rfl; exact rfl) | apply ef_nil | apply seqQ.normal | apply loopQ.exit | apply ef_ret | apply ef_exit | apply seqQ.exit | apply blockQ.here | (apply ef_condf; exact rfl; (exact (rfl : false = false))))
          (refine fin1 rfl (by exact rfl) rfl ?_)
          rw [← hf, hz, List.drop_eq_nil_of_le (by omega)]; rfl
      · simp only [q1, q2, q3, decide_true, decide_false, Bool.true_and, Bool.false_and] at hf
        repeat (first | apply ef_seq | (apply ef_mv; exact rfl; exact rfl) | (apply ef_bin; exact rfl; exact rfl; exact rfl; (first | exact cmp_t rfl (by first | exact rfl | (simp only [cmpP]; omega)) | exact cmp_f rfl (by simp only [cmpP]; omega))) | (apply ef_gy; exact rfl; (exact (rfl : false = false))) | (apply ef_pick; exact rfl; exact rfl; exact rfl) | (apply ef_len; exact rfl; exact rfl; (assumption)) | (apply ef_ldp; exact rfl; exact rfl; (exact rfl); exact rfl; (exact rfl); (exact rfl)) | (apply ef_fap; exact rfl; exact rfl) | (apply ef_box; exact rfl; exact rfl; exact rfl; exact rfl) | apply ef_nil | apply seqQ.normal | apply ef_ret | apply seqQ.ret | (apply ef_condt; exact rfl; (exact (rfl : true = true))))
        (refine fin1 rfl (by exact rfl) rfl ?_)
        rw [← hf]
    · simp only [q1, q2, decide_true, decide_false, Bool.true_and, Bool.false_and] at hf
      repeat (first | apply ef_seq | (apply ef_mv; exact rfl; exact rfl) | (apply ef_bin; exact rfl; exact rfl; exact rfl; (first | exact cmp_t rfl (by first | exact rfl | (simp only [cmpP]; omega)) | exact cmp_f rfl (by simp only [cmpP]; omega))) | (apply ef_gy; exact rfl; (exact (rfl : false = false))) | (apply ef_gn; exact rfl; (exact (rfl : true = true)); exact rfl) | (apply ef_pick; exact rfl; exact rfl; exact rfl) | (apply ef_len; exact rfl; exact rfl; (assumption)) | (apply ef_ldp; exact rfl; exact rfl; (exact rfl); exact rfl; (exact rfl); (exact rfl)) | (apply ef_fap; exact rfl; exact rfl) | (apply ef_box; exact rfl; exact rfl; exact rfl; exact rfl) | apply ef_nil | apply seqQ.normal | apply ef_ret | apply seqQ.ret | (apply ef_condt; exact rfl; (exact (rfl : true = true))))
      (refine fin1 rfl (by exact rfl) rfl ?_)
      rw [← hf]
  · simp only [q1, decide_false, Bool.false_and] at hf
    repeat (first | apply ef_seq | (apply ef_mv; exact rfl; exact rfl) | (apply ef_bin; exact rfl; exact rfl; exact rfl; (exact cmp_t rfl (by first | exact rfl | (simp only [cmpP]; omega)))) | (apply ef_gn; exact rfl; (exact (rfl : true = true)); exact rfl) | (apply ef_pick; exact rfl; exact rfl; exact rfl) | (apply ef_len; exact rfl; exact rfl; (assumption)) | (apply ef_ldp; exact rfl; exact rfl; (exact rfl); exact rfl; (exact rfl); (exact rfl)) | (apply ef_fap; exact rfl; exact rfl) | (apply ef_box; exact rfl; exact rfl; exact rfl; exact rfl) | apply ef_nil | apply seqQ.normal | apply ef_ret | apply seqQ.ret | (apply ef_condt; exact rfl; (exact (rfl : true = true))))
    (refine fin1 rfl (by exact rfl) rfl ?_)
    rw [← hf]
theorem mf_TaskErr : MT.mf 46 = some ⟨11, [(.tmp 2)], (.seq (.reg [⟨none, some 1, .box 5 (.s 0)⟩, ⟨none, some 2, .mv (.c (.lit (.int .i64 0)))⟩]) (.seq (.reg [⟨none, some 6, .ld (some 5) (.s 1)⟩, ⟨none, some 7, .call 39 [.s 6]⟩, ⟨none, some 5, .mv (.s 7)⟩, ⟨none, some 8, .ext (.s 5) 0⟩, ⟨none, some 9, .ext (.s 5) 1⟩, ⟨none, some 3, .mv (.s 8)⟩, ⟨none, some 4, .mv (.s 9)⟩]) (.seq (.reg [⟨none, some 10, .mv (.s 4)⟩, ⟨none, some 2, .mv (.s 10)⟩]) .ret)))⟩ := by kernel_rfl
theorem TaskErr_c (k : Nat) (t : Tk) (hb : Bd t) (h : MHeap) : orA (k + 4) 46 [encT t] h = some (I64 (taskF (fun _ => 0) t).2, h) := by
  refine callL (args' := [encT t]) (frzL_lt (by simp [ltL, MV.lt, ltL_I, ltL_W])) rfl (runZ_of mf_TaskErr (by simp) ?_)
  simp only [argsL]
  have hc := fun h => rCheckTask_c k t hb h
  generalize taskF (fun _ => 0) t = p at hc
  obtain ⟨a, b⟩ := p
  repeat (first | apply ef_seq | (apply ef_mv; exact rfl; exact rfl) | (apply ef_ldp; exact rfl; exact rfl; (exact rfl); exact rfl; (exact rfl); (exact rd_5 rfl rfl rfl rfl rfl)) | (apply ef_ext; exact rfl; exact rfl; exact rfl) | (apply ef_box; exact rfl; exact rfl; exact rfl; exact rfl) | apply ef_nil | apply seqQ.normal | apply ef_ret | (apply ef_call; exact rfl; ((repeat (apply XVs.cons; exact rfl)); exact XVs.nil); (with_reducible exact hc _)))
  (refine fin1 rfl (by exact rfl) rfl ?_)
  rfl
end Go.Proofs.Ytgjpdjihjphbdaa

/- The contract of the reference's lowest surface. -/
namespace Go.Proofs.Ytgjpdjihjphbdaa
open Go.RowKit
set_option linter.unusedVariables false
structure RlM (t : Tk) (g : List (List Int)) (h : MHeap) : Prop where
  b0 : h[0]? = some ⟨0, false, 5, [encT t]⟩
  sf : Srf 2 t.ter.length t.W t.ter.length (fun y => 3 + 2 * y) g h
  len : h.length = 3 + 2 * t.ter.length
  fu : Full h
theorem RlM.cl {t : Tk} {g : List (List Int)} {h : MHeap} (m : RlM t g h) : Cl (3 + 2 * t.ter.length) h := by
  have := m.fu
  unfold Full at this
  rwa [m.len] at this
theorem RlM.put {t : Tk} {g : List (List Int)} {h : MHeap} (m : RlM t g h) {y x : Nat} {v : Int} (hy : y < t.ter.length) : RlM t (set2 g y x v) (h.set (3 + 2 * y) ⟨0, false, 1, ((g.getD y []).map I64).set x (I64 v)⟩) := by
  have hl : ∀ n, ltL n (((g.getD y []).map I64).set x (I64 v)) = true := fun n => by
    rw [show ((g.getD y []).map I64).set x (I64 v) = ((g.getD y []).set x v).map I64 by rw [List.map_set]]; exact ltL_I n _
  exact ⟨by rw [List.getElem?_set_ne (by omega)]; exact m.b0, m.sf.put hy, by rw [List.length_set]; exact m.len, m.fu.set (hl _)⟩
theorem RlM.cut {t : Tk} {g : List (List Int)} {h X : MHeap} (m : RlM t g h) : (h ++ X).take (3 + 2 * t.ter.length) = h := List.take_left' m.len
theorem nbR_len (t : Tk) (y x : Nat) : (nbR t y x).length ≤ 4 := by
  unfold nbR nbA
  simp only [List.length_append]
  repeat' split
  all_goals simp
end Go.Proofs.Ytgjpdjihjphbdaa

/- Distances, forces: plain laws (no program). -/
namespace Go.Proofs.Ytgjpdjihjphbdaa
set_option linter.unusedVariables false
abbrev Nd := Nat × Nat
def Tk.NbP (t : Tk) (p q : Nd) : Prop := t.Nb p.1 p.2 q.1 q.2
def Tk.inP (t : Tk) (p : Nd) : Prop := p.1 < t.H ∧ p.2 < t.W ∧ t.fl p.1 p.2 = true
theorem Tk.NbP.inP {t : Tk} {p q : Nd} (h : t.NbP p q) : t.inP q := ⟨h.1, h.2.1, h.fl⟩
theorem Tk.NbP.symm {t : Tk} {p q : Nd} (hp : t.inP p) (h : t.NbP p q) : t.NbP q p := Tk.Nb.symm hp.1 hp.2.1 h
structure Dst (t : Tk) (s : Nd) (f : Nd → Option Nat) : Prop where
  src : f s = some 0
  rng : ∀ p k, f p = some k → t.inP p
  zero : ∀ p, f p = some 0 → p = s
  par : ∀ p k, f p = some (k + 1) → ∃ q, f q = some k ∧ t.NbP q p
  cls : ∀ p k q, f p = some k → t.NbP p q → ∃ j, f q = some j ∧ j ≤ k + 1
theorem Dst.le {t : Tk} {s : Nd} {f g : Nd → Option Nat} (hf : Dst t s f) (hg : Dst t s g) : ∀ k p, f p = some k → ∃ j, g p = some j ∧ j ≤ k
  | 0, p, h => by
    have := hf.zero p h
    subst this
    exact ⟨0, hg.src, Nat.le_refl _⟩
  | k + 1, p, h => by
    obtain ⟨q, h1, h2⟩ := hf.par p k h
    obtain ⟨j, h3, h4⟩ := hf.le hg k q h1
    obtain ⟨i, h5, h6⟩ := hg.cls q j p h3 h2
    exact ⟨i, h5, by omega⟩
theorem Dst.uniq {t : Tk} {s : Nd} {f g : Nd → Option Nat} (hf : Dst t s f) (hg : Dst t s g) (p : Nd) : f p = g p := by
  cases h1 : f p with
  | none =>
    cases h2 : g p with
    | none => rfl
    | some j =>
      obtain ⟨i, h3, _⟩ := hg.le hf j p h2
      rw [h1] at h3; cases h3
  | some k =>
    obtain ⟨j, h2, h3⟩ := hf.le hg k p h1
    obtain ⟨i, h4, h5⟩ := hg.le hf j p h2
    rw [h1] at h4
    cases h4
    rw [h2]
    congr 1; omega
def Tk.needP (t : Tk) (p : Nd) : Int := t.need p.1 p.2
def atP (g : List (List Int)) (p : Nd) : Int := at2 g p.1 p.2
theorem Dst.ask {t : Tk} {s : Nd} {f : Nd → Option Nat} {L : List (List Int)} (hf : Dst t s f) (hL : Lea t L) : ∀ k p, f p = some k → atP L p - t.cb * (k : Int) ≤ atP L s
  | 0, p, h => by
    have := hf.zero p h
    subst this
    simp
  | k + 1, p, h => by
    obtain ⟨q, h1, h2⟩ := hf.par p k h
    have h3 := hf.ask hL k q h1
    have hq := hf.rng q k h1
    have h4 := hf.rng p (k + 1) h
    have h5 := hL.1.st p.1 p.2 q.1 q.2 h4.1 h4.2.1 h4.2.2 (h2.symm hq)
    unfold atP at *
    rw [Int.natCast_add, Int.natCast_one, Int.mul_add, Int.mul_one]
    omega
theorem Dst.most {t : Tk} {s : Nd} {f : Nd → Option Nat} {L : List (List Int)} (hf : Dst t s f) (hL : Lea t L) {k : Nat} {p : Nd} (h : f p = some k) : t.needP p - t.cb * (k : Int) ≤ atP L s := by
  have h1 := hf.ask hL k p h
  have h2 := hf.rng p k h
  have h3 := hL.1.ab p.1 p.2 h2.1 h2.2.1 h2.2.2
  unfold Tk.needP atP at *
  omega
theorem Dst.force {t : Tk} {s : Nd} {f : Nd → Option Nat} {L : List (List Int)} (hf : Dst t s f) (hL : Lea t L) (hc : 0 ≤ t.cb) : ∃ p k, f p = some k ∧ t.needP p - t.cb * (k : Int) = atP L s := by
  apply Classical.byContradiction
  intro hno
  have hlt : ∀ p k, f p = some k → t.needP p - t.cb * (k : Int) < atP L s := fun p k h => by
    have h1 := hf.most hL h
    have h2 : t.needP p - t.cb * (k : Int) ≠ atP L s := fun e => hno ⟨p, k, h, e⟩
    omega
  obtain ⟨T, hT⟩ : ∃ T : List (List Int), T = (List.range t.H).map fun y => (List.range t.W).map fun x => match f (y, x) with | some k => min (at2 L y x) (atP L s - 1 + t.cb * (k : Int)) | none => at2 L y x := ⟨_, rfl⟩
  have hat : ∀ y x, y < t.H → x < t.W → at2 T y x = match f (y, x) with | some k => min (at2 L y x) (atP L s - 1 + t.cb * (k : Int)) | none => at2 L y x := fun y x hy hx => by
    rw [hT, at2_get (by simp; exact hy) (by simp; exact hx)]
    simp
  have hs := hf.rng s 0 hf.src
  have hV : Val t T := by
    refine ⟨⟨by rw [hT]; simp, fun y h => by subst hT; simp⟩, fun y x hy hx hfl => ?_, fun y x hy hx hfl => ?_, fun y x y' x' hy hx hfl hn => ?_⟩
    · rw [hat y x hy hx]
      cases h : f (y, x) with
      | none => exact hL.1.ze y x hy hx hfl
      | some k =>
        have := (hf.rng _ _ h).2.2
        rw [hfl] at this; cases this
    · rw [hat y x hy hx]
      have h1 := hL.1.ab y x hy hx hfl
      cases h : f (y, x) with
      | none => exact h1
      | some k =>
        have := hlt _ _ h
        simp only [Tk.needP] at this
        simp only
        omega
    · rw [hat y x hy hx, hat y' x' hn.1 hn.2.1]
      have h1 := hL.1.st y x y' x' hy hx hfl hn
      have hin : t.inP (y, x) := ⟨hy, hx, hfl⟩
      have hn' : t.NbP (y, x) (y', x') := hn
      cases h : f (y, x) with
      | none =>
        cases h2 : f (y', x') with
        | none => exact h1
        | some k' =>
          obtain ⟨j, h3, _⟩ := hf.cls _ _ _ h2 (hn'.symm hin)
          rw [h] at h3; cases h3
      | some k =>
        obtain ⟨k', h2, _⟩ := hf.cls _ _ _ h hn'
        rw [h2]
        obtain ⟨j, h3, h4⟩ := hf.cls _ _ _ h2 (hn'.symm hin)
        rw [h] at h3
        cases h3
        simp only
        have h5 : t.cb * (k : Int) ≤ t.cb * ((k' : Int) + 1) := Int.mul_le_mul_of_nonneg_left (by omega) hc
        rw [Int.mul_add, Int.mul_one] at h5
        omega
  have h1 := hL.2 T hV s.1 s.2 hs.1 hs.2.1
  rw [hat s.1 s.2 hs.1 hs.2.1, hf.src] at h1
  simp only [Int.natCast_zero, Int.mul_zero] at h1
  unfold atP at h1
  omega
structure BfI (t : Tk) (s : Nd) (f : Nd → Option Nat) (Q : List Nd) (cur : Option Nd) : Prop where
  src : f s = some 0
  rng : ∀ p k, f p = some k → t.inP p
  zero : ∀ p, f p = some 0 → p = s
  par : ∀ p k, f p = some (k + 1) → ∃ q, f q = some k ∧ t.NbP q p
  mem : ∀ p ∈ Q, ∃ k, f p = some k
  sat : ∀ p k, f p = some k → p ∉ Q → cur ≠ some p → ∀ q, t.NbP p q → ∃ j, f q = some j ∧ j ≤ k + 1
  top : ∀ q ∈ Q, ∀ p k j, f p = some k → f q = some j → k ≤ j + 1
  srt : Q.Pairwise fun a b => ∀ i j, f a = some i → f b = some j → i ≤ j
  cu : ∀ n, cur = some n → ∃ k0, f n = some k0 ∧ (∀ p k, f p = some k → k ≤ k0 + 1) ∧ ∀ q ∈ Q, ∀ j, f q = some j → k0 ≤ j
def fSet (f : Nd → Option Nat) (p : Nd) (k : Nat) : Nd → Option Nat := fun q => if q = p then some k else f q
theorem BfI.start {t : Tk} {s : Nd} (hs : t.inP s) : BfI t s (fSet (fun _ => none) s 0) [s] none := by
  have h1 : ∀ p k, fSet (fun _ => none) s 0 p = some k → p = s ∧ k = 0 := fun p k h => by
    unfold fSet at h
    split at h
    · cases h; exact ⟨by assumption, rfl⟩
    · cases h
  refine ⟨by simp [fSet], fun p k h => by rw [(h1 p k h).1]; exact hs, fun p h => (h1 p 0 h).1, fun p k h => by have := (h1 p _ h).2; omega, fun p hp => ?_, fun p k h hq => ?_, fun q hq p k j h1' h2' => ?_, by simp, fun n h => by cases h⟩
  · obtain rfl : p = s := by simpa using hp
    exact ⟨0, by simp [fSet]⟩
  · exact absurd (by rw [(h1 p k h).1]; simp) hq
  · have := (h1 p k h1').2; omega
theorem BfI.pop {t : Tk} {s n : Nd} {f : Nd → Option Nat} {Q : List Nd} (h : BfI t s f (n :: Q) none) : BfI t s f Q (some n) := by
  refine ⟨h.src, h.rng, h.zero, h.par, fun p hp => h.mem p (List.mem_cons_of_mem _ hp), fun p k hp hq hc => h.sat p k hp (fun hm => ?_) (fun e => by cases e), fun q hq => h.top q (List.mem_cons_of_mem _ hq), (List.pairwise_cons.1 h.srt).2, fun m e => ?_⟩
  · rcases List.mem_cons.1 hm with e | e
    · exact hc (by rw [e])
    · exact hq e
  · cases e
    obtain ⟨k0, hk⟩ := h.mem n List.mem_cons_self
    exact ⟨k0, hk, fun p k hp => h.top n List.mem_cons_self p k k0 hp hk, fun q hq j hj => (List.pairwise_cons.1 h.srt).1 q hq k0 j hk hj⟩
theorem BfI.close {t : Tk} {s n : Nd} {f : Nd → Option Nat} {Q : List Nd} (h : BfI t s f Q (some n)) (hs : ∀ q, t.NbP n q → ∃ j, f q = some j) : BfI t s f Q none := by
  obtain ⟨k0, hk, hl, hq⟩ := h.cu n rfl
  refine ⟨h.src, h.rng, h.zero, h.par, h.mem, fun p k hp hq _ q hn => ?_, h.top, h.srt, fun m e => by cases e⟩
  by_cases e : p = n
  · subst e
    rw [hk] at hp
    cases hp
    obtain ⟨j, hj⟩ := hs q hn
    exact ⟨j, hj, hl q j hj⟩
  · exact h.sat p k hp hq (fun e' => e (by cases e'; rfl)) q hn
theorem BfI.more {t : Tk} {s n m : Nd} {f : Nd → Option Nat} {Q : List Nd} {k0 : Nat} (h : BfI t s f Q (some n)) (hk : f n = some k0) (hn : t.NbP n m) (hm : f m = none) : BfI t s (fSet f m (k0 + 1)) (Q ++ [m]) (some n) := by
  obtain ⟨k1, hk1, hl, hq⟩ := h.cu n rfl
  rw [hk] at hk1
  cases hk1
  have old : ∀ {p : Nd} {k : Nat}, f p = some k → fSet f m (k0 + 1) p = some k := fun {p k} hp => by
    unfold fSet
    split
    · rename_i e; rw [e, hm] at hp; cases hp
    · exact hp
  have here : fSet f m (k0 + 1) m = some (k0 + 1) := by simp [fSet]
  have inv : ∀ {p : Nd} {k : Nat}, fSet f m (k0 + 1) p = some k → (p = m ∧ k = k0 + 1) ∨ f p = some k := fun {p k} hp => by
    unfold fSet at hp
    split at hp
    · rename_i e; cases hp; exact .inl ⟨e, rfl⟩
    · exact .inr hp
  refine ⟨old h.src, fun p k hp => ?_, fun p hp => ?_, fun p k hp => ?_, fun p hp => ?_, fun p k hp hnq hc q hpq => ?_, fun q hq' p k j hp hj => ?_, ?_, fun x e => ?_⟩
  · rcases inv hp with ⟨rfl, _⟩ | hp
    · exact hn.inP
    · exact h.rng p k hp
  · rcases inv hp with ⟨_, e⟩ | hp
    · omega
    · exact h.zero p hp
  · rcases inv hp with ⟨rfl, e⟩ | hp
    · exact ⟨n, by rw [show k = k0 by omega]; exact old hk, hn⟩
    · obtain ⟨q, h1, h2⟩ := h.par p k hp
      exact ⟨q, old h1, h2⟩
  · rcases List.mem_append.1 hp with hp | hp
    · obtain ⟨k, h1⟩ := h.mem p hp
      exact ⟨k, old h1⟩
    · obtain rfl : p = m := by simpa using hp
      exact ⟨_, here⟩
  · rcases inv hp with ⟨rfl, _⟩ | hp
    · exact absurd (by simp) hnq
    · obtain ⟨j, h1, h2⟩ := h.sat p k hp (fun hm' => hnq (List.mem_append_left _ hm')) hc q hpq
      exact ⟨j, old h1, h2⟩
  · have hj0 : k0 ≤ j := by
      rcases List.mem_append.1 hq' with hq' | hq'
      · rcases inv hj with ⟨_, e⟩ | hj
        · omega
        · exact hq q hq' j hj
      · obtain rfl : q = m := by simpa using hq'
        rw [here] at hj; cases hj; omega
    have hk' : k ≤ k0 + 1 := by
      rcases inv hp with ⟨_, e⟩ | hp
      · omega
      · exact hl p k hp
    omega
  · rw [List.pairwise_append]
    refine ⟨h.srt.imp_of_mem fun {a b} ha hb hab i j hi hj => ?_, by simp, fun a ha b hb i j hi hj => ?_⟩
    · obtain ⟨ka, hka⟩ := h.mem a ha
      obtain ⟨kb, hkb⟩ := h.mem b hb
      rw [old hka] at hi
      rw [old hkb] at hj
      cases hi
      cases hj
      exact hab _ _ hka hkb
    · obtain rfl : b = m := by simpa using hb
      rw [here] at hj
      cases hj
      obtain ⟨ka, hka⟩ := h.mem a ha
      rw [old hka] at hi
      cases hi
      exact hl a _ hka
  · cases e
    refine ⟨k0, old hk, fun p k hp => ?_, fun q hq' j hj => ?_⟩
    · rcases inv hp with ⟨_, e⟩ | hp
      · omega
      · exact hl p k hp
    · rcases inv hj with ⟨_, e⟩ | hj'
      · omega
      · rcases List.mem_append.1 hq' with hq' | hq'
        · exact hq q hq' j hj'
        · obtain rfl : q = m := by simpa using hq'
          rw [hm] at hj'; cases hj'
theorem BfI.done {t : Tk} {s : Nd} {f : Nd → Option Nat} (h : BfI t s f [] none) : Dst t s f :=
  ⟨h.src, h.rng, h.zero, h.par, fun p k q hp hn => h.sat p k hp (by simp) (fun e => by cases e) q hn⟩
structure LyI (t : Tk) (s : Nd) (f : Nd → Option Nat) (now : List Nd) (lv : Nat) : Prop where
  src : f s = some 0
  rng : ∀ p k, f p = some k → t.inP p
  zero : ∀ p, f p = some 0 → p = s
  par : ∀ p k, f p = some (k + 1) → ∃ q, f q = some k ∧ t.NbP q p
  lvl : ∀ p k, f p = some k → k ≤ lv
  here : ∀ p, p ∈ now ↔ f p = some lv
  sat : ∀ p k, f p = some k → k < lv → ∀ q, t.NbP p q → ∃ j, f q = some j ∧ j ≤ k + 1
structure LyJ (t : Tk) (s : Nd) (f : Nd → Option Nat) (now next : List Nd) (lv : Nat) (D : Nd → Prop) : Prop where
  src : f s = some 0
  rng : ∀ p k, f p = some k → t.inP p
  zero : ∀ p, f p = some 0 → p = s
  par : ∀ p k, f p = some (k + 1) → ∃ q, f q = some k ∧ t.NbP q p
  lvl : ∀ p k, f p = some k → k ≤ lv + 1
  here : ∀ p, p ∈ now ↔ f p = some lv
  nxt : ∀ p, p ∈ next ↔ f p = some (lv + 1)
  sat : ∀ p k, f p = some k → k < lv → ∀ q, t.NbP p q → ∃ j, f q = some j ∧ j ≤ k + 1
  dn : ∀ p, D p → ∀ q, t.NbP p q → ∃ j, f q = some j
theorem LyI.start {t : Tk} {s : Nd} (hs : t.inP s) : LyI t s (fSet (fun _ => none) s 0) [s] 0 := by
  have h1 : ∀ p k, fSet (fun _ => none) s 0 p = some k → p = s ∧ k = 0 := fun p k h => by
    unfold fSet at h
    split at h
    · cases h; exact ⟨by assumption, rfl⟩
    · cases h
  refine ⟨by simp [fSet], fun p k h => by rw [(h1 p k h).1]; exact hs, fun p h => (h1 p 0 h).1, fun p k h => by have := (h1 p _ h).2; omega, fun p k h => by have := (h1 p k h).2; omega, fun p => ⟨fun hp => ?_, fun hp => by rw [(h1 p 0 hp).1]; simp⟩, fun p k _ hk => by omega⟩
  obtain rfl : p = s := by simpa using hp
  simp [fSet]
theorem LyI.open {t : Tk} {s : Nd} {f : Nd → Option Nat} {now : List Nd} {lv : Nat} (h : LyI t s f now lv) : LyJ t s f now [] lv (fun _ => False) :=
  ⟨h.src, h.rng, h.zero, h.par, fun p k hp => by have := h.lvl p k hp; omega, h.here, fun p => ⟨fun hp => (by cases hp), fun hp => (by have := h.lvl p _ hp; omega)⟩, h.sat, fun p hp => hp.elim⟩
theorem LyJ.close {t : Tk} {s : Nd} {f : Nd → Option Nat} {now next : List Nd} {lv : Nat} {D : Nd → Prop} (h : LyJ t s f now next lv D) (hD : ∀ p ∈ now, D p) : LyI t s f next (lv + 1) := by
  refine ⟨h.src, h.rng, h.zero, h.par, h.lvl, h.nxt, fun p k hp hk q hn => ?_⟩
  by_cases e : k = lv
  · subst e
    obtain ⟨j, hj⟩ := h.dn p (hD p ((h.here p).2 hp)) q hn
    exact ⟨j, hj, h.lvl q j hj⟩
  · exact h.sat p k hp (by omega) q hn
theorem LyJ.weak {t : Tk} {s : Nd} {f : Nd → Option Nat} {now next : List Nd} {lv : Nat} {D D' : Nd → Prop} (h : LyJ t s f now next lv D) (hD : ∀ p, D' p → D p ∨ ∀ q, t.NbP p q → ∃ j, f q = some j) : LyJ t s f now next lv D' :=
  ⟨h.src, h.rng, h.zero, h.par, h.lvl, h.here, h.nxt, h.sat, fun p hp q hn => by
    rcases hD p hp with h1 | h1
    · exact h.dn p h1 q hn
    · exact h1 q hn⟩
theorem LyJ.more {t : Tk} {s n m : Nd} {f : Nd → Option Nat} {now next : List Nd} {lv : Nat} {D : Nd → Prop} (h : LyJ t s f now next lv D) (hk : f n = some lv) (hn : t.NbP n m) (hm : f m = none) : LyJ t s (fSet f m (lv + 1)) now (next ++ [m]) lv D := by
  have old : ∀ {p : Nd} {k : Nat}, f p = some k → fSet f m (lv + 1) p = some k := fun {p k} hp => by
    unfold fSet
    split
    · rename_i e; rw [e, hm] at hp; cases hp
    · exact hp
  have here : fSet f m (lv + 1) m = some (lv + 1) := by simp [fSet]
  have inv : ∀ {p : Nd} {k : Nat}, fSet f m (lv + 1) p = some k → (p = m ∧ k = lv + 1) ∨ f p = some k := fun {p k} hp => by
    unfold fSet at hp
    split at hp
    · rename_i e; cases hp; exact .inl ⟨e, rfl⟩
    · exact .inr hp
  refine ⟨old h.src, fun p k hp => ?_, fun p hp => ?_, fun p k hp => ?_, fun p k hp => ?_, fun p => ⟨fun hp => old ((h.here p).1 hp), fun hp => ?_⟩, fun p => ⟨fun hp => ?_, fun hp => ?_⟩, fun p k hp hlt q hpq => ?_, fun p hp q hpq => ?_⟩
  · rcases inv hp with ⟨rfl, _⟩ | hp
    · exact hn.inP
    · exact h.rng p k hp
  · rcases inv hp with ⟨_, e⟩ | hp
    · omega
    · exact h.zero p hp
  · rcases inv hp with ⟨rfl, e⟩ | hp
    · exact ⟨n, by rw [show k = lv by omega]; exact old hk, hn⟩
    · obtain ⟨q, h1, h2⟩ := h.par p k hp
      exact ⟨q, old h1, h2⟩
  · rcases inv hp with ⟨_, e⟩ | hp
    · omega
    · exact h.lvl p k hp
  · rcases inv hp with ⟨_, e⟩ | hp
    · omega
    · exact (h.here p).2 hp
  · rcases List.mem_append.1 hp with hp | hp
    · exact old ((h.nxt p).1 hp)
    · obtain rfl : p = m := by simpa using hp
      exact here
  · rcases inv hp with ⟨rfl, _⟩ | hp
    · simp
    · exact List.mem_append_left _ ((h.nxt p).2 hp)
  · rcases inv hp with ⟨_, e⟩ | hp
    · omega
    · obtain ⟨j, h1, h2⟩ := h.sat p k hp hlt q hpq
      exact ⟨j, old h1, h2⟩
  · obtain ⟨j, h1⟩ := h.dn p hp q hpq
    exact ⟨j, old h1⟩
theorem LyI.done {t : Tk} {s : Nd} {f : Nd → Option Nat} {lv : Nat} (h : LyI t s f [] lv) : Dst t s f :=
  ⟨h.src, h.rng, h.zero, h.par, fun p k q hp hn => by
    refine h.sat p k hp ?_ q hn
    have h1 := h.lvl p k hp
    have h2 : k ≠ lv := fun e => by
      subst e
      have := (h.here p).2 hp
      cases this
    omega⟩
end Go.Proofs.Ytgjpdjihjphbdaa

/- The contract of task.steps: distances along a queue. -/
namespace Go.Proofs.Ytgjpdjihjphbdaa
open Go.RowKit
set_option linter.unusedVariables false
def entM (e : Nd × Nat) : MV := .tup [posM e.1, I64 (e.2 : Int)]
def mF : List (Nd × Nat) → Nd → Option Nat
  | [], _ => none
  | (q, k) :: L, p => if p = q then some k else mF L p
theorem mF_app : ∀ {L : List (Nd × Nat)} {q : Nd} {k : Nat}, mF L q = none → mF (L ++ [(q, k)]) = fSet (mF L) q k
  | [], q, k, _ => by funext p; simp [mF, fSet]
  | (a, j) :: L, q, k, h => by
    funext p
    simp only [mF, List.cons_append] at h ⊢
    have hne : ¬ q = a := fun e => by rw [if_pos e] at h; cases h
    rw [if_neg hne] at h
    rw [mF_app h]
    unfold fSet
    simp only [mF]
    by_cases e : p = q
    · subst e; rw [if_neg hne, if_pos rfl, if_pos rfl]
    · by_cases e2 : p = a
      · rw [if_pos e2, if_neg e, if_pos e2]
      · rw [if_neg e2, if_neg e, if_neg e, if_neg e2]
theorem litEq_pos (a b c d : Int) : litEq [I64 a, I64 b] [I64 c, I64 d] = some (a == c && b == d) := by
  simp [litEq]
theorem mfind_ent (p : Nd) : ∀ (L : List (Nd × Nat)) (i : Nat), match mF L p with
    | none => mfind [I64 (p.2 : Int), I64 (p.1 : Int)] (L.map entM) i = some none
    | some k => ∃ j, mfind [I64 (p.2 : Int), I64 (p.1 : Int)] (L.map entM) i = some (some (j, I64 (k : Int)))
  | [], i => by simp [mF, mfind]
  | ((y, x), k) :: L, i => by
    have e : mfind [I64 (p.2 : Int), I64 (p.1 : Int)] ((((y, x), k) :: L).map entM) i = match litEq [I64 (p.2 : Int), I64 (p.1 : Int)] [I64 (x : Int), I64 (y : Int)] with
      | some true => some (some (i, I64 (k : Int)))
      | some false => mfind [I64 (p.2 : Int), I64 (p.1 : Int)] (L.map entM) (i + 1)
      | none => none := rfl
    rw [litEq_pos] at e
    simp only [mF]
    by_cases h : p = (y, x)
    · subst h
      rw [if_pos rfl]
      exact ⟨i, by rw [e]; simp⟩
    · rw [if_neg h]
      have hb : ((p.2 : Int) == (x : Int) && (p.1 : Int) == (y : Int)) = false := by
        rw [Bool.eq_false_iff]
        intro hc
        simp only [Bool.and_eq_true, beq_iff_eq] at hc
        obtain ⟨a, b⟩ := p
        simp only at hc
        exact h (by rw [show a = y by omega, show b = x by omega])
      rw [hb] at e
      have := mfind_ent p L (i + 1)
      rw [e]
      exact this
theorem mfind_none {L : List (Nd × Nat)} {p : Nd} (h : mF L p = none) : mfind [I64 (p.2 : Int), I64 (p.1 : Int)] (L.map entM) 0 = some none := by
  have := mfind_ent p L 0; rw [h] at this; exact this
theorem mfind_some {L : List (Nd × Nat)} {p : Nd} {k : Nat} (h : mF L p = some k) : ∃ j, mfind [I64 (p.2 : Int), I64 (p.1 : Int)] (L.map entM) 0 = some (some (j, I64 (k : Int))) := by
  have := mfind_ent p L 0; rw [h] at this; exact this
def Tk.unf (t : Tk) (f : Nd → Option Nat) : Nat := ((nodesP t.ter.length t.W).filter fun p => (f p).isNone).length
theorem filter_lt {α : Type} {p q : α → Bool} (hpq : ∀ x, q x = true → p x = true) : ∀ {l : List α} {a : α}, a ∈ l → p a = true → q a = false → (l.filter q).length < (l.filter p).length := by
  have le : ∀ l : List α, (l.filter q).length ≤ (l.filter p).length := fun l => by
    induction l with
    | nil => simp
    | cons x l ih =>
      simp only [List.filter_cons]
      by_cases h : q x = true
      · rw [if_pos h, if_pos (hpq x h)]; simp; exact ih
      · rw [if_neg h]
        split
        · simp; omega
        · exact ih
  intro l
  induction l with
  | nil => intro a h; cases h
  | cons x l ih =>
    intro a ha h1 h2
    simp only [List.filter_cons]
    rcases List.mem_cons.1 ha with rfl | ha
    · rw [if_pos h1, if_neg (by rw [h2]; simp)]
      have := le l
      simp; omega
    · have := ih ha h1 h2
      by_cases h : q x = true
      · rw [if_pos h, if_pos (hpq x h)]; simp; exact this
      · rw [if_neg h]
        split
        · simp; omega
        · exact this
theorem Tk.unf_set {t : Tk} {f : Nd → Option Nat} {p : Nd} {k : Nat} (hp : t.inP p) (hf : f p = none) : t.unf (fSet f p k) + 1 ≤ t.unf f := by
  obtain ⟨y, x⟩ := p
  refine filter_lt (fun q hq => ?_) (a := (y, x)) (nodesP_mem.2 ⟨hp.1, hp.2.1⟩) (by simp [hf]) (by simp [fSet])
  simp only [fSet] at hq
  split at hq
  · cases hq
  · exact hq
theorem Tk.unf_le {t : Tk} (ok : OkT t) (f : Nd → Option Nat) : t.unf f ≤ 144 := by
  unfold Tk.unf
  have h1 := List.length_filter_le (fun p => (f p).isNone) (nodesP t.ter.length t.W)
  rw [nodesP_len] at h1
  have := Nat.mul_le_mul ok.h1.2 ok.w1.2
  omega
section
variable {O : Oracle} {I : Iter} {N n : Nat}
theorem runZ_ofE {α : Type} {M : Tab} {f : Nat} {rs : List MRes} {b : MC} {args : List MV} {p : α → Prop} {m : α → MV} {news : α → MHeap} (hmf : M.mf f = some ⟨n, rs, b⟩) (hn : args.length ≤ n)
    (hE : Ef O I N n (fun _ => false) b (argsL 0 args) [] (fun x A h => ∃ a, p a ∧ FinF rs (m a) (news a) x A h)) : ∃ a, p a ∧ runZ M O I N f args [] = some (m a, news a) := by
  obtain ⟨x, s', h', k1, A', k2, a, hp, hx, vs, vs', r1, r2, r3, r4⟩ := hE.run (args ++ List.replicate (n - args.length) (.lit undef)) ⟨by simp; omega, fun t v ht => by
    obtain ⟨_, h1⟩ := look_args _ _ _ _ ht
    rw [Nat.sub_zero] at h1
    have hl := (List.getElem?_eq_some_iff.1 h1).1
    rw [List.getD_eq_getElem?_getD, List.getElem?_append_left hl, h1]
    rfl⟩
  refine ⟨a, hp, ?_⟩
  unfold runZ
  rw [hmf]
  unfold runF
  have elk : (fun id => decide (id < ([] : MHeap).length)) = fun _ => false := by funext id; simp
  dsimp only
  rw [elk, k1]
  have hx' : x = .ret ∨ x = .normal := by cases x <;> simp [outX] at hx <;> simp
  dsimp only
  rw [if_pos hx', ResVs.ok k2 r1]
  simp only [List.length_nil, r2, if_true, r3, r4, List.nil_append]
end
abbrev stH (t : Tk) (s : Nd) (L : List (Nd × Nat)) (U : List Nd) (i n gen : Nat) : MHeap := [⟨0, false, 9, [encO t]⟩, ⟨0, false, 2, [posM s]⟩, ⟨0, true, 1, [.tup (L.map entM)]⟩, ⟨0, false, 1, [.mp 2 0]⟩, ⟨gen, false, 2, U.map posM⟩, ⟨0, false, 1, [.arr 4 i n gen]⟩]
theorem entM_lt (k : Nat) (L : List (Nd × Nat)) : ltL k (L.map entM) = true := ltL_iff'.2 fun m hm => by
  obtain ⟨e, _, rfl⟩ := List.mem_map.1 hm
  simp [entM, MV.lt, ltL, posM]
theorem stH_lt (t : Tk) (s : Nd) (L : List (Nd × Nat)) (U : List Nd) (i n gen k : Nat) (hk : 6 ≤ k) : hltL k (stH t s L U i n gen) = true := by
  simp only [hltL, List.all_cons, List.all_nil, Bool.and_true, ltL, MV.lt, encO_lt, entM_lt, ltL_P, ltL_W, ltL_I, ltL_B, Bool.true_and, Bool.and_eq_true, decide_eq_true_eq]
  exact ⟨by omega, by omega⟩
theorem stH_cl (t : Tk) (s : Nd) (L : List (Nd × Nat)) (U : List Nd) (i n gen : Nat) (p : Nd) (X : MHeap) : Cl 7 (stH t s L U i n gen ++ [⟨0, false, 2, [posM p]⟩] ++ X) := by
  refine ⟨by simp, fun j o hj ho => ?_⟩
  rw [List.getElem?_append_left (by simp; omega)] at ho
  rcases List.mem_append.1 (List.mem_of_getElem? ho) with hm | hm
  · exact List.all_eq_true.1 (stH_lt t s L U i n gen 7 (by omega)) _ hm
  · rw [List.mem_singleton] at hm
    subst hm
    rfl
theorem stH_cl6 (t : Tk) (s : Nd) (L : List (Nd × Nat)) (U : List Nd) (i n gen : Nat) (Y X : MHeap) : Cl 6 (stH t s L U i n gen ++ Y ++ X) := by
  refine ⟨by simp, fun j o hj ho => ?_⟩
  rw [List.append_assoc, List.getElem?_append_left (by simp; omega)] at ho
  exact List.all_eq_true.1 (stH_lt t s L U i n gen 6 (by omega)) _ (List.mem_of_getElem? ho)
structure StI (t : Tk) (s : Nd) (L : List (Nd × Nat)) (U : List Nd) (i : Nat) (Q : List Nd) (c : Option Nd) : Prop where
  bf : BfI t s (mF L) Q c
  dr : U.drop i = Q
  le : i ≤ U.length
  ul : U.length + t.unf (mF L) ≤ 145
  vl : ∀ p k, mF L p = some k → k + t.unf (mF L) ≤ 144
theorem StI.ql {t : Tk} {s : Nd} {L : List (Nd × Nat)} {U Q : List Nd} {i : Nat} {c : Option Nd} (h : StI t s L U i Q c) : i + Q.length = U.length := by
  have := h.le
  rw [← h.dr, List.length_drop]; omega
theorem StI.start {t : Tk} (ok : OkT t) {s : Nd} (hs : t.inP s) : StI t s [(s, 0)] [s] 0 [s] none := by
  have e : mF [(s, 0)] = fSet (fun _ => none) s 0 := by funext p; simp [mF, fSet]
  have h1 := Tk.unf_set (t := t) (f := fun _ => none) (k := 0) hs rfl
  have h2 := Tk.unf_le ok (fun _ => none)
  refine ⟨by rw [e]; exact BfI.start hs, rfl, by simp, by rw [e]; simp; omega, fun p k hp => ?_⟩
  rw [e] at hp ⊢
  simp only [fSet] at hp
  split at hp
  · cases hp; omega
  · cases hp
theorem StI.pop {t : Tk} {s n : Nd} {L : List (Nd × Nat)} {U Q : List Nd} {i : Nat} (h : StI t s L U i (n :: Q) none) : StI t s L U (i + 1) Q (some n) := by
  have hq := h.ql
  refine ⟨h.bf.pop, ?_, by simp at hq; omega, h.ul, h.vl⟩
  rw [← List.drop_drop, h.dr]; rfl
theorem StI.more {t : Tk} {s n m : Nd} {L : List (Nd × Nat)} {U Q : List Nd} {i k0 : Nat} (h : StI t s L U i Q (some n)) (hk : mF L n = some k0) (hn : t.NbP n m) (hm : mF L m = none) : StI t s (L ++ [(m, k0 + 1)]) (Q ++ [m]) 0 (Q ++ [m]) (some n) := by
  have hq := h.ql
  have h1 := Tk.unf_set (t := t) (f := mF L) (k := k0 + 1) hn.inP hm
  have hul := h.ul
  have hv := h.vl n k0 hk
  rw [← mF_app hm] at h1
  refine ⟨by rw [mF_app hm]; exact h.bf.more hk hn hm, rfl, by simp, by simp only [List.length_append, List.length_cons, List.length_nil]; omega, fun p k hp => ?_⟩
  rw [mF_app hm] at hp
  simp only [fSet] at hp
  split at hp
  · cases hp; omega
  · have := h.vl p k hp; omega
theorem StI.close {t : Tk} {s n : Nd} {L : List (Nd × Nat)} {U Q : List Nd} {i : Nat} (h : StI t s L U i Q (some n)) (hs : ∀ q, t.NbP n q → ∃ j, mF L q = some j) : StI t s L U i Q none :=
  ⟨h.bf.close hs, h.dr, h.le, h.ul, h.vl⟩
theorem mf_steps : MT.mf 120 = some ⟨47, [(.tmp 4)], (.seq (.reg [⟨none, some 2, .box 9 (.s 0)⟩, ⟨none, some 3, .box 2 (.s 1)⟩, ⟨none, some 4, .mv (.c (.lit (.map none)))⟩]) (.seq (.reg [⟨none, some 11, .mkm⟩, ⟨none, some 12, .ld (some 2) (.s 3)⟩, ⟨none, none, .mup 2 (.s 11) (.s 12) (.c (.lit (.int .i64 0)))⟩, ⟨none, some 13, .mv (.s 11)⟩, ⟨none, some 5, .new (.lit (.map none))⟩, ⟨none, none, .st 1 (.s 5) (.s 13)⟩]) (.seq (.reg [⟨none, some 14, .ld (some 2) (.s 3)⟩, ⟨none, some 15, .bsl (.agg [(.lit (.int .i64 0)), (.lit (.int .i64 0))]) 2 1 [(0, (.s 14))]⟩, ⟨none, some 6, .new (.lit (.slice none 0 0))⟩, ⟨none, none, .st 1 (.s 6) (.s 15)⟩]) (.seq (.block 0 (.loop [6, 2, 5] (.seq (.seq (.reg [⟨none, some 16, .ld none (.s 6)⟩, ⟨none, some 17, .len (.s 16)⟩, ⟨none, some 18, .bin .gtr (.s 17) (.c (.lit (.int .i64 0)))⟩]) (.cond (.s 18) .skip (.exit 0))) (.block 1 (.seq (.reg [⟨none, some 19, .ld none (.s 6)⟩, ⟨none, some 20, .ia 2 (.s 19) (.c (.lit (.int .i64 0)))⟩, ⟨none, some 21, .ld (some 2) (.s 20)⟩, ⟨none, some 7, .new (.agg [(.lit (.int .i64 0)), (.lit (.int .i64 0))])⟩, ⟨none, none, .st 2 (.s 7) (.s 21)⟩]) (.seq (.reg [⟨none, some 22, .ld none (.s 6)⟩, ⟨none, some 23, .slc 2 (.s 22) (some (.c (.lit (.int .i64 1)))) none⟩, ⟨none, none, .st 1 (.s 6) (.s 23)⟩]) (.seq (.reg [⟨none, some 24, .ld (some 9) (.s 2)⟩, ⟨none, some 25, .ld (some 2) (.s 7)⟩, ⟨none, some 26, .call 154 [.s 24, .s 25]⟩]) (.block 2 (.rf [5, 7, 6] (.s 26) [27] (.reg [⟨none, some 8, .new (.agg [(.lit (.int .i64 0)), (.lit (.int .i64 0))])⟩, ⟨none, none, .st 2 (.s 8) (.s 27)⟩]) (.block 3 (.seq (.reg [⟨none, some 29, .ld none (.s 5)⟩, ⟨none, some 30, .ld (some 2) (.s 8)⟩, ⟨none, some 31, .mlk 2 (.lit (.int .i64 0)) true (.s 29) (.s 30)⟩, ⟨none, some 28, .mv (.s 31)⟩, ⟨none, some 32, .ext (.s 28) 0⟩, ⟨none, some 33, .ext (.s 28) 1⟩, ⟨none, some 9, .mv (.s 32)⟩, ⟨none, some 10, .mv (.s 33)⟩]) (.seq (.reg [⟨none, some 34, .mv (.s 10)⟩, ⟨none, some 35, .un .not (.s 34)⟩]) (.cond (.s 35) (.seq (.reg [⟨none, some 36, .ld none (.s 5)⟩, ⟨none, some 37, .ld (some 2) (.s 8)⟩, ⟨none, some 38, .ld none (.s 5)⟩, ⟨none, some 39, .ld (some 2) (.s 7)⟩, ⟨none, some 40, .mlk 2 (.lit (.int .i64 0)) false (.s 38) (.s 39)⟩, ⟨none, some 41, .bin .add (.s 40) (.c (.lit (.int .i64 1)))⟩, ⟨none, none, .mup 2 (.s 36) (.s 37) (.s 41)⟩]) (.reg [⟨none, some 42, .ld none (.s 6)⟩, ⟨none, some 43, .ld (some 2) (.s 8)⟩, ⟨none, some 44, .bsl (.agg [(.lit (.int .i64 0)), (.lit (.int .i64 0))]) 2 1 [(0, (.s 43))]⟩, ⟨none, some 45, .app 2 (.s 42) (.s 44)⟩, ⟨none, none, .st 1 (.s 6) (.s 45)⟩])) .skip))))))))))))) (.seq (.reg [⟨none, some 46, .ld none (.s 5)⟩, ⟨none, some 4, .mv (.s 46)⟩]) .ret)))))⟩ := by kernel_rfl
set_option maxHeartbeats 4000000 in
theorem steps_z (k : Nat) (t : Tk) (ok : OkT t) {s : Nd} (hs : t.inP s) : ∃ L, (Dst t s (mF L) ∧ ∀ p k, mF L p = some k → k ≤ 144) ∧ runZ MT (orA (k + 4)) (itA (k + 4)) 4000000 120 [encO t, posM s] [] = some (.rm (L.map entM), []) := by
  obtain ⟨h1, h2⟩ := ok.h1
  obtain ⟨w1, w2⟩ := ok.w1
  refine runZ_ofE (p := fun L => Dst t s (mF L) ∧ ∀ p k, mF L p = some k → k ≤ 144) (m := fun L => .rm (L.map entM)) (news := fun _ => []) mf_steps (by simp) ?_
  simp only [argsL]
  repeat (first | apply ef_seq | (apply ef_mv; exact rfl; exact rfl) | (apply ef_ldp; exact rfl; exact rfl; (exact rfl); exact rfl; (exact rfl); (exact rd_2 rfl rfl)) | (apply ef_box; exact rfl; exact rfl; exact rfl; exact rfl) | (apply ef_newst; exact rfl; exact rfl; exact rfl; exact rfl; exact rfl) | (apply ef_bsl; exact rfl; (repeat (apply XVs.cons; exact rfl)); exact XVs.nil; exact rfl) | (apply ef_mkm; exact rfl) | (apply ef_mup; exact rfl; exact rfl; exact rfl; (exact rfl); exact rfl; exact rfl; (exact rfl)) | apply ef_nil | apply seqQ.normal | apply ef_block)
  refine ef_loopg (α := List (Nd × Nat) × List Nd × Nat × List Nd × Nat) (fun a => StI t s a.1 a.2.1 a.2.2.1 a.2.2.2.1 none) (fun _ => []) [(6, .ptr 5 0 0 0), (2, .ptr 0 0 0 0), (5, .ptr 3 0 0 0)] (fun a => stH t s a.1 a.2.1 a.2.2.1 a.2.2.2.1.length a.2.2.2.2) (fun a => a.2.2.2.1.length + t.unf (mF a.1))
    ([(s, 0)], [s], 0, [s], 0) [] (fun _ => rfl) (by ((repeat (refine Hold.cons (by exact rfl) ?_)); exact Hold.nil)) (by ((repeat (refine Hold.cons (by exact rfl) ?_)); exact Hold.nil)) rfl rfl rfl (StI.start ok hs) (by have := Tk.unf_le ok (mF [(s, 0)]); simp only [List.length_cons, List.length_nil]; omega) ?_
  rintro ⟨L, U, i, Q, gen⟩ hI
  simp only at hI ⊢
  cases Q with
  | nil =>
    repeat (first | apply ef_seq | (apply ef_mv; exact rfl; exact rfl) | (apply ef_bin; exact rfl; exact rfl; exact rfl; (exact rfl)) | (apply ef_len; exact rfl; exact rfl; (exact rfl)) | (apply ef_ldp; exact rfl; exact rfl; (exact rfl); exact rfl; (exact rfl); (exact rfl)) | apply ef_nil | apply seqQ.normal | apply loopQ.exit | apply ef_ret | apply ef_exit | apply seqQ.exit | apply blockQ.here | (apply ef_condf; exact rfl; (exact (rfl : false = false))))
    exact ⟨L, ⟨hI.bf.done, fun p k hp => by have := hI.vl p k hp; omega⟩, fin_frz rfl (by exact rfl) rfl (fun _ _ _ _ h => by cases h) (by simp [frz, MV.lt, entM_lt])⟩
  | cons q Q =>
    obtain ⟨y, x⟩ := q
    have hp := hI.pop
    have hql := hI.ql
    have hul := hI.ul
    have hok : MHeap.ok (stH t s L U i ((y, x) :: Q).length gen) 4 gen 2 = true := ok_of (by exact rfl) rfl rfl
    have hok1 : MHeap.ok (stH t s L U i ((y, x) :: Q).length gen ++ [(⟨0, false, 2, [posM (y, x)]⟩ : MObj)]) 4 gen 2 = true := ok_of (by exact rfl) rfl rfl
    have hel : (U.map posM)[i + (0 : Int).toNat]? = some (posM (y, x)) := by
      have e := congrArg (fun l => l[0]?) hI.dr
      simp only [List.getElem?_drop, List.getElem?_cons_zero, Nat.add_zero] at e
      simp [e]
    obtain ⟨k0, hk0⟩ := hI.bf.mem (y, x) List.mem_cons_self
    have hin := hI.bf.rng _ _ hk0
    have hlq : ((y, x) :: Q).length = Q.length + 1 := rfl
    repeat (first | apply ef_seq | (apply ef_bin; exact rfl; exact rfl; exact rfl; (exact cmp_t rfl (by first | exact rfl | (simp only [cmpP]; omega)))) | (apply ef_len; exact rfl; exact rfl; (exact rfl)) | (apply ef_ldp; exact rfl; exact rfl; (exact rfl); exact rfl; (first | exact rfl | assumption); (first | exact rd_2 rfl rfl | exact rfl)) | (apply ef_iaa; exact rfl; exact rfl; exact rfl; (omega); (omega); (assumption)) | (apply ef_newst; exact rfl; exact rfl; exact rfl; exact rfl; exact rfl) | apply ef_nil | apply seqQ.normal | apply ef_block | apply ef_skip | (apply ef_condt; exact rfl; (exact (rfl : true = true))))
    refine ef_slca1 (ht := by exact rfl) (l := 1) (m := ((y, x) :: Q).length) (by exact rfl) (by exact rfl) (by omega) hok1 ?_
    (apply ef_st; (· exact rfl); (· exact rfl); (· exact rfl); (· exact rfl); (· exact rfl); (· exact rfl); (· exact rfl); (· exact rfl))
    show Ef _ _ _ _ _ _ _ (stH t s L U (i + 1) Q.length gen ++ [⟨0, false, 2, [posM (y, x)]⟩]) _
    repeat (first | apply ef_seq | (apply ef_ldp; exact rfl; exact rfl; (exact rfl); exact rfl; (exact rfl); (first | exact rd_2 rfl rfl | exact rd_whole rfl)) | apply ef_nil | apply seqQ.normal | apply ef_block | (apply ef_call; exact rfl; ((repeat (apply XVs.cons; exact rfl)); exact XVs.nil); (with_reducible exact neighbours_c (k + 3) t _)))
    refine ef_rf (α := List (Nd × Nat) × List Nd × Nat × List Nd × Nat × MHeap) (ids := [])
      (fun j a => StI t s a.1 a.2.1 a.2.2.1 a.2.2.2.1 (some (y, x)) ∧ mF a.1 (y, x) = some k0 ∧ (∀ p ∈ (t.nbL y x).take j, ∃ i, mF a.1 p = some i) ∧ a.2.2.2.1.length + t.unf (mF a.1) ≤ Q.length + t.unf (mF L))
      [(5, .ptr 3 0 0 0), (7, .ptr 6 0 0 0), (6, .ptr 5 0 0 0)] (fun a => stH t s a.1 a.2.1 a.2.2.1 a.2.2.2.1.length a.2.2.2.2.1 ++ [⟨0, false, 2, [posM (y, x)]⟩] ++ a.2.2.2.2.2) (fun a => stH t s a.1 a.2.1 a.2.2.1 a.2.2.2.1.length a.2.2.2.2.1 ++ [⟨0, false, 2, [posM (y, x)]⟩])
      (L, U, i + 1, Q, gen, []) (by exact rfl) (neighbours1_it (k + 2) t ok hin.1 hin.2.1 _) (by simp [posY]) (idsL_lt0 (by simp [ltL, MV.lt, ltL_I, ltL_W, ltL_B])) (by ((repeat (refine Hold.cons (by exact rfl) ?_)); exact Hold.nil)) rfl rfl rfl
      ⟨hp, hk0, by simp, Nat.le_refl _⟩ rfl ?_ ?_ ?_
    · rintro j ⟨L', U', i', Q', gen', X⟩ _
      simp only
      have e : stH t s L' U' i' Q'.length gen' ++ [(⟨0, false, 2, [posM (y, x)]⟩ : MObj)] = (stH t s L' U' i' Q'.length gen' ++ [(⟨0, false, 2, [posM (y, x)]⟩ : MObj)] ++ X).take 7 := by rfl
      refine e ▸ HeadIs.tk (m := 7) ?_ fun u hu => ?_
      · exact stH_cl t s L' U' i' Q'.length gen' (y, x) X
      · simp only [List.mem_cons, List.not_mem_nil, or_false] at hu
        rcases hu with rfl | rfl | rfl
        · exact ⟨.ptr 3 0 0 0, by exact rfl, rfl⟩
        · exact ⟨.ptr 6 0 0 0, by exact rfl, rfl⟩
        · exact ⟨.ptr 5 0 0 0, by exact rfl, rfl⟩
    · rintro j ⟨L', U', i', Q', gen', X⟩ x' hx' ⟨hI', hk', hall, hms⟩
      simp only at hI' hk' hall hms ⊢
      obtain ⟨⟨y1, x1⟩, hp1, rfl⟩ : ∃ p, (t.nbL y x)[j]? = some p ∧ x' = [posM p] := by
        simp only [posY, List.getElem?_map, Option.map_eq_some_iff] at hx'
        obtain ⟨w, h1, h2⟩ := hx'
        exact ⟨w, h1, h2.symm⟩
      have hnb := (Tk.nbL_mem hin.1 hin.2.1).1 (List.mem_of_getElem? hp1)
      have htk : (t.nbL y x).take (j + 1) = (t.nbL y x).take j ++ [(y1, x1)] := by rw [List.take_add_one, hp1]; rfl
      simp only [putA]
      clear hx' X
      have hv := hI'.vl _ _ hk'
      have hul' := hI'.ul
      have hql' := hI'.ql
      obtain ⟨j2, hf2⟩ := mfind_some hk'
      repeat (first | (apply ef_newst; exact rfl; exact rfl; exact rfl; exact rfl; exact rfl) | apply ef_nil)
      apply preQ.normal
      cases hm : mF L' (y1, x1) with
      | none =>
        have hf1 := mfind_none hm
        repeat (first | apply ef_seq | (apply ef_mv; exact rfl; exact rfl) | (apply ef_bin; exact rfl; exact rfl; exact rfl; (((with_reducible refine bin_add (wrap_of ?_ ?_)) <;> omega))) | (apply ef_ldp; exact rfl; exact rfl; (exact rfl); exact rfl; (exact rfl); (first | exact rd_2 rfl rfl | exact rfl)) | (apply ef_notF; exact rfl; exact rfl) | (apply ef_ext; exact rfl; exact rfl; exact rfl) | (apply ef_bsl; exact rfl; (repeat (apply XVs.cons; exact rfl)); exact XVs.nil; exact rfl) | (apply ef_mlk; exact rfl; exact rfl; exact rfl; (exact rfl); exact rfl; (assumption); exact rfl) | (apply ef_mup; exact rfl; exact rfl; exact rfl; (exact rfl); exact rfl; exact rfl; (assumption)) | apply ef_nil | apply seqQ.normal | apply ef_block | (apply ef_condt; exact rfl; (exact (rfl : true = true))))
        refine ef_app (ht := by exact rfl) (o := ⟨gen', false, 2, U'.map posM⟩) (v := .arr 8 0 1 0) (e := posM (y1, x1)) (xs := []) (by exact rfl) (by exact rfl) (by exact rfl) (by exact rfl) rfl (by simp; omega) rfl (by simp; omega) rfl rfl ?_
        refine ef_st (o := ⟨0, false, 1, [.arr 4 i' Q'.length gen']⟩) look_here rfl (by exact rfl) (by exact rfl) rfl rfl rfl rfl ?_
        repeat (first | apply ef_nil | apply blockQ.normal)
        apply rfQ.normal
        have hm2 := hI'.more hk' hnb hm
        have hu := Tk.unf_set (t := t) (f := mF L') (k := k0 + 1) (p := (y1, x1)) (Tk.NbP.inP (p := (y, x)) hnb) hm
        rw [← mF_app hm] at hu
        have e1 : (L' ++ [((y1, x1), k0 + 1)]).map entM = L'.map entM ++ [.tup [posM (y1, x1), I64 ((k0 : Int) + 1)]] := by simp [entM]
        have e2 : (Q' ++ [(y1, x1)]).map posM = (U'.map posM).drop i' ++ [posM (y1, x1)] := by rw [List.map_append, ← hI'.dr, List.map_drop]; rfl
        have e3 : (Q' ++ [(y1, x1)]).length = Q'.length + 1 := by simp
        refine ⟨(L' ++ [((y1, x1), k0 + 1)], Q' ++ [(y1, x1)], 0, Q' ++ [(y1, x1)], gen' + 1, [⟨0, false, 2, [posM (y1, x1)]⟩, ⟨0, false, 2, [posM (y1, x1)]⟩]), ⟨hm2, ?_, fun p hp => ?_, ?_⟩, ?_⟩
        · simp only
          rw [mF_app hm]
          simp only [fSet]
          rw [if_neg (fun e => by rw [← e, hk'] at hm; cases hm)]
          exact hk'
        · simp only at hp ⊢
          rw [mF_app hm]
          simp only [fSet]
          by_cases e : p = (y1, x1)
          · rw [if_pos e]; exact ⟨_, rfl⟩
          · rw [if_neg e]
            rw [htk, List.mem_append] at hp
            rcases hp with hp | hp
            · exact hall p hp
            · rw [List.mem_singleton] at hp
              exact absurd hp e
        · simp only
          rw [e3]; omega
        · simp only
          unfold stH
          rw [e1, e2, e3]
          rfl
      | some k1 =>
        obtain ⟨j1, hf1⟩ := mfind_some hm
        repeat (first | apply ef_seq | (apply ef_mv; exact rfl; exact rfl) | (apply ef_ldp; exact rfl; exact rfl; (exact rfl); exact rfl; (exact rfl); (first | exact rd_2 rfl rfl | exact rfl)) | (apply ef_notT; exact rfl; exact rfl) | (apply ef_ext; exact rfl; exact rfl; exact rfl) | (apply ef_mlk; exact rfl; exact rfl; exact rfl; (exact rfl); exact rfl; (assumption); exact rfl) | apply ef_nil | apply seqQ.normal | apply blockQ.normal | apply ef_block | apply ef_skip | (apply ef_condf; exact rfl; (exact (rfl : false = false))))
        apply rfQ.normal
        refine ⟨(L', U', i', Q', gen', [⟨0, false, 2, [posM (y1, x1)]⟩]), ⟨hI', hk', fun p hp => ?_, hms⟩, rfl⟩
        simp only at hp ⊢
        rw [htk, List.mem_append] at hp
        rcases hp with hp | hp
        · exact hall p hp
        · rw [List.mem_singleton] at hp
          subst hp
          exact ⟨k1, hm⟩
    · rintro ⟨L', U', i', Q', gen', X⟩ ⟨hI', hk', hall, hms⟩
      simp only at hI' hk' hall hms ⊢
      have hlenY : (posY (t.nbL y x)).length = (t.nbL y x).length := by simp [posY]
      rw [hlenY, List.take_length] at hall
      have hcl := hI'.close fun q hn => hall q ((Tk.nbL_mem hin.1 hin.2.1).2 hn)
      repeat (first | apply blockQ.normal)
      have e : stH t s L' U' i' Q'.length gen' = (stH t s L' U' i' Q'.length gen' ++ [(⟨0, false, 2, [posM (y, x)]⟩ : MObj)] ++ X).take 6 := by rfl
      refine loopQ.normal _ _ ⟨(L', U', i', Q', gen'), hcl, by simp only [hlq]; omega, ⟨by ((repeat (refine Hold.cons (by exact rfl) ?_)); exact Hold.nil), by ((repeat (refine Hold.cons (by exact rfl) ?_)); exact Hold.nil)⟩, e ▸ HeadIs.tk (m := 6) ?_ fun u hu => ?_⟩
      · exact stH_cl6 t s L' U' i' Q'.length gen' _ X
      · simp only [List.mem_cons, List.not_mem_nil, or_false] at hu
        rcases hu with rfl | rfl | rfl
        · exact ⟨.ptr 5 0 0 0, by exact rfl, rfl⟩
        · exact ⟨.ptr 0 0 0 0, by exact rfl, rfl⟩
        · exact ⟨.ptr 3 0 0 0, by exact rfl, rfl⟩
theorem steps_c (k : Nat) (t : Tk) (ok : OkT t) {s : Nd} (hs : t.inP s) : ∃ L, Dst t s (mF L) ∧ (∀ p k, mF L p = some k → k ≤ 144) ∧ ∀ h, orA (k + 5) 120 [encO t, posM s] h = some (.rm (L.map entM), h) := by
  obtain ⟨L, ⟨hL, hv⟩, hz⟩ := steps_z k t ok hs
  refine ⟨L, hL, hv, fun h => ?_⟩
  have := callA (k := k + 4) (h := h) (frzL_lt (ms := [encO t, posM s]) (by simp [ltL, MV.lt, ltL_I, ltL_W, ltL_B])) rfl hz (by simp [okV, ok1, ltL, ltL_I, ltL_W, ltL_B, MV.lt, entM_lt]) rfl
  simpa [shV, sh1] using this
end Go.Proofs.Ytgjpdjihjphbdaa

/- The contract of the reference's steps: distances, layer by layer. -/
namespace Go.Proofs.Ytgjpdjihjphbdaa
open Go.RowKit
set_option linter.unusedVariables false
def stI : Option Nat → Int
  | some k => (k : Int)
  | none => -1
def stG (t : Tk) (f : Nd → Option Nat) : List (List Int) := (List.range t.ter.length).map fun y => (List.range t.W).map fun x => stI (f (y, x))
theorem stG_row {t : Tk} {f : Nd → Option Nat} {y : Nat} (hy : y < t.ter.length) : (stG t f).getD y [] = (List.range t.W).map fun x => stI (f (y, x)) := by
  unfold stG
  rw [List.getD_eq_getElem?_getD, rng_get _ hy]; rfl
theorem stG_at {t : Tk} {f : Nd → Option Nat} {y x : Nat} (hy : y < t.ter.length) (hx : x < t.W) : at2 (stG t f) y x = stI (f (y, x)) := by
  unfold at2
  rw [stG_row hy, List.getD_eq_getElem?_getD, rng_get _ hx]; rfl
theorem stG_set {t : Tk} {f : Nd → Option Nat} {y x k : Nat} (hy : y < t.ter.length) : set2 (stG t f) y x (k : Int) = stG t (fSet f (y, x) k) := by
  unfold set2
  rw [stG_row hy]
  unfold stG
  rw [rng_set]
  refine rng_congr fun j hj => ?_
  by_cases h : j = y
  · subst h
    rw [if_pos rfl, rng_set]
    refine rng_congr fun i hi => ?_
    by_cases e : i = x
    · subst e; rw [if_pos rfl]; simp [fSet, stI]
    · rw [if_neg e]
      have : fSet f (j, x) k (j, i) = f (j, i) := by simp [fSet, e]
      rw [this]
  · rw [if_neg h]
    refine List.map_congr_left fun i _ => ?_
    have : fSet f (y, x) k (j, i) = f (j, i) := by simp [fSet, h]
    rw [this]
theorem stG_none {t : Tk} {y : Nat} (hy : y < t.ter.length) : (stG t fun _ => none).getD y [] = List.replicate t.W (-1) := by
  rw [stG_row hy]
  apply List.ext_getElem?
  intro j
  by_cases hj : j < t.W
  · rw [rng_get _ hj, List.getElem?_replicate, if_pos hj]; rfl
  · rw [List.getElem?_eq_none (by simp; omega), List.getElem?_replicate, if_neg hj]
def rsF (W j : Nat) : MHeap := [⟨0, false, 1, List.replicate W (I64 (-1))⟩, ⟨0, false, 1, [.arr (4 + 2 * j) 0 W 0]⟩]
def rsG (W y : Nat) : MHeap := (List.range y).flatMap (rsF W)
def rsRefs (W y : Nat) : List MV := (List.range y).map fun j => .arr (4 + 2 * j) 0 W 0
def rsH (t : Tk) (s : Nd) (y : Nat) : MHeap := [⟨0, false, 5, [encT t]⟩, ⟨0, false, 2, [posM s]⟩, ⟨0, true, 1, []⟩, ⟨y, nlN y, 1, rsRefs t.W y⟩] ++ rsG t.W y
theorem rsG_succ (W y : Nat) : rsG W (y + 1) = rsG W y ++ rsF W y := by
  unfold rsG; rw [List.range_succ, List.flatMap_append]; simp
theorem rsG_len (W : Nat) : ∀ y, (rsG W y).length = 2 * y
  | 0 => rfl
  | y + 1 => by rw [rsG_succ, List.length_append, rsG_len W y]; simp [rsF]; omega
theorem rsH_len (t : Tk) (s : Nd) (y : Nat) : (rsH t s y).length = 4 + 2 * y := by unfold rsH; rw [List.length_append, rsG_len]; rfl
theorem rsG_at (W : Nat) {j : Nat} : ∀ {y : Nat}, j < y → (rsG W y)[2 * j]? = some ⟨0, false, 1, List.replicate W (I64 (-1))⟩ ∧ (rsG W y)[2 * j + 1]? = some ⟨0, false, 1, [.arr (4 + 2 * j) 0 W 0]⟩
  | y + 1, h => by
    rw [rsG_succ]
    by_cases e : j = y
    · subst e
      have := rsG_len W j
      rw [List.getElem?_append_right (by omega), List.getElem?_append_right (by omega), this]
      rw [show 2 * j - 2 * j = 0 by omega, show 2 * j + 1 - 2 * j = 1 by omega]
      exact ⟨rfl, rfl⟩
    · have := rsG_len W y
      rw [List.getElem?_append_left (by omega), List.getElem?_append_left (by omega)]
      exact rsG_at W (by omega)
theorem rsH_row (t : Tk) (s : Nd) {j y : Nat} (h : j < y) : (rsH t s y)[4 + 2 * j]? = some ⟨0, false, 1, List.replicate t.W (I64 (-1))⟩ := by
  unfold rsH
  rw [List.getElem?_append_right (by simp; try omega)]
  rw [show 4 + 2 * j - [(⟨0, false, 5, [encT t]⟩ : MObj), ⟨0, false, 2, [posM s]⟩, ⟨0, true, 1, []⟩, ⟨y, nlN y, 1, rsRefs t.W y⟩].length = 2 * j by simp]
  exact (rsG_at t.W h).1
theorem rsH_tmp (t : Tk) (s : Nd) {j y : Nat} (h : j < y) : (rsH t s y)[5 + 2 * j]? = some ⟨0, false, 1, [.arr (4 + 2 * j) 0 t.W 0]⟩ := by
  unfold rsH
  rw [List.getElem?_append_right (by simp; try omega)]
  rw [show 5 + 2 * j - [(⟨0, false, 5, [encT t]⟩ : MObj), ⟨0, false, 2, [posM s]⟩, ⟨0, true, 1, []⟩, ⟨y, nlN y, 1, rsRefs t.W y⟩].length = 2 * j + 1 by simp; omega]
  exact (rsG_at t.W h).2
theorem rsH_succ (t : Tk) (s : Nd) (y : Nat) : List.set ((rsH t s y ++ [(⟨0, false, 1, List.replicate t.W (I64 (-1))⟩ : MObj)]) ++ [(⟨0, false, 1, [.arr (4 + 2 * y) 0 t.W 0]⟩ : MObj)]) 3 (⟨y + 1, false, 1, (rsRefs t.W y).drop 0 ++ [.arr (4 + 2 * y) 0 t.W 0]⟩ : MObj) = rsH t s (y + 1) := by
  unfold rsH
  rw [rsG_succ]
  simp [rsRefs, List.range_succ, nlN, rsF]
def negP (W x : Nat) : List MV := (List.range W).map fun j => if j < x then I64 (-1) else I64 0
theorem negP_zero (W : Nat) : negP W 0 = List.replicate W (I64 0) := by
  apply List.ext_getElem?
  intro j
  by_cases hj : j < W
  · rw [negP, rng_get _ hj, List.getElem?_replicate, if_pos hj]; rfl
  · rw [List.getElem?_eq_none (by simp [negP]; omega), List.getElem?_replicate, if_neg hj]
theorem negP_full (W : Nat) : negP W W = List.replicate W (I64 (-1)) := by
  apply List.ext_getElem?
  intro j
  by_cases hj : j < W
  · rw [negP, rng_get _ hj, List.getElem?_replicate, if_pos hj, if_pos hj]
  · rw [List.getElem?_eq_none (by simp [negP]; omega), List.getElem?_replicate, if_neg hj]
theorem negP_at {W x j : Nat} (h : j < W) : (negP W x)[j]? = some (if j < x then I64 (-1) else I64 0) := rng_get _ h
theorem negP_set {W x : Nat} : (negP W x).set x (I64 (-1)) = negP W (x + 1) := by
  unfold negP
  rw [rng_set]
  refine rng_congr fun j hj => ?_
  by_cases h : j = x
  · subst h; rw [if_pos rfl, if_pos (by omega)]
  · rw [if_neg h]
    by_cases h2 : j < x
    · rw [if_pos h2, if_pos (by omega)]
    · rw [if_neg h2, if_neg (by omega)]
theorem rsRefs_lt {W y : Nat} : ltL 4 (rsRefs W (y + 1)) = false := by
  rw [Bool.eq_false_iff]
  intro hc
  have h1 : (rsRefs W (y + 1))[0]? = some (.arr (4 + 2 * 0) 0 W 0) := rng_get _ (by omega)
  have := ltL_iff'.1 hc _ (List.mem_of_getElem? h1)
  simp [MV.lt] at this
structure RsM (t : Tk) (f : Nd → Option Nat) (h : MHeap) : Prop where
  b0 : h[0]? = some ⟨0, false, 5, [encT t]⟩
  sf : Srf 3 t.ter.length t.W t.ter.length (fun y => 4 + 2 * y) (stG t f) h
  fu : Full h
  len : 4 + 2 * t.ter.length ≤ h.length
theorem rsM0 {t : Tk} (ok : OkT t) (s : Nd) : RsM t (fun _ => none) (rsH t s t.ter.length) := by
  have h1 := ok.h1
  have hn : nlN t.ter.length = false := by
    obtain ⟨m, hm⟩ : ∃ m, t.ter.length = m + 1 := ⟨t.ter.length - 1, by omega⟩
    rw [hm]; rfl
  refine ⟨rfl, ⟨⟨rsRefs t.W t.ter.length, ?_, by simp [rsRefs], fun y hy => rng_get _ hy⟩, fun y hy => ?_, by simp [stG], fun y hy => by rw [stG_none hy]; simp, fun y y' _ _ e => ?_, fun y hy => by show 4 + 2 * y ≠ 3; omega⟩, ⟨Nat.le_refl _, fun j o hj ho => ?_⟩, by rw [rsH_len]; exact Nat.le_refl _⟩
  · have : (rsH t s t.ter.length)[3]? = some ⟨t.ter.length, nlN t.ter.length, 1, rsRefs t.W t.ter.length⟩ := rfl
    rw [this, hn]
  · rw [stG_none hy, List.map_replicate]; exact rsH_row t s hy
  · have e' : 4 + 2 * y = 4 + 2 * y' := e
    omega
  · have hL := rsH_len t s t.ter.length
    rw [hL] at hj ⊢
    by_cases h3 : j < 4
    · match j, h3 with
      | 0, _ => cases ho; simp [ltL, MV.lt, ltL_I, ltL_W]
      | 1, _ => cases ho; rfl
      | 2, _ => cases ho; rfl
      | 3, _ =>
        cases ho
        refine ltL_iff'.2 fun m hm => ?_
        obtain ⟨i, hi, rfl⟩ := List.mem_map.1 hm
        have := List.mem_range.1 hi
        simp [MV.lt]; omega
    · by_cases he : (j - 4) % 2 = 0
      · have h4 := rsH_row t s (j := (j - 4) / 2) (y := t.ter.length) (by omega)
        rw [show 4 + 2 * ((j - 4) / 2) = j by omega, ho] at h4
        cases h4
        refine ltL_iff'.2 fun m hm => ?_
        rw [List.mem_replicate] at hm
        rw [hm.2]; rfl
      · have h4 := rsH_tmp t s (j := (j - 4) / 2) (y := t.ter.length) (by omega)
        rw [show 5 + 2 * ((j - 4) / 2) = j by omega, ho] at h4
        cases h4
        simp [ltL, MV.lt]; omega
theorem RsM.put {t : Tk} {f : Nd → Option Nat} {h : MHeap} (m : RsM t f h) {y x k : Nat} (hy : y < t.ter.length) : RsM t (fSet f (y, x) k) (h.set (4 + 2 * y) ⟨0, false, 1, (((stG t f).getD y []).map I64).set x (I64 (k : Int))⟩) := by
  have hl : ∀ n, ltL n ((((stG t f).getD y []).map I64).set x (I64 (k : Int))) = true := fun n => by
    rw [show (((stG t f).getD y []).map I64).set x (I64 (k : Int)) = (((stG t f).getD y []).set x (k : Int)).map I64 by rw [List.map_set]]; exact ltL_I n _
  exact ⟨by rw [List.getElem?_set_ne (by omega)]; exact m.b0, by have := m.sf.put (x := x) (v := (k : Int)) hy; rwa [stG_set hy] at this, m.fu.set (hl _), by rw [List.length_set]; exact m.len⟩
theorem RsM.app1 {t : Tk} {f : Nd → Option Nat} {h : MHeap} (m : RsM t f h) (o : MObj) (ho : ltL (h.length + 1) o.es = true) : RsM t f (h ++ [o]) :=
  ⟨at_app m.b0 _, m.sf.app _, m.fu.app1 ho, by rw [List.length_append]; have := m.len; omega⟩
theorem RsM.other {t : Tk} {f : Nd → Option Nat} {h : MHeap} (m : RsM t f h) {i : Nat} {o : MObj} (hi : 4 + 2 * t.ter.length ≤ i) (ho : ltL h.length o.es = true) : RsM t f (h.set i o) :=
  ⟨by rw [List.getElem?_set_ne (by omega)]; exact m.b0, m.sf.other (by omega) (fun y hy => by omega), m.fu.set ho, by rw [List.length_set]; exact m.len⟩
structure RsI (t : Tk) (s : Nd) (now : List Nd) (lv u0 idn gn : Nat) (nl : Bool) (hl : Nat) (f : Nd → Option Nat) (next : List Nd) (h : MHeap) (D : Nd → Prop) : Prop where
  ly : LyJ t s f now next lv D
  mm : RsM t f h
  nw : h[idn]? = some ⟨gn, nl, 2, now.map posM⟩
  nx : h[hl]? = some ⟨next.length, nlN next.length, 2, next.map posM⟩
  ln : h.length = hl + 1
  vl : ∀ p k, f p = some k → k + t.unf f ≤ 144
  mu : next.length + t.unf f ≤ u0
theorem RsI.cl {t : Tk} {s : Nd} {now : List Nd} {lv u0 idn gn : Nat} {nl : Bool} {hl : Nat} {f : Nd → Option Nat} {next : List Nd} {h : MHeap} {D : Nd → Prop} (m : RsI t s now lv u0 idn gn nl hl f next h D) : Cl (hl + 1) h := by
  have := m.mm.fu
  unfold Full at this
  rwa [m.ln] at this
theorem RsI.cl1 {t : Tk} {s : Nd} {now : List Nd} {lv u0 idn gn : Nat} {nl : Bool} {hl : Nat} {f : Nd → Option Nat} {next : List Nd} {h : MHeap} {D : Nd → Prop} (m : RsI t s now lv u0 idn gn nl hl f next h D) (o : MObj) (ho : ∀ n, ltL n o.es = true) : Cl (hl + 2) (h ++ [o]) := by
  have := m.mm.fu.app1 (o := o) (ho _)
  unfold Full at this
  rwa [List.length_append, m.ln] at this
theorem ltL_pos (n : Nat) (Q : List Nd) : ltL n (Q.map posM) = true := ltL_P n Q
theorem RsI.more {t : Tk} {s : Nd} {now : List Nd} {lv u0 idn gn : Nat} {nl : Bool} {hl : Nat} {f : Nd → Option Nat} {next : List Nd} {h : MHeap} {D : Nd → Prop} (m : RsI t s now lv u0 idn gn nl hl f next h D) {n : Nd} {y x : Nat} (hk : f n = some lv) (hn : t.NbP n (y, x)) (hm : f (y, x) = none) (hi : 4 + 2 * t.ter.length ≤ idn) (hih : idn < hl) :
    RsI t s now lv u0 idn gn nl hl (fSet f (y, x) (lv + 1)) (next ++ [(y, x)]) ((h.set (4 + 2 * y) ⟨0, false, 1, (((stG t f).getD y []).map I64).set x (I64 ((lv + 1 : Nat) : Int))⟩).set hl ⟨next.length + 1, false, 2, (next.map posM).drop 0 ++ [posM (y, x)]⟩) D := by
  have hy : y < t.ter.length := hn.1
  have hu := Tk.unf_set (t := t) (f := f) (p := (y, x)) (k := lv + 1) hn.inP hm
  have hv := m.vl n lv hk
  have hmu := m.mu
  have hln := m.ln
  have he : (next.map posM).drop 0 ++ [posM (y, x)] = (next ++ [(y, x)]).map posM := by simp
  have m1 := m.mm.put (x := x) (k := lv + 1) hy
  rw [he]
  refine ⟨m.ly.more hk hn hm, m1.other (by omega) (ltL_pos _ _), ?_, ?_, by simp; exact hln, fun p k hp => ?_, ?_⟩
  · rw [List.getElem?_set_ne (by omega), List.getElem?_set_ne (by omega)]; exact m.nw
  · rw [List.getElem?_set_self (by simp; omega)]
    simp [nlN]
  · simp only [fSet] at hp
    split at hp
    · cases hp; omega
    · have := m.vl p k hp; omega
  · simp only [List.length_append, List.length_cons, List.length_nil]; omega
theorem RsI.weak {t : Tk} {s : Nd} {now : List Nd} {lv u0 idn gn : Nat} {nl : Bool} {hl : Nat} {f : Nd → Option Nat} {next : List Nd} {h : MHeap} {D D' : Nd → Prop} (m : RsI t s now lv u0 idn gn nl hl f next h D) (hD : ∀ p, D' p → D p ∨ ∀ q, t.NbP p q → ∃ j, f q = some j) : RsI t s now lv u0 idn gn nl hl f next h D' :=
  ⟨m.ly.weak hD, m.mm, m.nw, m.nx, m.ln, m.vl, m.mu⟩
theorem mf_rSteps : MT.mf 50 = some ⟨132, [(.tmp 4)], (.seq (.reg [⟨none, some 2, .box 5 (.s 0)⟩, ⟨none, some 3, .box 2 (.s 1)⟩, ⟨none, some 4, .nil0 1⟩]) (.seq (.reg [⟨none, some 5, .nil0 1⟩]) (.seq (.seq (.reg [⟨none, some 6, .mv (.c (.lit (.int .i64 0)))⟩]) (.block 0 (.loop [6, 2, 5, 3] (.seq (.seq (.reg [⟨none, some 14, .mv (.s 6)⟩, ⟨none, some 15, .fa 0 (.s 2)⟩, ⟨none, some 16, .ld none (.s 15)⟩, ⟨none, some 17, .len (.s 16)⟩, ⟨none, some 18, .bin .lss (.s 14) (.s 17)⟩]) (.cond (.s 18) .skip (.exit 0))) (.seq (.block 1 (.seq (.reg [⟨none, some 21, .fa 0 (.s 2)⟩, ⟨none, some 22, .ld none (.s 21)⟩, ⟨none, some 23, .ia 1 (.s 22) (.c (.lit (.int .i64 0)))⟩, ⟨none, some 24, .ld none (.s 23)⟩, ⟨none, some 25, .len (.s 24)⟩, ⟨none, some 26, .mks (.lit (.int .i64 0)) (.s 25)⟩, ⟨none, some 7, .mv (.s 26)⟩]) (.seq (.seq (.reg [⟨none, some 8, .mv (.c (.lit (.int .i64 0)))⟩]) (.block 2 (.loop [8, 7, 5, 6, 2, 3] (.seq (.seq (.reg [⟨none, some 27, .mv (.s 8)⟩, ⟨none, some 28, .mv (.s 7)⟩, ⟨none, some 29, .len (.s 28)⟩, ⟨none, some 30, .bin .lss (.s 27) (.s 29)⟩]) (.cond (.s 30) .skip (.exit 2))) (.seq (.block 3 (.reg [⟨none, some 33, .mv (.s 7)⟩, ⟨none, some 34, .mv (.s 8)⟩, ⟨none, some 35, .ia 1 (.s 33) (.s 34)⟩, ⟨none, none, .st 1 (.s 35) (.c (.lit (.int .i64 (-1))))⟩])) (.reg [⟨none, some 31, .mv (.s 8)⟩, ⟨none, some 32, .bin .add (.s 31) (.c (.lit (.int .i64 1)))⟩, ⟨none, some 8, .mv (.s 32)⟩])))))) (.reg [⟨none, some 36, .mv (.s 5)⟩, ⟨none, some 37, .mv (.s 7)⟩, ⟨none, some 38, .bsl (.lit (.slice none 0 0)) 1 1 [(0, (.s 37))]⟩, ⟨none, some 39, .app 1 (.s 36) (.s 38)⟩, ⟨none, some 5, .mv (.s 39)⟩])))) (.reg [⟨none, some 19, .mv (.s 6)⟩, ⟨none, some 20, .bin .add (.s 19) (.c (.lit (.int .i64 1)))⟩, ⟨none, some 6, .mv (.s 20)⟩])))))) (.seq (.reg [⟨none, some 40, .mv (.s 5)⟩, ⟨none, some 41, .fa 1 (.s 3)⟩, ⟨none, some 42, .ld none (.s 41)⟩, ⟨none, some 43, .ia 1 (.s 40) (.s 42)⟩, ⟨none, some 44, .ld none (.s 43)⟩, ⟨none, some 45, .fa 0 (.s 3)⟩, ⟨none, some 46, .ld none (.s 45)⟩, ⟨none, some 47, .ia 1 (.s 44) (.s 46)⟩, ⟨none, none, .st 1 (.s 47) (.c (.lit (.int .i64 0)))⟩]) (.seq (.reg [⟨none, some 48, .ld (some 2) (.s 3)⟩, ⟨none, some 49, .bsl (.agg [(.lit (.int .i64 0)), (.lit (.int .i64 0))]) 2 1 [(0, (.s 48))]⟩, ⟨none, some 9, .mv (.s 49)⟩]) (.seq (.block 4 (.loop [9, 2, 5] (.seq (.seq (.reg [⟨none, some 50, .mv (.s 9)⟩, ⟨none, some 51, .len (.s 50)⟩, ⟨none, some 52, .bin .gtr (.s 51) (.c (.lit (.int .i64 0)))⟩]) (.cond (.s 52) .skip (.exit 4))) (.block 5 (.seq (.reg [⟨none, some 10, .nil0 2⟩]) (.seq (.seq (.reg [⟨none, some 11, .mv (.c (.lit (.int .i64 0)))⟩]) (.block 6 (.loop [11, 9, 2, 5, 10] (.seq (.seq (.reg [⟨none, some 53, .mv (.s 11)⟩, ⟨none, some 54, .mv (.s 9)⟩, ⟨none, some 55, .len (.s 54)⟩, ⟨none, some 56, .bin .lss (.s 53) (.s 55)⟩]) (.cond (.s 56) .skip (.exit 6))) (.seq (.block 7 (.seq (.reg [⟨none, some 59, .ld (some 5) (.s 2)⟩, ⟨none, some 60, .mv (.s 9)⟩, ⟨none, some 61, .mv (.s 11)⟩, ⟨none, some 62, .ia 2 (.s 60) (.s 61)⟩, ⟨none, some 63, .fa 0 (.s 62)⟩, ⟨none, some 64, .ld none (.s 63)⟩, ⟨none, some 65, .mv (.s 9)⟩, ⟨none, some 66, .mv (.s 11)⟩, ⟨none, some 67, .ia 2 (.s 65) (.s 66)⟩, ⟨none, some 68, .fa 1 (.s 67)⟩, ⟨none, some 69, .ld none (.s 68)⟩, ⟨none, some 70, .call 119 [.s 59, .s 64, .s 69]⟩, ⟨none, some 12, .mv (.s 70)⟩]) (.seq (.reg [⟨none, some 13, .mv (.c (.lit (.int .i64 0)))⟩]) (.block 8 (.loop [13, 12, 5, 9, 11, 10, 2] (.seq (.seq (.reg [⟨none, some 71, .mv (.s 13)⟩, ⟨none, some 72, .mv (.s 12)⟩, ⟨none, some 73, .len (.s 72)⟩, ⟨none, some 74, .bin .lss (.s 71) (.s 73)⟩]) (.cond (.s 74) .skip (.exit 8))) (.seq (.block 9 (.seq (.reg [⟨none, some 77, .mv (.s 5)⟩, ⟨none, some 78, .mv (.s 12)⟩, ⟨none, some 79, .mv (.s 13)⟩, ⟨none, some 80, .ia 2 (.s 78) (.s 79)⟩, ⟨none, some 81, .fa 1 (.s 80)⟩, ⟨none, some 82, .ld none (.s 81)⟩, ⟨none, some 83, .ia 1 (.s 77) (.s 82)⟩, ⟨none, some 84, .ld none (.s 83)⟩, ⟨none, some 85, .mv (.s 12)⟩, ⟨none, some 86, .mv (.s 13)⟩, ⟨none, some 87, .ia 2 (.s 85) (.s 86)⟩, ⟨none, some 88, .fa 0 (.s 87)⟩, ⟨none, some 89, .ld none (.s 88)⟩, ⟨none, some 90, .ia 1 (.s 84) (.s 89)⟩, ⟨none, some 91, .ld none (.s 90)⟩, ⟨none, some 92, .bin .lss (.s 91) (.c (.lit (.int .i64 0)))⟩]) (.cond (.s 92) (.seq (.reg [⟨none, some 93, .mv (.s 5)⟩, ⟨none, some 94, .mv (.s 12)⟩, ⟨none, some 95, .mv (.s 13)⟩, ⟨none, some 96, .ia 2 (.s 94) (.s 95)⟩, ⟨none, some 97, .fa 1 (.s 96)⟩, ⟨none, some 98, .ld none (.s 97)⟩, ⟨none, some 99, .ia 1 (.s 93) (.s 98)⟩, ⟨none, some 100, .ld none (.s 99)⟩, ⟨none, some 101, .mv (.s 12)⟩, ⟨none, some 102, .mv (.s 13)⟩, ⟨none, some 103, .ia 2 (.s 101) (.s 102)⟩, ⟨none, some 104, .fa 0 (.s 103)⟩, ⟨none, some 105, .ld none (.s 104)⟩, ⟨none, some 106, .mv (.s 5)⟩, ⟨none, some 107, .mv (.s 9)⟩, ⟨none, some 108, .mv (.s 11)⟩, ⟨none, some 109, .ia 2 (.s 107) (.s 108)⟩, ⟨none, some 110, .fa 1 (.s 109)⟩, ⟨none, some 111, .ld none (.s 110)⟩, ⟨none, some 112, .ia 1 (.s 106) (.s 111)⟩, ⟨none, some 113, .ld none (.s 112)⟩, ⟨none, some 114, .mv (.s 9)⟩, ⟨none, some 115, .mv (.s 11)⟩, ⟨none, some 116, .ia 2 (.s 114) (.s 115)⟩, ⟨none, some 117, .fa 0 (.s 116)⟩, ⟨none, some 118, .ld none (.s 117)⟩, ⟨none, some 119, .ia 1 (.s 113) (.s 118)⟩, ⟨none, some 120, .ld none (.s 119)⟩, ⟨none, some 121, .bin .add (.s 120) (.c (.lit (.int .i64 1)))⟩, ⟨none, some 122, .ia 1 (.s 100) (.s 105)⟩, ⟨none, none, .st 1 (.s 122) (.s 121)⟩]) (.reg [⟨none, some 123, .mv (.s 10)⟩, ⟨none, some 124, .mv (.s 12)⟩, ⟨none, some 125, .mv (.s 13)⟩, ⟨none, some 126, .ia 2 (.s 124) (.s 125)⟩, ⟨none, some 127, .ld (some 2) (.s 126)⟩, ⟨none, some 128, .bsl (.agg [(.lit (.int .i64 0)), (.lit (.int .i64 0))]) 2 1 [(0, (.s 127))]⟩, ⟨none, some 129, .app 2 (.s 123) (.s 128)⟩, ⟨none, some 10, .mv (.s 129)⟩])) .skip))) (.reg [⟨none, some 75, .mv (.s 13)⟩, ⟨none, some 76, .bin .add (.s 75) (.c (.lit (.int .i64 1)))⟩, ⟨none, some 13, .mv (.s 76)⟩])))))))) (.reg [⟨none, some 57, .mv (.s 11)⟩, ⟨none, some 58, .bin .add (.s 57) (.c (.lit (.int .i64 1)))⟩, ⟨none, some 11, .mv (.s 58)⟩])))))) (.reg [⟨none, some 130, .mv (.s 10)⟩, ⟨none, some 9, .mv (.s 130)⟩]))))))) (.seq (.reg [⟨none, some 131, .mv (.s 5)⟩, ⟨none, some 4, .mv (.s 131)⟩]) .ret)))))))⟩ := by kernel_rfl
end Go.Proofs.Ytgjpdjihjphbdaa
