/- The law of surfaces: the walk. -/
import Derived.Test.YtgjpdjihjphbdaaSurfacesProofsPd
/- The contract of lowest: heights are raised along a queue. -/
namespace Go.Proofs.Ytgjpdjihjphbdaa
open Go.RowKit
set_option linter.unusedVariables false

def rRow (H W y : Nat) : List MV := (List.range H).map fun j => if j < y then .arr (4 + j) 0 W 0 else .lit (.slice none 0 0)
theorem rRow_at {H W y j : Nat} (h : j < H) : (rRow H W y)[j]? = some (if j < y then .arr (4 + j) 0 W 0 else .lit (.slice none 0 0)) := rng_get _ h
theorem rRow_zero (H W : Nat) : rRow H W 0 = List.replicate H (.lit (.slice none 0 0)) := by
  apply List.ext_getElem?
  intro j
  by_cases hj : j < H
  · rw [rRow_at hj, List.getElem?_replicate, if_pos hj]; rfl
  · rw [List.getElem?_eq_none (by simp [rRow]; omega), List.getElem?_replicate, if_neg hj]
theorem rRow_set {H W y : Nat} : (rRow H W y).set (0 + ((y : Nat) : Int).toNat) (.arr (4 + y) 0 W 0) = rRow H W (y + 1) := by
  rw [Nat.zero_add, Int.toNat_natCast]
  unfold rRow
  rw [rng_set]
  refine rng_congr fun j hj => ?_
  by_cases h : j = y
  · subst h; rw [if_pos rfl, if_pos (by omega)]
  · rw [if_neg h]
    by_cases h2 : j < y
    · rw [if_pos h2, if_pos (by omega)]
    · rw [if_neg h2, if_neg (by omega)]
theorem rRow_lt {H W y : Nat} (h : y < H) : ltL 4 (rRow H W (y + 1)) = false := by
  rw [Bool.eq_false_iff]
  intro hc
  have h1 := rRow_at (W := W) (y := y + 1) h
  rw [if_pos (by omega)] at h1
  have := ltL_iff'.1 hc _ (List.mem_of_getElem? h1)
  simp [MV.lt] at this
  try omega
theorem HeadIs.cellE {keep : List Nat} {m : Nat} {A : Sl} {h h1 : MHeap} (e : h = h1) (hn : hltL m (h1.take m) = false) : HeadIs keep m A h h1 := by
  subst e; exact .cell hn
abbrev loH (t : Tk) (y : Nat) : MHeap := [⟨0, false, 9, [encO t]⟩, ⟨0, true, 1, []⟩, ⟨0, false, 1, rRow t.ter.length t.W y⟩, ⟨0, false, 1, [.arr 2 0 t.ter.length 0]⟩] ++ List.replicate y ⟨0, false, 1, List.replicate t.W (I64 0)⟩
theorem loH_len (t : Tk) (y : Nat) : (loH t y).length = 4 + y := by simp [loH]; omega
theorem loH_get {t : Tk} {y : Nat} (hy : y < t.ter.length) : (loH t t.ter.length)[4 + y]? = some ⟨0, false, 1, List.replicate t.W (I64 0)⟩ := by
  unfold loH
  rw [List.getElem?_append_right (by simp)]
  rw [List.getElem?_replicate, if_pos (by simp; try omega)]
theorem zeros_at {H W : Nat} {y : Nat} (hy : y < H) : (List.replicate H (List.replicate W (0 : Int))).getD y [] = List.replicate W 0 := by
  rw [List.getD_eq_getElem?_getD, List.getElem?_replicate, if_pos hy]; rfl
/-- The memory when nodes are visited first. -/
theorem loM0 (t : Tk) (ok : OkT t) : LoM t (fun n => n = 5 + t.ter.length) (List.replicate t.ter.length (List.replicate t.W 0)) 0 (.lit (.slice none 0 0)) [] (loH t t.ter.length ++ [⟨0, false, 1, [.lit (.slice none 0 0)]⟩]) := by
  have hL := loH_len t t.ter.length
  have hfull : Full (loH t t.ter.length ++ [(⟨0, false, 1, [.lit (.slice none 0 0)]⟩ : MObj)]) := by
    refine Full.app1 ⟨Nat.le_refl _, fun j o hj ho => ?_⟩ rfl
    rw [hL] at hj ⊢
    have hm := List.mem_of_getElem? ho
    simp only [loH, List.cons_append, List.nil_append, List.mem_cons, List.mem_replicate] at hm
    rcases hm with rfl | rfl | rfl | rfl | ⟨_, rfl⟩
    · simp [ltL, MV.lt, ltL_I, ltL_W, ltL_B]
    · rfl
    · refine ltL_iff'.2 fun m hm => ?_
      obtain ⟨i, hi⟩ := List.getElem?_of_mem hm
      have hi2 : i < t.ter.length := by have := (List.getElem?_eq_some_iff.1 hi).1; simpa [rRow] using this
      rw [rRow_at hi2, if_pos hi2] at hi
      cases hi
      simp [MV.lt]; omega
    · simp [ltL, MV.lt]; omega
    · refine ltL_iff'.2 fun m hm => ?_
      rw [List.mem_replicate] at hm
      rw [hm.2]; rfl
  refine ⟨rfl, rfl, ⟨⟨rRow t.ter.length t.W t.ter.length, rfl, by simp [rRow], fun y hy => by rw [rRow_at hy, if_pos hy]⟩, fun y hy => ?_, by simp, fun y hy => by rw [zeros_at hy]; simp, fun y y' _ _ h => Nat.add_left_cancel h, fun y hy => by show 4 + y ≠ 2; omega⟩, ?_, .nil, hfull, fun n hn => ?_⟩
  · rw [zeros_at hy]
    show (loH t t.ter.length ++ _)[4 + y]? = _
    rw [List.getElem?_append_left (by omega), loH_get hy]
    simp
  · rw [List.getElem?_append_right (by omega), hL]; simp
  · subst hn
    refine ⟨Nat.le_refl _, ?_⟩
    have := hfull
    unfold Full at this
    rw [List.length_append, hL] at this
    simpa [Nat.add_comm, Nat.add_left_comm, Nat.add_assoc] using this
theorem nodesP_mem {H W y x : Nat} : (y, x) ∈ nodesP H W ↔ y < H ∧ x < W := by
  unfold nodesP
  simp only [List.mem_flatMap, List.mem_range, List.mem_map, Prod.mk.injEq]
  constructor
  · rintro ⟨a, h1, b, h2, rfl, rfl⟩; exact ⟨h1, h2⟩
  · rintro ⟨h1, h2⟩; exact ⟨y, h1, x, h2, rfl, rfl⟩
theorem nodesP_len (H W : Nat) : (nodesP H W).length = H * W := by
  induction H with
  | zero => simp [nodesP]
  | succ n ih => rw [nodesP_succ, List.length_append, ih, List.length_map, List.length_range, Nat.succ_mul]
theorem mf_lowest : MT.mf 115 = some ⟨96, [(.tmp 2)], (.seq (.reg [⟨none, (some 1), (.box 9 (.s 0))⟩, ⟨none, (some 2), (.nil0 1)⟩]) (.seq (.reg [⟨none, (some 10), (.fa 6 (.s 1))⟩, ⟨none, (some 11), (.ld none (.s 10))⟩, ⟨none, (some 12), (.mks (.lit (.slice none 0 0)) (.s 11))⟩, ⟨none, (some 3), (.new (.lit (.slice none 0 0)))⟩, ⟨none, none, (.st 1 (.s 3) (.s 12))⟩]) (.seq (.seq (.reg [⟨none, (some 13), (.ld none (.s 3))⟩, ⟨none, (some 14), (.len (.s 13))⟩, ⟨none, (some 15), (.mv (.c (.lit (.int .i64 0))))⟩]) (.block 0 (.loop [15, 14, 3, 1] (.seq (.reg [⟨none, (some 16), (.bin .lss (.s 15) (.s 14))⟩]) (.seq (.cond (.s 16) .skip (.exit 0)) (.seq (.block 1 (.seq (.reg [⟨none, (some 17), (.mv (.s 15))⟩, ⟨none, (some 4), (.mv (.s 17))⟩]) (.reg [⟨none, (some 18), (.ld none (.s 3))⟩, ⟨none, (some 19), (.mv (.s 4))⟩, ⟨none, (some 20), (.fa 5 (.s 1))⟩, ⟨none, (some 21), (.ld none (.s 20))⟩, ⟨none, (some 22), (.mks (.lit (.int .i64 0)) (.s 21))⟩, ⟨none, (some 23), (.ia 1 (.s 18) (.s 19))⟩, ⟨none, none, (.st 1 (.s 23) (.s 22))⟩]))) (.reg [⟨none, (some 24), (.bin .add (.s 15) (.c (.lit (.int .i64 1))))⟩, ⟨none, (some 15), (.mv (.s 24))⟩]))))))) (.seq (.reg [⟨none, (some 5), (.new (.lit (.slice none 0 0)))⟩]) (.seq (.seq (.reg [⟨none, (some 25), (.ld (some 9) (.s 1))⟩, ⟨none, (some 26), (.mf 114 1 [(.s 25)])⟩]) (.block 2 (.rf [1, 3, 5] (.s 26) [27] (.reg [⟨none, (some 6), (.new (.agg [(.lit (.int .i64 0)), (.lit (.int .i64 0))]))⟩, ⟨none, none, (.st 2 (.s 6) (.s 27))⟩]) (.block 3 (.seq (.reg [⟨none, (some 28), (.ld (some 9) (.s 1))⟩, ⟨none, (some 29), (.ld (some 2) (.s 6))⟩, ⟨none, (some 30), (.call 116 [(.s 28), (.s 29)])⟩]) (.cond (.s 30) (.seq (.reg [⟨none, (some 31), (.ld none (.s 3))⟩, ⟨none, (some 32), (.fa 1 (.s 6))⟩, ⟨none, (some 33), (.ld none (.s 32))⟩, ⟨none, (some 34), (.ia 1 (.s 31) (.s 33))⟩, ⟨none, (some 35), (.ld none (.s 34))⟩, ⟨none, (some 36), (.fa 0 (.s 6))⟩, ⟨none, (some 37), (.ld none (.s 36))⟩, ⟨none, (some 38), (.ld (some 9) (.s 1))⟩, ⟨none, (some 39), (.ld (some 2) (.s 6))⟩, ⟨none, (some 40), (.call 117 [(.s 38), (.s 39)])⟩, ⟨none, (some 41), (.ia 1 (.s 35) (.s 37))⟩, ⟨none, none, (.st 1 (.s 41) (.s 40))⟩]) (.reg [⟨none, (some 42), (.ld none (.s 5))⟩, ⟨none, (some 43), (.ld (some 2) (.s 6))⟩, ⟨none, (some 44), (.bsl (.agg [(.lit (.int .i64 0)), (.lit (.int .i64 0))]) 2 1 [(0, (.s 43))])⟩, ⟨none, (some 45), (.app 2 (.s 42) (.s 44))⟩, ⟨none, none, (.st 1 (.s 5) (.s 45))⟩])) .skip)))))) (.seq (.block 4 (.loop [5, 1, 3] (.seq (.seq (.reg [⟨none, (some 46), (.ld none (.s 5))⟩, ⟨none, (some 47), (.len (.s 46))⟩, ⟨none, (some 48), (.bin .gtr (.s 47) (.c (.lit (.int .i64 0))))⟩]) (.cond (.s 48) .skip (.exit 4))) (.block 5 (.seq (.reg [⟨none, (some 49), (.ld none (.s 5))⟩, ⟨none, (some 50), (.ia 2 (.s 49) (.c (.lit (.int .i64 0))))⟩, ⟨none, (some 51), (.ld (some 2) (.s 50))⟩, ⟨none, (some 7), (.new (.agg [(.lit (.int .i64 0)), (.lit (.int .i64 0))]))⟩, ⟨none, none, (.st 2 (.s 7) (.s 51))⟩]) (.seq (.reg [⟨none, (some 52), (.ld none (.s 5))⟩, ⟨none, (some 53), (.slc 2 (.s 52) (some (.c (.lit (.int .i64 1)))) none)⟩, ⟨none, none, (.st 1 (.s 5) (.s 53))⟩]) (.seq (.reg [⟨none, (some 54), (.ld (some 9) (.s 1))⟩, ⟨none, (some 55), (.ld (some 2) (.s 7))⟩, ⟨none, (some 56), (.call 154 [(.s 54), (.s 55)])⟩]) (.block 6 (.rf [3, 7, 1, 5] (.s 56) [57] (.reg [⟨none, (some 8), (.new (.agg [(.lit (.int .i64 0)), (.lit (.int .i64 0))]))⟩, ⟨none, none, (.st 2 (.s 8) (.s 57))⟩]) (.block 7 (.seq (.reg [⟨none, (some 58), (.ld none (.s 3))⟩, ⟨none, (some 59), (.fa 1 (.s 7))⟩, ⟨none, (some 60), (.ld none (.s 59))⟩, ⟨none, (some 61), (.ia 1 (.s 58) (.s 60))⟩, ⟨none, (some 62), (.ld none (.s 61))⟩, ⟨none, (some 63), (.fa 0 (.s 7))⟩, ⟨none, (some 64), (.ld none (.s 63))⟩, ⟨none, (some 65), (.ia 1 (.s 62) (.s 64))⟩, ⟨none, (some 66), (.ld none (.s 65))⟩, ⟨none, (some 67), (.fa 0 (.s 1))⟩, ⟨none, (some 68), (.fa 4 (.s 67))⟩, ⟨none, (some 69), (.ld none (.s 68))⟩, ⟨none, (some 70), (.bin .sub (.s 66) (.s 69))⟩, ⟨none, (some 9), (.mv (.s 70))⟩]) (.seq (.reg [⟨none, (some 71), (.mv (.s 9))⟩, ⟨none, (some 72), (.ld none (.s 3))⟩, ⟨none, (some 73), (.fa 1 (.s 8))⟩, ⟨none, (some 74), (.ld none (.s 73))⟩, ⟨none, (some 75), (.ia 1 (.s 72) (.s 74))⟩, ⟨none, (some 76), (.ld none (.s 75))⟩, ⟨none, (some 77), (.fa 0 (.s 8))⟩, ⟨none, (some 78), (.ld none (.s 77))⟩, ⟨none, (some 79), (.ia 1 (.s 76) (.s 78))⟩, ⟨none, (some 80), (.ld none (.s 79))⟩, ⟨none, (some 81), (.bin .gtr (.s 71) (.s 80))⟩]) (.cond (.s 81) (.seq (.reg [⟨none, (some 82), (.ld none (.s 3))⟩, ⟨none, (some 83), (.fa 1 (.s 8))⟩, ⟨none, (some 84), (.ld none (.s 83))⟩, ⟨none, (some 85), (.ia 1 (.s 82) (.s 84))⟩, ⟨none, (some 86), (.ld none (.s 85))⟩, ⟨none, (some 87), (.fa 0 (.s 8))⟩, ⟨none, (some 88), (.ld none (.s 87))⟩, ⟨none, (some 89), (.mv (.s 9))⟩, ⟨none, (some 90), (.ia 1 (.s 86) (.s 88))⟩, ⟨none, none, (.st 1 (.s 90) (.s 89))⟩]) (.reg [⟨none, (some 91), (.ld none (.s 5))⟩, ⟨none, (some 92), (.ld (some 2) (.s 8))⟩, ⟨none, (some 93), (.bsl (.agg [(.lit (.int .i64 0)), (.lit (.int .i64 0))]) 2 1 [(0, (.s 92))])⟩, ⟨none, (some 94), (.app 2 (.s 91) (.s 93))⟩, ⟨none, none, (.st 1 (.s 5) (.s 94))⟩])) .skip))))))))))))) (.seq (.reg [⟨none, (some 95), (.ld none (.s 3))⟩, ⟨none, (some 2), (.mv (.s 95))⟩]) .ret)))))))⟩ := by kernel_rfl
set_option maxHeartbeats 4000000 in
theorem lowest_z (k : Nat) (t : Tk) (ok : OkT t) {g : List (List Int)} (hg : Lea t g) : runZ MT (orA (k + 4)) (itA (k + 4)) 4000000 115 [encO t] [] = some (.arr 0 0 t.ter.length 0, [⟨0, false, 1, g.map encW⟩]) := by
  obtain ⟨h1, h2⟩ := ok.h1
  obtain ⟨w1, w2⟩ := ok.w1
  refine runZ_of mf_lowest (by simp) ?_
  simp only [argsL]
  repeat (first | apply ef_seq | (apply ef_mv; exact rfl; exact rfl) | (apply ef_len; exact rfl; exact rfl; (exact rfl)) | (apply ef_ldp; exact rfl; exact rfl; (exact rfl); exact rfl; (exact rfl); (exact rfl)) | (apply ef_fap; exact rfl; exact rfl) | (apply ef_box; exact rfl; exact rfl; exact rfl; exact rfl) | (apply ef_newst; exact rfl; exact rfl; exact rfl; exact rfl; exact rfl) | (apply ef_nil0; exact rfl) | (apply ef_mks; exact rfl; exact rfl; (omega); (omega)) | apply ef_nil | apply seqQ.normal | apply ef_block)
  refine ef_loopg (α := Nat) (fun y => y ≤ t.ter.length) (fun y => [(15, I64 (y : Int))]) [(14, _), (3, .ptr 3 0 0 0), (1, .ptr 0 0 0 0)] (fun y => loH t y) (fun y => t.ter.length - y) 0 [15] (fun _ => rfl) (by ((repeat (refine Hold.cons (by exact rfl) ?_)); exact Hold.nil)) (by ((repeat (refine Hold.cons (by exact rfl) ?_)); exact Hold.nil)) rfl rfl (by rw [loH, rRow_zero]; rfl) (by simp) (by simp; omega) ?_
  intro y hy
  by_cases hlt : y < t.ter.length
  · have hcell : (rRow t.ter.length t.W y)[0 + ((y : Nat) : Int).toNat]? = some (.lit (.slice none 0 0)) := by
      rw [Nat.zero_add, Int.toNat_natCast, rRow_at hlt, if_neg (by omega)]
    repeat (first | apply ef_seq | (apply ef_mv; exact rfl; exact rfl) | (apply ef_bin; exact rfl; exact rfl; exact rfl; (first | exact cmp_t rfl (by first | exact rfl | (simp only [cmpP]; omega)) | ((with_reducible refine bin_add (wrap_of ?_ ?_)) <;> omega))) | (apply ef_ldp; exact rfl; exact rfl; (exact rfl); exact rfl; (exact rfl); (exact rfl)) | (apply ef_iaa; exact rfl; exact rfl; exact rfl; (omega); (omega); (exact rfl)) | (apply ef_fap; exact rfl; exact rfl) | (apply ef_mks; exact rfl; exact rfl; (omega); (omega)) | (apply ef_st; exact rfl; exact rfl; exact rfl; exact rfl; exact rfl; exact rfl; (assumption); exact rfl) | apply ef_nil | apply seqQ.normal | apply blockQ.normal | apply ef_block | apply ef_skip | (apply ef_condt; exact rfl; (exact (rfl : true = true))))
    refine loopQ.normal _ _ ⟨y + 1, hlt, by omega, ⟨by ((repeat (refine Hold.cons (by exact rfl) ?_)); exact Hold.nil), by ((repeat (refine Hold.cons (by exact rfl) ?_)); exact Hold.nil)⟩, HeadIs.cellE ?_ (hltL_no (m := 4) (j := 2) (o := ⟨0, false, 1, rRow t.ter.length t.W (y + 1)⟩) (by decide) rfl (rRow_lt hlt))⟩
    show List.set (loH t y ++ [⟨0, false, 1, List.replicate ((t.W : Int)).toNat (I64 0)⟩]) 2 ⟨0, false, 1, (rRow t.ter.length t.W y).set (0 + ((y : Nat) : Int).toNat) (.arr (loH t y).length 0 ((t.W : Int)).toNat 0)⟩ = _
    rw [loH_len, Int.toNat_natCast t.W, rRow_set]
    simp [loH, List.replicate_succ']
  · obtain rfl : y = t.ter.length := by omega
    repeat (first | apply ef_seq | (apply ef_bin; exact rfl; exact rfl; exact rfl; (exact cmp_f rfl (by simp only [cmpP]; omega))) | (apply ef_ldp; exact rfl; exact rfl; (exact rfl); exact rfl; (exact rfl); (exact rd_whole rfl)) | (apply ef_new; exact rfl) | (apply ef_mf; exact rfl; (repeat (apply XVs.cons; exact rfl)); exact XVs.nil) | apply ef_nil | apply seqQ.normal | apply loopQ.exit | apply ef_exit | apply seqQ.exit | apply blockQ.here | apply ef_block | (apply ef_condf; exact rfl; (exact (rfl : false = false))))
    rw [loH_len]
    have hm0 := loM0 t ok
    show Ef _ _ _ _ _ _ _ (loH t t.ter.length ++ [⟨0, false, 1, [.lit (.slice none 0 0)]⟩]) _
    have hlen0 : (loH t t.ter.length ++ [(⟨0, false, 1, [.lit (.slice none 0 0)]⟩ : MObj)]).length = 5 + t.ter.length := by rw [List.length_append, loH_len]; simp; omega
    generalize (loH t t.ter.length ++ [(⟨0, false, 1, [.lit (.slice none 0 0)]⟩ : MObj)]) = hh0 at *
    refine ef_rf (α := List (List Int) × Nat × MV × List (Nat × Nat) × MHeap) (ids := [])
      (fun i s => Shp t s.1 ∧ (∀ y x, y < t.H → x < t.W → at2 s.1 y x = if (y, x) ∈ (nodesP t.ter.length t.W).take i then t.base y x else 0) ∧ s.2.2.2.1 = ((nodesP t.ter.length t.W).take i).filter (fun p => t.fl p.1 p.2) ∧ s.2.1 ≤ i ∧ LoM t (fun n => s.2.2.2.1 = [] ∧ n = 5 + t.ter.length) s.1 s.2.1 s.2.2.1 s.2.2.2.1 s.2.2.2.2 ∧ (s.2.2.2.1 = [] → s.2.2.1 = .lit (.slice none 0 0)) ∧ (s.2.2.2.1 ≠ [] → s.2.2.1.lt (5 + t.ter.length) = false ∧ s.2.2.1 ≠ .lit (.slice none 0 0)))
      [(1, .ptr 0 0 0 0), (3, .ptr 3 0 0 0), (5, .ptr (4 + t.ter.length) 0 0 0)] (fun s => s.2.2.2.2) (fun s => if s.2.2.2.1 = [] then s.2.2.2.2.take (5 + t.ter.length) else s.2.2.2.2)
      (List.replicate t.ter.length (List.replicate t.W 0), 0, .lit (.slice none 0 0), [], hh0) (by exact rfl) (nodes_it (k + 4) t ok _) (by simp [posY]) (idsL_lt0 (by simp [ltL, MV.lt, ltL_I, ltL_W, ltL_B])) (by ((repeat (refine Hold.cons (by exact rfl) ?_)); exact Hold.nil)) rfl rfl rfl ⟨⟨by simp [Tk.H], fun y h => by simp⟩, fun y x hy hx => by
        simp only [List.take_zero, List.not_mem_nil, if_false]
        unfold at2
        rw [zeros_at (H := t.ter.length) hy, List.getD_eq_getElem?_getD, List.getElem?_replicate, if_pos hx]; rfl, rfl, by simp, hm0.less fun n h => h.2, fun _ => rfl, fun h => absurd rfl h⟩ rfl ?_ ?_ ?_
    · rintro i ⟨s, B, qv, Q, h⟩ ⟨_, _, _, _, hm, _, hq⟩
      simp only at hm hq ⊢
      rw [hlen0]
      by_cases hQ : Q = []
      · rw [if_pos hQ]
        refine HeadIs.tk (hm.lv _ ⟨hQ, rfl⟩).2 fun u hu => ?_
        simp only [List.mem_cons, List.not_mem_nil, or_false] at hu
        rcases hu with rfl | rfl | rfl
        · exact ⟨.ptr 0 0 0 0, by exact rfl, by simp [MV.lt]; omega⟩
        · exact ⟨.ptr 3 0 0 0, by exact rfl, by simp [MV.lt]; omega⟩
        · exact ⟨.ptr (4 + t.ter.length) 0 0 0, by exact rfl, by simp [MV.lt]⟩
      · rw [if_neg hQ]
        exact .cell (hltL_no (j := 4 + t.ter.length) (by omega) hm.qc (by simp [ltL, (hq hQ).1]))
    · rintro i ⟨s, B, qv, Q, h⟩ x hx ⟨hsh, hat, hQ, hB, hm, hq1, hq2⟩
      simp only at hsh hat hQ hB hm hq1 hq2 ⊢
      obtain ⟨⟨y, x⟩, hp, rfl⟩ : ∃ p, (nodesP t.ter.length t.W)[i]? = some p ∧ x = [posM p] := by
        simp only [posY, List.getElem?_map, Option.map_eq_some_iff] at hx
        obtain ⟨w, h1, h2⟩ := hx
        exact ⟨w, h1, h2.symm⟩
      obtain ⟨hy, hxw⟩ := nodesP_mem.1 (List.mem_of_getElem? hp)
      have hi := (List.getElem?_eq_some_iff.1 hp).1
      have htk : (nodesP t.ter.length t.W).take (i + 1) = (nodesP t.ter.length t.W).take i ++ [(y, x)] := by rw [List.take_add_one, hp]; rfl
      have hm1 : LoM t (fun n => Q = [] ∧ n = 5 + t.ter.length) s B qv Q (if Q = [] then h.take (5 + t.ter.length) else h) := by
        by_cases hQ0 : Q = []
        · rw [if_pos hQ0]
          exact hm.take ⟨hQ0, rfl⟩ fun k hk => by omega
        · rw [if_neg hQ0]; exact hm
      generalize (if Q = [] then h.take (5 + t.ter.length) else h) = hh at *
      simp only [putA]
      have hm2 := hm1.app1 ⟨0, false, 2, [posM (y, x)]⟩ rfl
      have hpc : (hh ++ [(⟨0, false, 2, [posM (y, x)]⟩ : MObj)])[hh.length]? = some ⟨0, false, 2, [posM (y, x)]⟩ := at_end _ _
      have hpl := hm1.len
      have f0 := hm2.b0
      have f3 := hm2.b3
      have fq := hm2.qc
      obtain ⟨refs, r1, r2, r3, r4, r5, r6⟩ := hm2.sf.rd hy hxw
      try simp only at r3 r4 r5
      repeat (first | (apply ef_newst; exact rfl; exact rfl; exact rfl; exact rfl; exact rfl) | apply ef_nil)
      apply preQ.normal
      cases hf : t.fl y x
      · have hfl := fun h => flown_c (k + 1) t (x : Int) (y : Int) h (by omega) (by omega) ((t.flI_nat hy hxw).trans hf)
        repeat (first | apply ef_seq | (apply ef_ldp; exact rfl; exact rfl; (assumption); exact rfl; (exact rfl); (first | exact rd_2 rfl rfl | exact rd_whole rfl)) | apply ef_nil | apply seqQ.normal | apply blockQ.normal | apply ef_block | apply ef_skip | (apply ef_condf; exact rfl; (exact (rfl : false = false))) | (apply ef_call; exact rfl; ((repeat (apply XVs.cons; exact rfl)); exact XVs.nil); (with_reducible exact hfl _)))
        apply rfQ.normal
        refine ⟨(s, B, qv, Q, hh ++ [⟨0, false, 2, [posM (y, x)]⟩]), ⟨hsh, fun a b ha hb => ?_, ?_, by simp only; omega, hm2, hq1, hq2⟩, rfl⟩
        · simp only
          rw [hat a b ha hb, htk]
          by_cases e : (a, b) = (y, x)
          · cases e
            have : t.base y x = 0 := by simp [Tk.base, hf]
            simp [this]
          · simp [List.mem_append, e]
        · simp only
          rw [hQ, htk, List.filter_append]
          simp [hf]
      · have hfl := fun h => flown_c (k + 1) t (x : Int) (y : Int) h (by omega) (by omega) ((t.flI_nat hy hxw).trans hf)
        have hown := fun h => own_c (k + 3) t ok hy hxw h
        repeat (first | apply ef_seq | (apply ef_ldp; exact rfl; exact rfl; (assumption); exact rfl; (first | exact rfl | assumption); (first | exact rd_2 rfl rfl | exact rd_whole rfl | exact rfl)) | (apply ef_iaa; exact rfl; exact rfl; exact rfl; (omega); (omega); (assumption)) | (apply ef_fap; exact rfl; exact rfl) | apply ef_nil | apply seqQ.normal | apply ef_block | (apply ef_condt; exact rfl; (exact (rfl : true = true))) | (apply ef_call; exact rfl; ((repeat (apply XVs.cons; exact rfl)); exact XVs.nil); (with_reducible first | exact hfl _ | exact hown _)))
        refine ef_st (o := ⟨0, false, 1, (s.getD y []).map I64⟩) (v := I64 (t.need y x)) (by exact rfl) rfl (by exact rfl) r4 rfl rfl r6 rfl ?_
        have m3 := hm2.put (x := x) (v := t.need y x) hy
        have hpc3 : ((hh ++ [(⟨0, false, 2, [posM (y, x)]⟩ : MObj)]).set (4 + y) ⟨0, false, 1, ((s.getD y []).map I64).set x (I64 (t.need y x))⟩)[hh.length]? = some ⟨0, false, 2, [posM (y, x)]⟩ := by
          rw [List.getElem?_set_ne (by omega)]; exact hpc
        show Ef _ _ _ _ _ _ _ ((hh ++ [(⟨0, false, 2, [posM (y, x)]⟩ : MObj)]).set (4 + y) ⟨0, false, 1, ((s.getD y []).map I64).set (0 + ((x : Nat) : Int).toNat) (I64 (t.need y x))⟩) _
        rw [show 0 + ((x : Nat) : Int).toNat = x by simp]
        clear f0 f3 fq r1 r2 r3 r4 r5 r6 hpc
        generalize ((hh ++ [(⟨0, false, 2, [posM (y, x)]⟩ : MObj)]).set (4 + y) ⟨0, false, 1, ((s.getD y []).map I64).set x (I64 (t.need y x))⟩) = h3 at m3 hpc3 ⊢
        have fq := m3.qc
        have hset := fun a b => at2_set (g := s) (y := y) (x := x) (y' := a) (x' := b) (v := t.need y x) (by rw [hsh.hl]; exact hy) (by rw [hsh.row hy]; exact hxw)
        have hat2 : ∀ a b, a < t.H → b < t.W → at2 (set2 s y x (t.need y x)) a b = if (a, b) ∈ (nodesP t.ter.length t.W).take (i + 1) then t.base a b else 0 := fun a b ha hb => by
          rw [hset, hat a b ha hb, htk]
          by_cases e : a = y ∧ b = x
          · obtain ⟨rfl, rfl⟩ := e
            simp [Tk.base, hf]
          · rw [if_neg e]
            have : ¬ ((a, b) = (y, x)) := fun h => e (by cases h; exact ⟨rfl, rfl⟩)
            simp [List.mem_append, this]
        have hfil : ((nodesP t.ter.length t.W).take (i + 1)).filter (fun p => t.fl p.1 p.2) = Q ++ [(y, x)] := by
          rw [htk, List.filter_append, ← hQ]
          simp [hf]
        have hnl : i < 144 := by
          rw [nodesP_len] at hi
          have := Nat.mul_le_mul h2 w2
          omega
        have hl3 := m3.len
        repeat (first | apply ef_nil | apply seqQ.normal)
        (apply ef_ldp; (· exact rfl); (· exact rfl); (· exact fq); (· exact rfl); (· exact rfl); (· exact m3.qu.cell))
        repeat (first | (apply ef_ldp; exact rfl; exact rfl; (assumption); exact rfl; (exact rfl); (exact rd_2 rfl rfl)) | (apply ef_bsl; exact rfl; (repeat (apply XVs.cons; exact rfl)); exact XVs.nil; exact rfl))
        by_cases hQ0 : Q = []
        · have hqn := hq1 hQ0
          rw [hQ0, hqn] at m3
          rw [hQ0, List.nil_append] at hfil
          subst hqn
          (apply ef_pushN (t := t) (q := (y, x)); (· exact rfl); (· exact rfl); (· exact rfl); (· exact fun _ => rfl); (· exact fun _ => rfl); (· exact m3))
          intro h4 qv4 m4 n4 l4
          repeat (first | apply ef_nil | apply blockQ.normal)
          apply rfQ.normal
          exact ⟨(set2 s y x (t.need y x), B + 1, qv4, [(y, x)], h4), ⟨hsh.set hy, hat2, hfil.symm, by simp only; omega, m4.less (fun n hn => by cases hn.1), (fun h => by cases h), fun _ => ⟨l4 _ (by omega), n4⟩⟩, rfl⟩
        · obtain ⟨q1, q2⟩ := hq2 hQ0
          (apply ef_pushA (t := t) (q := (y, x)); (· exact rfl); (· exact rfl); (· exact rfl); (· exact fun _ => rfl); (· exact fun _ => rfl); (· exact m3); (· exact q2); (· omega))
          intro h4 qv4 m4 n4 l4 _ _
          repeat (first | apply ef_nil | apply blockQ.normal)
          apply rfQ.normal
          exact ⟨(set2 s y x (t.need y x), B + 1, qv4, Q ++ [(y, x)], h4), ⟨hsh.set hy, hat2, hfil.symm, by simp only; omega, m4.less (fun n hn => by have := hn.1; simp at this), (fun h => by simp at h), fun _ => ⟨by rw [l4]; exact q1, n4⟩⟩, rfl⟩
    · rintro ⟨s, B, qv, Q, h⟩ ⟨hsh, hat, hQ, hB, hm, hq1, hq2⟩
      simp only at hsh hat hQ hB hm hq1 hq2 ⊢
      have hlenY : (posY (nodesP t.ter.length t.W)).length = (nodesP t.ter.length t.W).length := by simp [posY]
      rw [hlenY, List.take_length] at hQ hat
      rw [hlenY, nodesP_len] at hB
      have hs0 : s = t.s0 := hsh.ext (s0_shp t) fun y x hy hx => by rw [hat y x hy hx, if_pos (nodesP_mem (H := t.ter.length).2 ⟨hy, hx⟩), s0_at hy hx]
      have h144 : t.ter.length * t.W ≤ 12 * 12 := Nat.mul_le_mul h2 w2
      have hQl : Q.length ≤ 144 := by
        rw [hQ]
        have := List.length_filter_le (fun p => t.fl p.1 p.2) (nodesP t.ter.length t.W)
        rw [nodesP_len] at this
        omega
      have hqi : QuI t s Q none := by
        subst hs0
        refine ⟨s0_pre t, fun p hp => ?_, fun y x hy hx hf hn _ => ?_⟩
        · rw [hQ, List.mem_filter] at hp
          obtain ⟨a, b⟩ := p
          exact ⟨(nodesP_mem.1 hp.1).1, (nodesP_mem.1 hp.1).2, hp.2⟩
        · exact absurd (by rw [hQ, List.mem_filter]; exact ⟨nodesP_mem.2 ⟨hy, hx⟩, hf⟩) hn
      have hq3 : Q ≠ [] → qv ≠ .lit (.slice none 0 0) := fun h => (hq2 h).2
      have hm3 := hm.lev.less (N' := fun n => n = h.length) fun n hn => .inr hn
      clear hQ hat hq1 hq2 hs0 hsh hm hm0 hlenY
      have ht0 := ok.tot hqi.pre
      repeat (first | apply ef_seq | apply seqQ.normal | apply blockQ.normal | apply ef_block)
      refine ef_loopg (α := List (List Int) × Nat × MV × List (Nat × Nat) × MHeap)
        (fun s => QuI t s.1 s.2.2.2.1 none ∧ LoM t (fun n => n = h.length) s.1 s.2.1 s.2.2.1 s.2.2.2.1 s.2.2.2.2 ∧ s.2.2.2.2.length = h.length ∧ (s.2.1 : Int) ≤ 144 + tot s.1 ∧ (s.2.2.2.1 ≠ [] → s.2.2.1 ≠ .lit (.slice none 0 0)))
        (fun _ => []) [(5, .ptr (4 + t.ter.length) 0 0 0), (1, .ptr 0 0 0 0), (3, .ptr 3 0 0 0)] (fun s => s.2.2.2.2) (fun s => s.2.2.2.1.length + (2880000 - tot s.1).toNat) (s, B, qv, Q, h) [] (fun _ => rfl) (by ((repeat (refine Hold.cons (by exact rfl) ?_)); exact Hold.nil)) (by ((repeat (refine Hold.cons (by exact rfl) ?_)); exact Hold.nil)) rfl rfl rfl ⟨hqi, hm3, rfl, by simp only; omega, hq3⟩ (by simp only; omega) ?_
      clear hqi hm3 hB hQl hq3 ht0 hlen0 s B qv Q
      rintro ⟨s, B, qv, Q, h5⟩ ⟨hqi, hm, hl5, hB, hq3⟩
      simp only at hqi hm hl5 hB hq3 ⊢
      have ht0 := ok.tot hqi.pre
      have fq := hm.qc
      have f3 := hm.b3
      cases Q with
      | nil =>
        have hlea := hqi.done
        have hsg : s = g := hlea.uniq hg
        obtain ⟨refs, k1, k2, k3⟩ := hm.sf.top
        have hrow := hm.sf.row
        have hwl := hm.sf.wl
        have hgl := hm.sf.gl
        have he : refs.mapM (frz 0 [2] h5 8) = some (g.map encW) := by
          rw [← hsg]
          refine mapM_get (by rw [k2, List.length_map, hgl]) fun j a b ha hb => ?_
          have hj : j < t.ter.length := by have := (List.getElem?_eq_some_iff.1 ha).1; omega
          rw [k3 j hj] at ha
          cases ha
          have hr := hrow j hj
          have hw := hwl j hj
          have hb2 : b = encW (s.getD j []) := by
            rw [List.getElem?_map, List.getElem?_eq_getElem (by omega)] at hb
            cases hb
            rw [List.getD_eq_getElem?_getD, List.getElem?_eq_getElem (by omega)]; rfl
          rw [hb2]
          clear hb hb2
          generalize s.getD j [] = r at *
          have q1 : ([2] : List Nat).contains (4 + j) = false := by simp; omega
          have q2 : (r.map I64).take t.W = r.map I64 := List.take_of_length_le (by simp; omega)
          simp only [frz, MV.lt, Nat.not_lt_zero, decide_false, Bool.false_eq_true, if_false, q1, hr]
          simp only [ltL_I, if_true, List.drop_zero, q2]
          simp [hw]
        have hlf : ltL 0 refs = true → refs = g.map encW := fun hl => by
          have := ltL_iff'.1 hl _ (List.mem_of_getElem? (k3 0 h1))
          simp [MV.lt] at this
        have hqu := hm.qu
        cases hqu with
        | nil =>
          repeat (first | apply ef_seq | (apply ef_mv; exact rfl; exact rfl) | (apply ef_bin; exact rfl; exact rfl; exact rfl; (exact cmp_f rfl (by simp only [cmpP]; omega))) | (apply ef_len; exact rfl; exact rfl; (exact rfl)) | (apply ef_ldp; exact rfl; exact rfl; (assumption); exact rfl; (exact rfl); (exact rfl)) | apply ef_nil | apply seqQ.normal | apply loopQ.exit | apply ef_ret | apply ef_exit | apply seqQ.exit | apply blockQ.here | (apply ef_condf; exact rfl; (exact (rfl : false = false))))
          (apply fin_arrF; (· exact rfl); (· exact rfl); (· exact k1); (· exact rfl); (· exact k2.symm); (· exact he); (· exact hlf); (· exact rfl); (· exact rfl))
        | arr id gen P _ k1' k2' k3' =>
          repeat (first | apply ef_seq | (apply ef_mv; exact rfl; exact rfl) | (apply ef_bin; exact rfl; exact rfl; exact rfl; (exact rfl)) | (apply ef_len; exact rfl; exact rfl; (exact rfl)) | (apply ef_ldp; exact rfl; exact rfl; (assumption); exact rfl; (exact rfl); (exact rfl)) | apply ef_nil | apply seqQ.normal | apply loopQ.exit | apply ef_ret | apply ef_exit | apply seqQ.exit | apply blockQ.here | (apply ef_condf; exact rfl; (exact (rfl : false = false))))
          (apply fin_arrF; (· exact rfl); (· exact rfl); (· exact k1); (· exact rfl); (· exact k2.symm); (· exact he); (· exact hlf); (· exact rfl); (· exact rfl))
      | cons q Q =>
        obtain ⟨y, x⟩ := q
        have hq4 := hq3 (by simp)
        have hqu := hm.qu
        cases hqu with
        | arr id gen P _ k1 k2 k3 =>
          have hok : MHeap.ok h5 id gen 2 = true := ok_of k1 rfl rfl
          have hlq : ((y, x) :: Q).length = Q.length + 1 := rfl
          have hel : ((P ++ (y, x) :: Q).map posM)[P.length + (0 : Int).toNat]? = some (posM (y, x)) := by simp
          have hm1 := (hm.app1 ⟨0, false, 2, [posM (y, x)]⟩ rfl)
          have fq1 := hm1.qc
          have hpc : (h5 ++ [(⟨0, false, 2, [posM (y, x)]⟩ : MObj)])[h5.length]? = some ⟨0, false, 2, [posM (y, x)]⟩ := at_end _ _
          have hok1 : MHeap.ok (h5 ++ [(⟨0, false, 2, [posM (y, x)]⟩ : MObj)]) id gen 2 = true := ok_of (at_app k1 _) rfl rfl
          repeat (first | apply ef_seq | (apply ef_bin; exact rfl; exact rfl; exact rfl; (exact cmp_t rfl (by first | exact rfl | (simp only [cmpP]; omega)))) | (apply ef_len; exact rfl; exact rfl; (exact rfl)) | (apply ef_ldp; exact rfl; exact rfl; (assumption); exact rfl; (first | exact rfl | assumption); (first | exact rd_2 rfl rfl | exact rfl)) | (apply ef_iaa; exact rfl; exact rfl; exact rfl; (omega); (omega); (assumption)) | (apply ef_newst; exact rfl; exact rfl; exact rfl; exact rfl; exact rfl) | apply ef_nil | apply seqQ.normal | apply ef_block | apply ef_skip | (apply ef_condt; exact rfl; (exact (rfl : true = true))))
          refine ef_slca1 (ht := by exact rfl) (l := 1) (m := ((y, x) :: Q).length) (by exact rfl) (by exact rfl) (by omega) hok1 ?_
          (apply ef_st; (· exact rfl); (· exact rfl); (· exact rfl); (· exact fq1); (· exact rfl); (· exact rfl); (· exact rfl); (· exact rfl))
          have hid : id < h.length := by
            have := hm.qlt (hm.lv h.length rfl).2 (hm.lv h.length rfl).1
            simpa [MV.lt] using this
          have h5l := hm.len
          have m2 := hm1.pop (at_app k1 _) k2 k3
          show Ef _ _ _ _ _ _ _ ((h5 ++ [(⟨0, false, 2, [posM (y, x)]⟩ : MObj)]).set (4 + t.ter.length) ⟨0, false, 1, [.arr id (P.length + 1) Q.length gen]⟩) _
          have hpc2 : ((h5 ++ [(⟨0, false, 2, [posM (y, x)]⟩ : MObj)]).set (4 + t.ter.length) ⟨0, false, 1, [.arr id (P.length + 1) Q.length gen]⟩)[h5.length]? = some ⟨0, false, 2, [posM (y, x)]⟩ := by
            rw [List.getElem?_set_ne (by omega)]; exact hpc
          have hl6 : ((h5 ++ [(⟨0, false, 2, [posM (y, x)]⟩ : MObj)]).set (4 + t.ter.length) ⟨0, false, 1, [.arr id (P.length + 1) Q.length gen]⟩).length = h.length + 1 := by simp [hl5]
          obtain ⟨hyb, hxb, hfb⟩ := hqi.mem (y, x) List.mem_cons_self
          simp only at hyb hxb hfb
          have hqp := hqi.pop
          clear hm1 hpc hok hok1 fq fq1 hel k1 hm hqi hq3 hq4 f3
          generalize ((h5 ++ [(⟨0, false, 2, [posM (y, x)]⟩ : MObj)]).set (4 + t.ter.length) ⟨0, false, 1, [.arr id (P.length + 1) Q.length gen]⟩) = h6 at *
          have f0 := m2.b0
          repeat (first | apply ef_seq | (apply ef_ldp; exact rfl; exact rfl; (assumption); exact rfl; (exact rfl); (first | exact rd_2 rfl rfl | exact rd_whole rfl)) | apply ef_nil | apply seqQ.normal | apply ef_block | (apply ef_call; exact rfl; ((repeat (apply XVs.cons; exact rfl)); exact XVs.nil); (with_reducible exact neighbours_c (k + 3) t _)))
          refine ef_rf (α := List (List Int) × Nat × MV × List (Nat × Nat) × MHeap) (ids := [])
            (fun j s' => QuI t s'.1 s'.2.2.2.1 (some (y, x)) ∧ (∀ p ∈ (t.nbL y x).take j, at2 s'.1 y x - t.cb ≤ at2 s'.1 p.1 p.2) ∧ LoM t (fun n => n = h.length ∨ n = h6.length) s'.1 s'.2.1 s'.2.2.1 s'.2.2.2.1 s'.2.2.2.2 ∧ s'.2.2.1 ≠ .lit (.slice none 0 0) ∧ s'.2.2.1.lt h.length = true ∧ (s'.2.1 : Int) ≤ 144 + tot s'.1 ∧ (s'.2.2.2.1.length : Int) - tot s'.1 ≤ (Q.length : Int) - tot s ∧ s'.2.2.2.2[h5.length]? = some ⟨0, false, 2, [posM (y, x)]⟩)
            [(3, .ptr 3 0 0 0), (7, .ptr h5.length 0 0 0), (1, .ptr 0 0 0 0), (5, .ptr (4 + t.ter.length) 0 0 0)] (fun s => s.2.2.2.2) (fun s => s.2.2.2.2.take h6.length)
            (s, B, .arr id (P.length + 1) Q.length gen, Q, h6) (by exact rfl) (neighbours1_it (k + 2) t ok hyb hxb _) (by simp [posY]) (idsL_lt0 (by simp [ltL, MV.lt, ltL_I, ltL_W, ltL_B])) (by ((repeat (refine Hold.cons (by exact rfl) ?_)); exact Hold.nil)) rfl rfl rfl
            ⟨hqp, by simp, m2.lev, (fun h => by cases h), by simp [MV.lt]; omega, hB, Int.le_refl _, hpc2⟩ rfl ?_ ?_ ?_
          · rintro j ⟨s', B', qv', Q', h7⟩ ⟨_, _, hm7, _⟩
            simp only at hm7 ⊢
            refine HeadIs.tk (hm7.lv _ (.inr rfl)).2 fun u hu => ?_
            simp only [List.mem_cons, List.not_mem_nil, or_false] at hu
            rcases hu with rfl | rfl | rfl | rfl
            · exact ⟨.ptr 3 0 0 0, by exact rfl, by simp [MV.lt]; omega⟩
            · exact ⟨.ptr h5.length 0 0 0, by exact rfl, by simp [MV.lt]; omega⟩
            · exact ⟨.ptr 0 0 0 0, by exact rfl, by simp [MV.lt]; omega⟩
            · exact ⟨.ptr (4 + t.ter.length) 0 0 0, by exact rfl, by simp [MV.lt]; omega⟩
          · rintro j ⟨s', B', qv', Q', h7⟩ x' hx' ⟨hqi, hall, hm7, hqn, hql, hB7, hms, hpc7⟩
            simp only at hqi hall hm7 hqn hql hB7 hms hpc7 ⊢
            obtain ⟨⟨y1, x1⟩, hp, rfl⟩ : ∃ p, (t.nbL y x)[j]? = some p ∧ x' = [posM p] := by
              simp only [posY, List.getElem?_map, Option.map_eq_some_iff] at hx'
              obtain ⟨w, h1, h2⟩ := hx'
              exact ⟨w, h1, h2.symm⟩
            have hnb := (Tk.nbL_mem hyb hxb).1 (List.mem_of_getElem? hp)
            simp only at hnb
            have htk : (t.nbL y x).take (j + 1) = (t.nbL y x).take j ++ [(y1, x1)] := by rw [List.take_add_one, hp]; rfl
            have hm8 := hm7.take (n := h6.length) (.inr rfl) fun k hk => by omega
            have hpc8 : (h7.take h6.length)[h5.length]? = some ⟨0, false, 2, [posM (y, x)]⟩ := by rw [List.getElem?_take, if_pos (by omega)]; exact hpc7
            clear hm7 hpc7 hx'
            generalize h7.take h6.length = h8 at *
            have hm9 := hm8.app1 ⟨0, false, 2, [posM (y1, x1)]⟩ rfl
            have hpc9 := at_app hpc8 [(⟨0, false, 2, [posM (y1, x1)]⟩ : MObj)]
            have hpd9 : (h8 ++ [(⟨0, false, 2, [posM (y1, x1)]⟩ : MObj)])[h8.length]? = some ⟨0, false, 2, [posM (y1, x1)]⟩ := at_end _ _
            have h8l := (hm8.lv h6.length (.inr rfl)).2.1
            have f0 := hm9.b0
            have f3 := hm9.b3
            obtain ⟨refs, r1, r2, r3, r4, r5, r6⟩ := hm9.sf.rd hyb hxb
            obtain ⟨refs', p1, p2, p3, p4, p5, p6⟩ := hm9.sf.rd hnb.1 hnb.2.1
            have hrr : refs' = refs := by rw [p1] at r1; cases r1; rfl
            subst hrr
            try simp only at r3 r4 r5 p3 p4 p5
            obtain ⟨b1, b2⟩ := ok.top hqi.pre y x hyb hxb
            obtain ⟨b3, b4⟩ := ok.top hqi.pre y1 x1 hnb.1 hnb.2.1
            obtain ⟨c1, c2⟩ := ok.cb
            have hy1 : y1 < t.ter.length := hnb.1
            have hx1 := hnb.2.1
            have hyb2 : y < t.ter.length := hyb
            simp only [putA]
            repeat (first | (apply ef_newst; exact rfl; exact rfl; exact rfl; exact rfl; exact rfl) | apply ef_nil)
            apply preQ.normal
            by_cases hr : at2 s' y1 x1 < at2 s' y x - t.cb
            · repeat (first | apply ef_seq | (apply ef_mv; exact rfl; exact rfl) | (apply ef_bin; exact rfl; exact rfl; exact rfl; (first | exact cmp_t rfl (by first | exact rfl | (simp only [cmpP]; omega)) | ((with_reducible refine bin_sub (wrap_of ?_ ?_)) <;> omega))) | (apply ef_ldp; exact rfl; exact rfl; (assumption); exact rfl; (first | exact rfl | assumption); (exact rfl)) | (apply ef_iaa; exact rfl; exact rfl; exact rfl; (omega); (omega); (assumption)) | (apply ef_fap; exact rfl; exact rfl) | apply ef_nil | apply seqQ.normal | apply ef_block | (apply ef_condt; exact rfl; (exact (rfl : true = true))))
              refine ef_st (o := ⟨0, false, 1, (s'.getD y1 []).map I64⟩) (v := I64 (at2 s' y x - t.cb)) (by exact rfl) rfl (by exact rfl) p4 rfl rfl p6 rfl ?_
              have m10 := hm9.put (x := x1) (v := at2 s' y x - t.cb) hnb.1
              have hpc10 : ((h8 ++ [(⟨0, false, 2, [posM (y1, x1)]⟩ : MObj)]).set (4 + y1) ⟨0, false, 1, ((s'.getD y1 []).map I64).set x1 (I64 (at2 s' y x - t.cb))⟩)[h5.length]? = some ⟨0, false, 2, [posM (y, x)]⟩ := by
                rw [List.getElem?_set_ne (by omega)]; exact hpc9
              have hpd10 : ((h8 ++ [(⟨0, false, 2, [posM (y1, x1)]⟩ : MObj)]).set (4 + y1) ⟨0, false, 1, ((s'.getD y1 []).map I64).set x1 (I64 (at2 s' y x - t.cb))⟩)[h8.length]? = some ⟨0, false, 2, [posM (y1, x1)]⟩ := by
                rw [List.getElem?_set_ne (by omega)]; exact hpd9
              show Ef _ _ _ _ _ _ _ ((h8 ++ [(⟨0, false, 2, [posM (y1, x1)]⟩ : MObj)]).set (4 + y1) ⟨0, false, 1, ((s'.getD y1 []).map I64).set (0 + ((x1 : Nat) : Int).toNat) (I64 (at2 s' y x - t.cb))⟩) _
              rw [show 0 + ((x1 : Nat) : Int).toNat = x1 by simp]
              have hl10 : ((h8 ++ [(⟨0, false, 2, [posM (y1, x1)]⟩ : MObj)]).set (4 + y1) ⟨0, false, 1, ((s'.getD y1 []).map I64).set x1 (I64 (at2 s' y x - t.cb))⟩).length = h8.length + 1 := by simp
              clear f0 f3 r1 r2 r3 r4 r5 r6 p1 p2 p3 p4 p5 p6 hpc9 hpd9 hm9
              generalize ((h8 ++ [(⟨0, false, 2, [posM (y1, x1)]⟩ : MObj)]).set (4 + y1) ⟨0, false, 1, ((s'.getD y1 []).map I64).set x1 (I64 (at2 s' y x - t.cb))⟩) = h10 at m10 hpc10 hpd10 hl10 ⊢
              have fq := m10.qc
              have hsh := hqi.pre.sh
              have hset := fun a b => at2_set (g := s') (y := y1) (x := x1) (y' := a) (x' := b) (v := at2 s' y x - t.cb) (by rw [hsh.hl]; exact hnb.1) (by rw [hsh.row hnb.1]; exact hnb.2.1)
              have hrs := hqi.raise hyb hxb hfb hnb hr
              have htot := tot_le_up (s0 := s') hsh hnb.1 hnb.2.1 hr
              have ht1 := ok.tot hqi.pre
              have hsame : at2 (set2 s' y1 x1 (at2 s' y x - t.cb)) y x = at2 s' y x := by rw [hset, if_neg hnb.ne]
              have hall2 : ∀ p ∈ (t.nbL y x).take (j + 1), at2 (set2 s' y1 x1 (at2 s' y x - t.cb)) y x - t.cb ≤ at2 (set2 s' y1 x1 (at2 s' y x - t.cb)) p.1 p.2 := fun p hp => by
                rw [hsame, hset]
                by_cases e : p.1 = y1 ∧ p.2 = x1
                · rw [if_pos e]; exact Int.le_refl _
                · rw [if_neg e]
                  rw [htk, List.mem_append] at hp
                  rcases hp with hp | hp
                  · exact hall p hp
                  · exact absurd (by rw [List.mem_singleton] at hp; subst hp; exact ⟨rfl, rfl⟩) e
              repeat (first | apply ef_nil | apply seqQ.normal)
              (apply ef_ldp; (· exact rfl); (· exact rfl); (· exact fq); (· exact rfl); (· exact rfl); (· exact m10.qu.cell))
              repeat (first | (apply ef_ldp; exact rfl; exact rfl; (assumption); exact rfl; (exact rfl); (exact rd_2 rfl rfl)) | (apply ef_bsl; exact rfl; (repeat (apply XVs.cons; exact rfl)); exact XVs.nil; exact rfl))
              (apply ef_pushA (t := t) (q := (y1, x1)); (· exact rfl); (· exact rfl); (· exact rfl); (· exact fun _ => rfl); (· exact fun _ => rfl); (· exact m10); (· exact hqn); (· omega))
              intro h11 qv11 m11 n11 l11 hlen11 hkeep
              have hpc11 : h11[h5.length]? = some ⟨0, false, 2, [posM (y, x)]⟩ := by
                rw [hkeep h5.length (by omega) (by rw [hl5]; exact hql) (by omega)]; exact hpc10
              repeat (first | apply ef_nil | apply blockQ.normal)
              apply rfQ.normal
              exact ⟨(set2 s' y1 x1 (at2 s' y x - t.cb), B' + 1, qv11, Q' ++ [(y1, x1)], h11), ⟨hrs, hall2, m11, n11, by rw [l11]; exact hql, by simp only; omega, by simp only [List.length_append, List.length_cons, List.length_nil]; omega, hpc11⟩, rfl⟩
            · repeat (first | apply ef_seq | (apply ef_mv; exact rfl; exact rfl) | (apply ef_bin; exact rfl; exact rfl; exact rfl; (first | exact cmp_f rfl (by simp only [cmpP]; omega) | ((with_reducible refine bin_sub (wrap_of ?_ ?_)) <;> omega))) | (apply ef_ldp; exact rfl; exact rfl; (assumption); exact rfl; (first | exact rfl | assumption); (exact rfl)) | (apply ef_iaa; exact rfl; exact rfl; exact rfl; (omega); (omega); (assumption)) | (apply ef_fap; exact rfl; exact rfl) | apply ef_nil | apply seqQ.normal | apply blockQ.normal | apply ef_block | apply ef_skip | (apply ef_condf; exact rfl; (exact (rfl : false = false))))
              apply rfQ.normal
              refine ⟨(s', B', qv', Q', h8 ++ [⟨0, false, 2, [posM (y1, x1)]⟩]), ⟨hqi, fun p hp => ?_, hm9, hqn, hql, hB7, hms, hpc9⟩, rfl⟩
              simp only at hp ⊢
              rw [htk, List.mem_append] at hp
              rcases hp with hp | hp
              · exact hall p hp
              · rw [List.mem_singleton] at hp
                subst hp
                simp only
                omega
          · rintro ⟨s', B', qv', Q', h7⟩ ⟨hqi, hall, hm7, hqn, hql, hB7, hms, hpc7⟩
            simp only at hqi hall hm7 hqn hql hB7 hms hpc7 ⊢
            have hlenY : (posY (t.nbL y x)).length = (t.nbL y x).length := by simp [posY]
            rw [hlenY, List.take_length] at hall
            have hqc := hqi.close (n := (y, x)) fun y1 x1 hnb => hall (y1, x1) ((Tk.nbL_mem hyb hxb).2 hnb)
            have ht1 := ok.tot hqc.pre
            have hm8 := (hm7.less (N' := fun n => n = h.length) fun n hn => .inl hn)
            have hlv := (hm8.lv _ rfl).2
            repeat (first | apply blockQ.normal)
            refine loopQ.normal _ _ ⟨(s', B', qv', Q', h7.take h.length), ⟨hqc, hm8.take rfl (fun k hk => by omega), by simp only [List.length_take]; have := hlv.1; omega, hB7, fun _ => hqn⟩, by simp only [hlq]; omega, ⟨by ((repeat (refine Hold.cons (by exact rfl) ?_)); exact Hold.nil), by ((repeat (refine Hold.cons (by exact rfl) ?_)); exact Hold.nil)⟩, HeadIs.tk hlv fun u hu => ?_⟩
            simp only [List.mem_cons, List.not_mem_nil, or_false] at hu
            rcases hu with rfl | rfl | rfl
            · exact ⟨.ptr (4 + t.ter.length) 0 0 0, by exact rfl, by simp [MV.lt]; omega⟩
            · exact ⟨.ptr 0 0 0 0, by exact rfl, by simp [MV.lt]; omega⟩
            · exact ⟨.ptr 3 0 0 0, by exact rfl, by simp [MV.lt]; omega⟩
theorem lowest_c (k : Nat) (t : Tk) (ok : OkT t) {g : List (List Int)} (hg : Lea t g) (h : MHeap) : orA (k + 5) 115 [encO t] h = some (.arr h.length 0 t.ter.length 0, h ++ [⟨0, false, 1, g.map encW⟩]) := by
  have := callA (k := k + 4) (h := h) (frzL_lt (ms := [encO t]) (by simp [ltL, MV.lt, ltL_I, ltL_W, ltL_B])) rfl (lowest_z k t ok hg) rfl (by simp [okH, ltL_W, ltL, MV.lt, ltL_I, ltL_B])
  simpa [shV, sh1] using this
end Go.Proofs.Ytgjpdjihjphbdaa

/- Contracts of the reference: flown nodes, neighbours. -/
namespace Go.Proofs.Ytgjpdjihjphbdaa
open Go.RowKit
set_option linter.unusedVariables false

theorem mf_rFlown : MT.mf 47 = some ⟨35, [(.tmp 6)], (.seq (.reg [⟨none, (some 3), (.box 5 (.s 0))⟩, ⟨none, (some 6), (.mv (.c (.lit (.bool false))))⟩]) (.seq (.reg [⟨none, (some 7), (.mv (.s 2))⟩, ⟨none, (some 8), (.fa 0 (.s 3))⟩, ⟨none, (some 9), (.ld none (.s 8))⟩, ⟨none, (some 10), (.len (.s 9))⟩, ⟨none, (some 11), (.bin .sub (.s 10) (.c (.lit (.int .i64 1))))⟩, ⟨none, (some 12), (.call 22 [(.s 7), (.c (.lit (.int .i64 0))), (.s 11)])⟩, ⟨none, (some 13), (.mv (.s 12))⟩, ⟨(some (13, true)), (some 14), (.mv (.s 1))⟩, ⟨(some (13, true)), (some 15), (.fa 0 (.s 3))⟩, ⟨(some (13, true)), (some 16), (.ld none (.s 15))⟩, ⟨(some (13, true)), (some 17), (.ia 1 (.s 16) (.c (.lit (.int .i64 0))))⟩, ⟨(some (13, true)), (some 18), (.ld none (.s 17))⟩, ⟨(some (13, true)), (some 19), (.len (.s 18))⟩, ⟨(some (13, true)), (some 20), (.bin .sub (.s 19) (.c (.lit (.int .i64 1))))⟩, ⟨(some (13, true)), (some 21), (.call 22 [(.s 14), (.c (.lit (.int .i64 0))), (.s 20)])⟩, ⟨none, (some 22), (.pick (.s 13) (.s 21) (.c (.lit (.bool false))))⟩, ⟨none, (some 23), (.mv (.s 22))⟩, ⟨(some (23, true)), (some 24), (.fa 1 (.s 3))⟩, ⟨(some (23, true)), (some 25), (.ld none (.s 24))⟩, ⟨(some (23, true)), (some 26), (.mv (.s 2))⟩, ⟨(some (23, true)), (some 27), (.call 71 [(.s 25), (.s 26)])⟩, ⟨(some (23, true)), (some 28), (.mv (.s 27))⟩, ⟨(some (28, false)), (some 29), (.fa 2 (.s 3))⟩, ⟨(some (28, false)), (some 30), (.ld none (.s 29))⟩, ⟨(some (28, false)), (some 31), (.mv (.s 1))⟩, ⟨(some (28, false)), (some 32), (.call 71 [(.s 30), (.s 31)])⟩, ⟨(some (23, true)), (some 33), (.pick (.s 28) (.c (.lit (.bool true))) (.s 32))⟩, ⟨none, (some 34), (.pick (.s 23) (.s 33) (.c (.lit (.bool false))))⟩, ⟨none, (some 6), (.mv (.s 34))⟩]) .ret))⟩ := by kernel_rfl
theorem rFlown_c (k : Nat) (t : Tk) (hb : Bd t) (h0 : 0 < t.ter.length) (x y : Int) (h : MHeap) {b : Bool} (hf : t.flI x y = b) : orA (k + 2) 47 [encT t, I64 x, I64 y] h = some (Bo b, h) := by
  refine callL (args' := [encT t, I64 x, I64 y]) (frzL_lt (by simp [ltL, MV.lt, ltL_I, ltL_W])) rfl (runZ_of mf_rFlown (by simp) ?_)
  simp only [argsL]
  have hs1 : (MV.sl (t.ter.map encW)).slen = some t.ter.length := by simp [MV.slen]
  have hbw := hb.w
  obtain ⟨b1, b2, b3, b4⟩ := hb
  have e0 := Tk.head h0
  have hsw := Tk.headW t
  generalize t.ter.getD 0 [] = r0 at e0 hsw
  have hH1 := fun h => bHas_c k t.rows y h (v := .sl (t.rows.map I64)) b2 (frz_sl (ltL_I 0 t.rows)) rfl
  have hH2 := fun h => bHas_c k t.ties x h (v := .sl (t.ties.map I64)) b3 (frz_sl (ltL_I 0 t.ties)) rfl
  unfold Tk.flI at hf
  generalize t.rows.contains y = p at hH1 hf
  generalize t.ties.contains x = q at hH2 hf
  cases g1 : inB y 0 ((t.ter.length : Int) - 1)
  · rw [g1, Bool.and_false, Bool.false_and] at hf
    repeat (first | apply ef_seq | (apply ef_mv; exact rfl; exact rfl) | (apply ef_bin; exact rfl; exact rfl; exact rfl; (((with_reducible refine bin_sub (wrap_of ?_ ?_)) <;> omega))) | (apply ef_gn; exact rfl; (exact (rfl : false = false)); exact rfl) | (apply ef_gu; exact rfl; exact rfl) | (apply ef_pick; exact rfl; exact rfl; exact rfl) | (apply ef_len; exact rfl; exact rfl; (assumption)) | (apply ef_ldp; exact rfl; exact rfl; (exact rfl); exact rfl; (exact rfl); (exact rfl)) | (apply ef_fap; exact rfl; exact rfl) | (apply ef_box; exact rfl; exact rfl; exact rfl; exact rfl) | apply ef_nil | apply seqQ.normal | apply ef_ret | (apply ef_call; exact rfl; ((repeat (apply XVs.cons; exact rfl)); exact XVs.nil); (with_reducible exact Within_c _ _ _ _ _ (by assumption))))
    (refine fin1 rfl (by exact rfl) rfl ?_)
    rw [← hf]
  · cases g2 : inB x 0 ((t.W : Int) - 1)
    · rw [g2, Bool.false_and, Bool.false_and] at hf
      repeat (first | apply ef_seq | (apply ef_mv; exact rfl; exact rfl) | (apply ef_bin; exact rfl; exact rfl; exact rfl; (((with_reducible refine bin_sub (wrap_of ?_ ?_)) <;> omega))) | (apply ef_gy; exact rfl; (exact (rfl : true = true))) | (apply ef_gn; exact rfl; (exact (rfl : false = false)); exact rfl) | (apply ef_gu; exact rfl; exact rfl) | (apply ef_pick; exact rfl; exact rfl; exact rfl) | (apply ef_len; exact rfl; exact rfl; (assumption)) | (apply ef_ldr; exact rfl; exact rfl; (exact rfl)) | (apply ef_ldp; exact rfl; exact rfl; (exact rfl); exact rfl; (exact rfl); (exact rfl)) | (apply ef_ias; exact rfl; exact rfl; exact rfl; (omega); assumption; exact rfl) | (apply ef_fap; exact rfl; exact rfl) | (apply ef_box; exact rfl; exact rfl; exact rfl; exact rfl) | apply ef_nil | apply seqQ.normal | apply ef_ret | (apply ef_call; exact rfl; ((repeat (apply XVs.cons; exact rfl)); exact XVs.nil); (with_reducible exact Within_c _ _ _ _ _ (by assumption))))
      (refine fin1 rfl (by exact rfl) rfl ?_)
      rw [← hf]
    · rw [g1, g2, Bool.true_and, Bool.true_and] at hf
      cases p
      · repeat (first | apply ef_seq | (apply ef_mv; exact rfl; exact rfl) | (apply ef_bin; exact rfl; exact rfl; exact rfl; (((with_reducible refine bin_sub (wrap_of ?_ ?_)) <;> omega))) | (apply ef_gy; exact rfl; (first | exact (rfl : true = true) | exact (rfl : false = false))) | (apply ef_pick; exact rfl; exact rfl; exact rfl) | (apply ef_len; exact rfl; exact rfl; (assumption)) | (apply ef_ldr; exact rfl; exact rfl; (exact rfl)) | (apply ef_ldp; exact rfl; exact rfl; (exact rfl); exact rfl; (exact rfl); (exact rfl)) | (apply ef_ias; exact rfl; exact rfl; exact rfl; (omega); assumption; exact rfl) | (apply ef_fap; exact rfl; exact rfl) | (apply ef_box; exact rfl; exact rfl; exact rfl; exact rfl) | apply ef_nil | apply seqQ.normal | apply ef_ret | (apply ef_call; exact rfl; ((repeat (apply XVs.cons; exact rfl)); exact XVs.nil); (with_reducible first | exact Within_c _ _ _ _ _ (by assumption) | exact hH1 _ | exact hH2 _)))
        (refine fin1 rfl (by exact rfl) rfl ?_)
        rw [← hf]; rfl
      · repeat (first | apply ef_seq | (apply ef_mv; exact rfl; exact rfl) | (apply ef_bin; exact rfl; exact rfl; exact rfl; (((with_reducible refine bin_sub (wrap_of ?_ ?_)) <;> omega))) | (apply ef_gy; exact rfl; (exact (rfl : true = true))) | (apply ef_gn; exact rfl; (exact (rfl : true = true)); exact rfl) | (apply ef_pick; exact rfl; exact rfl; exact rfl) | (apply ef_len; exact rfl; exact rfl; (assumption)) | (apply ef_ldr; exact rfl; exact rfl; (exact rfl)) | (apply ef_ldp; exact rfl; exact rfl; (exact rfl); exact rfl; (exact rfl); (exact rfl)) | (apply ef_ias; exact rfl; exact rfl; exact rfl; (omega); assumption; exact rfl) | (apply ef_fap; exact rfl; exact rfl) | (apply ef_box; exact rfl; exact rfl; exact rfl; exact rfl) | apply ef_nil | apply seqQ.normal | apply ef_ret | (apply ef_call; exact rfl; ((repeat (apply XVs.cons; exact rfl)); exact XVs.nil); (with_reducible first | exact Within_c _ _ _ _ _ (by assumption) | exact hH1 _)))
        (refine fin1 rfl (by exact rfl) rfl ?_)
        rw [← hf]; rfl
theorem mf_rNeed : MT.mf 51 = some ⟨18, [(.tmp 6)], (.seq (.reg [⟨none, (some 3), (.box 5 (.s 0))⟩, ⟨none, (some 6), (.mv (.c (.lit (.int .i64 0))))⟩]) (.seq (.reg [⟨none, (some 7), (.fa 0 (.s 3))⟩, ⟨none, (some 8), (.ld none (.s 7))⟩, ⟨none, (some 9), (.mv (.s 2))⟩, ⟨none, (some 10), (.ia 1 (.s 8) (.s 9))⟩, ⟨none, (some 11), (.ld none (.s 10))⟩, ⟨none, (some 12), (.mv (.s 1))⟩, ⟨none, (some 13), (.ia 1 (.s 11) (.s 12))⟩, ⟨none, (some 14), (.ld none (.s 13))⟩, ⟨none, (some 15), (.fa 3 (.s 3))⟩, ⟨none, (some 16), (.ld none (.s 15))⟩, ⟨none, (some 17), (.bin .add (.s 14) (.s 16))⟩, ⟨none, (some 6), (.mv (.s 17))⟩]) .ret))⟩ := by kernel_rfl
theorem rNeed_c (k : Nat) (t : Tk) (ok : OkT t) {y x : Nat} (hy : y < t.H) (hx : x < t.W) (h : MHeap) : orA (k + 1) 51 [encT t, I64 (x : Int), I64 (y : Int)] h = some (I64 (t.need y x), h) := by
  refine callL (args' := [encT t, I64 (x : Int), I64 (y : Int)]) (frzL_lt (by simp [ltL, MV.lt, ltL_I, ltL_W])) rfl (runZ_of mf_rNeed (by simp) ?_)
  simp only [argsL]
  have e1 := row_at (t := t) hy
  obtain ⟨a1, a2, a3⟩ := ok.at (y := y) (x := x) hy hx
  have e2 := cell_at a1
  obtain ⟨c1, c2⟩ := ok.cl
  have HN := Lib.hid (show t.need y x = (t.ter.getD y []).getD x 0 + t.cl from rfl)
  generalize (t.ter.getD y []).getD x 0 = v at *
  generalize t.ter.getD y [] = r at *
  repeat (first | apply ef_seq | (apply ef_mv; exact rfl; exact rfl) | (apply ef_bin; exact rfl; exact rfl; exact rfl; (((with_reducible refine bin_add (wrap_of ?_ ?_)) <;> omega))) | (apply ef_ldr; exact rfl; exact rfl; (exact rfl)) | (apply ef_ldp; exact rfl; exact rfl; (exact rfl); exact rfl; (exact rfl); (exact rfl)) | (apply ef_ias; exact rfl; exact rfl; exact rfl; (omega); assumption; exact rfl) | (apply ef_fap; exact rfl; exact rfl) | (apply ef_box; exact rfl; exact rfl; exact rfl; exact rfl) | apply ef_nil | apply seqQ.normal | apply ef_ret)
  (refine fin1 rfl (by exact rfl) rfl ?_)
  rw [HN.out]

/-- The neighbours, as the reference lists them. -/
def nbA (c d : Bool) (p : Nat × Nat) : List (Nat × Nat) := if c && d then [p] else []
def nbR (t : Tk) (y x : Nat) : List (Nat × Nat) :=
  nbA (t.rows.contains (y : Int)) (decide (0 < x)) (y, x - 1) ++ nbA (t.ties.contains (x : Int)) (decide (0 < y)) (y - 1, x) ++ nbA (t.rows.contains (y : Int)) (decide (x + 1 < t.W)) (y, x + 1) ++ nbA (t.ties.contains (x : Int)) (decide (y + 1 < t.ter.length)) (y + 1, x)
theorem nbR_mem {t : Tk} {y x : Nat} (hy : y < t.H) (hx : x < t.W) {p : Nat × Nat} : p ∈ nbR t y x ↔ t.Nb y x p.1 p.2 := by
  rw [← Tk.nbL_mem hy hx]
  unfold nbR nbA Tk.nbL Tk.H
  cases t.rows.contains (y : Int) <;> cases t.ties.contains (x : Int) <;> by_cases h1 : 0 < x <;> by_cases h2 : 0 < y <;> by_cases h3 : x + 1 < t.W <;> by_cases h4 : y + 1 < t.ter.length <;> simp [h1, h2, h3, h4, or_comm, or_left_comm, or_assoc]
def nbP (t : Tk) (y x : Nat) : Nat → List (Nat × Nat)
  | 0 => []
  | 1 => nbA (t.rows.contains (y : Int)) (decide (0 < x)) (y, x - 1) ++ nbA (t.ties.contains (x : Int)) (decide (0 < y)) (y - 1, x)
  | _ => nbR t y x
abbrev nbHp (t : Tk) (L : List (Nat × Nat)) : MHeap := [⟨0, false, 5, [encT t]⟩, ⟨0, true, 2, []⟩, ⟨L.length, nlN L.length, 2, L.map posM⟩]
theorem nbHp_cl (t : Tk) (L : List (Nat × Nat)) (G : MHeap) : Cl 3 (nbHp t L ++ G) := by
  refine ⟨by simp, fun j o hj ho => ?_⟩
  match j, hj with
  | 0, _ => cases ho; simp [ltL, MV.lt, ltL_I, ltL_W]
  | 1, _ => cases ho; rfl
  | 2, _ => cases ho; exact ltL_P 3 L
theorem HeadIs.tkE {keep : List Nat} {m : Nat} {A : Sl} {h h1 : MHeap} (X : MHeap) (e : h = h1 ++ X) (hm : h1.length = m) (hc : Cl m (h1 ++ X)) (hk : ∀ t ∈ keep, ∃ v, look A t = some v ∧ v.lt m = true) : HeadIs keep m A h h1 := by
  subst e
  have := HeadIs.tk hc hk
  rwa [List.take_left' hm] at this
section
variable {O : Oracle} {I : Iter} {M n : Nat} {lk : Nat → Bool} {A : Sl} {Qc : MX2 → Sl → MHeap → Prop}
theorem ef_nbapp {t : Tk} {t2 tp t1 : Nat} {L : List (Nat × Nat)} {p : Nat × Nat} {G : MHeap} {m : MV} {os : List GO} (ht2 : Nat.blt t2 n = true) (hp : look A tp = some (.arr 2 0 L.length L.length)) (h1 : look A t1 = some (.arr (nbHp t L ++ G).length 0 1 0)) (hL : L.length ≤ 1000) (hm : m = posM p) (hlk : ∀ i, lk i = false)
    (hE : Ef O I M n lk (.reg os) ((t2, .arr 2 0 (L ++ [p]).length (L ++ [p]).length) :: A) (nbHp t (L ++ [p]) ++ (G ++ [⟨0, false, 2, [posM p]⟩])) Qc) :
    Ef O I M n lk (.reg (⟨none, some t2, .app 2 (.s tp) (.s t1)⟩ :: os)) A ((nbHp t L ++ G) ++ [⟨0, false, 2, [m]⟩]) Qc := by
  subst hm
  refine ef_app (ht := ht2) (o := ⟨L.length, nlN L.length, 2, L.map posM⟩) (v := .arr (nbHp t L ++ G).length 0 1 0) (e := posM p) (xs := []) hp h1 (elems_end rfl rfl rfl rfl) rfl rfl (by simp) rfl (by simp; omega) rfl (hlk _) ?_
  have e1 : L.length + (posM p :: []).length = (L ++ [p]).length := by simp
  rw [e1]
  have e2 : L.length + 1 = (L ++ [p]).length := by simp
  show Ef _ _ _ _ _ _ ((t2, .arr 2 0 (L ++ [p]).length (L.length + 1)) :: A) ((nbHp t L ++ G ++ [(⟨0, false, 2, [posM p]⟩ : MObj)]).set 2 ⟨L.length + 1, false, 2, (L.map posM).drop 0 ++ [posM p]⟩) _
  rw [e2]
  have e3 : ((nbHp t L ++ G ++ [(⟨0, false, 2, [posM p]⟩ : MObj)]).set 2 ⟨(L ++ [p]).length, false, 2, (L.map posM).drop 0 ++ [posM p]⟩) = nbHp t (L ++ [p]) ++ (G ++ [⟨0, false, 2, [posM p]⟩]) := by
    simp [nlN]
  rw [e3]
  exact hE
end
theorem nbK {A : Sl} {u : Nat} {a b : Int} {c : Int} {n : Nat} (hu : u ∈ [8, 3, 2, 1, 7]) (h8 : look A 8 = some (I64 a)) (h3 : look A 3 = some (.ptr 0 0 0 0)) (h2 : look A 2 = some (I64 b)) (h1 : look A 1 = some (I64 c)) (h7 : look A 7 = some (.arr 2 0 n n)) : ∃ v, look A u = some v ∧ v.lt 3 = true := by
  simp only [List.mem_cons, List.not_mem_nil, or_false] at hu
  rcases hu with rfl | rfl | rfl | rfl | rfl
  · exact ⟨_, h8, rfl⟩
  · exact ⟨_, h3, by simp [MV.lt]⟩
  · exact ⟨_, h2, rfl⟩
  · exact ⟨_, h1, rfl⟩
  · exact ⟨_, h7, by simp [MV.lt]⟩
theorem mf_rNeighbours : MT.mf 119 = some ⟨60, [(.tmp 6)], (.seq (.reg [⟨none, (some 3), (.box 5 (.s 0))⟩, ⟨none, (some 6), (.nil0 2)⟩]) (.seq (.reg [⟨none, (some 7), (.nil0 2)⟩]) (.seq (.seq (.reg [⟨none, (some 8), (.mv (.c (.lit (.int .i64 (-1)))))⟩]) (.block 0 (.loop [8, 3, 2, 1, 7] (.seq (.seq (.reg [⟨none, (some 9), (.mv (.s 8))⟩, ⟨none, (some 10), (.bin .leq (.s 9) (.c (.lit (.int .i64 1))))⟩]) (.cond (.s 10) .skip (.exit 0))) (.seq (.block 1 (.seq (.seq (.reg [⟨none, (some 13), (.fa 1 (.s 3))⟩, ⟨none, (some 14), (.ld none (.s 13))⟩, ⟨none, (some 15), (.mv (.s 2))⟩, ⟨none, (some 16), (.call 71 [(.s 14), (.s 15)])⟩, ⟨none, (some 17), (.mv (.s 16))⟩, ⟨(some (17, true)), (some 18), (.mv (.s 1))⟩, ⟨(some (17, true)), (some 19), (.mv (.s 8))⟩, ⟨(some (17, true)), (some 20), (.bin .add (.s 18) (.s 19))⟩, ⟨(some (17, true)), (some 21), (.fa 0 (.s 3))⟩, ⟨(some (17, true)), (some 22), (.ld none (.s 21))⟩, ⟨(some (17, true)), (some 23), (.ia 1 (.s 22) (.c (.lit (.int .i64 0))))⟩, ⟨(some (17, true)), (some 24), (.ld none (.s 23))⟩, ⟨(some (17, true)), (some 25), (.len (.s 24))⟩, ⟨(some (17, true)), (some 26), (.bin .sub (.s 25) (.c (.lit (.int .i64 1))))⟩, ⟨(some (17, true)), (some 27), (.call 22 [(.s 20), (.c (.lit (.int .i64 0))), (.s 26)])⟩, ⟨none, (some 28), (.pick (.s 17) (.s 27) (.c (.lit (.bool false))))⟩]) (.cond (.s 28) (.reg [⟨none, (some 29), (.mv (.s 7))⟩, ⟨none, (some 30), (.mv (.s 1))⟩, ⟨none, (some 31), (.mv (.s 8))⟩, ⟨none, (some 32), (.bin .add (.s 30) (.s 31))⟩, ⟨none, (some 33), (.mv (.s 2))⟩, ⟨none, (some 34), (.build [(.lit (.int .i64 0)), (.lit (.int .i64 0))] [(0, (1, (.s 32))), (1, (1, (.s 33)))])⟩, ⟨none, (some 35), (.bsl (.agg [(.lit (.int .i64 0)), (.lit (.int .i64 0))]) 2 1 [(0, (.s 34))])⟩, ⟨none, (some 36), (.app 2 (.s 29) (.s 35))⟩, ⟨none, (some 7), (.mv (.s 36))⟩]) .skip)) (.seq (.reg [⟨none, (some 37), (.fa 2 (.s 3))⟩, ⟨none, (some 38), (.ld none (.s 37))⟩, ⟨none, (some 39), (.mv (.s 1))⟩, ⟨none, (some 40), (.call 71 [(.s 38), (.s 39)])⟩, ⟨none, (some 41), (.mv (.s 40))⟩, ⟨(some (41, true)), (some 42), (.mv (.s 2))⟩, ⟨(some (41, true)), (some 43), (.mv (.s 8))⟩, ⟨(some (41, true)), (some 44), (.bin .add (.s 42) (.s 43))⟩, ⟨(some (41, true)), (some 45), (.fa 0 (.s 3))⟩, ⟨(some (41, true)), (some 46), (.ld none (.s 45))⟩, ⟨(some (41, true)), (some 47), (.len (.s 46))⟩, ⟨(some (41, true)), (some 48), (.bin .sub (.s 47) (.c (.lit (.int .i64 1))))⟩, ⟨(some (41, true)), (some 49), (.call 22 [(.s 44), (.c (.lit (.int .i64 0))), (.s 48)])⟩, ⟨none, (some 50), (.pick (.s 41) (.s 49) (.c (.lit (.bool false))))⟩]) (.cond (.s 50) (.reg [⟨none, (some 51), (.mv (.s 7))⟩, ⟨none, (some 52), (.mv (.s 1))⟩, ⟨none, (some 53), (.mv (.s 2))⟩, ⟨none, (some 54), (.mv (.s 8))⟩, ⟨none, (some 55), (.bin .add (.s 53) (.s 54))⟩, ⟨none, (some 56), (.build [(.lit (.int .i64 0)), (.lit (.int .i64 0))] [(0, (1, (.s 52))), (1, (1, (.s 55)))])⟩, ⟨none, (some 57), (.bsl (.agg [(.lit (.int .i64 0)), (.lit (.int .i64 0))]) 2 1 [(0, (.s 56))])⟩, ⟨none, (some 58), (.app 2 (.s 51) (.s 57))⟩, ⟨none, (some 7), (.mv (.s 58))⟩]) .skip)))) (.reg [⟨none, (some 11), (.mv (.s 8))⟩, ⟨none, (some 12), (.bin .add (.s 11) (.c (.lit (.int .i64 2))))⟩, ⟨none, (some 8), (.mv (.s 12))⟩])))))) (.seq (.reg [⟨none, (some 59), (.mv (.s 7))⟩, ⟨none, (some 6), (.mv (.s 59))⟩]) .ret))))⟩ := by kernel_rfl
set_option maxHeartbeats 4000000 in
theorem rNeighbours_z (k : Nat) (t : Tk) (ok : OkT t) (hb : Bd t) {y x : Nat} (hy : y < t.ter.length) (hx : x < t.W) : runZ MT (orA (k + 1)) (itA (k + 1)) 4000000 119 [encT t, I64 (x : Int), I64 (y : Int)] [] = some (.arr 0 0 (nbR t y x).length 0, [⟨0, nlN (nbR t y x).length, 2, (nbR t y x).map posM⟩]) := by
  obtain ⟨h1, h2⟩ := ok.h1
  obtain ⟨w1, w2⟩ := ok.w1
  obtain ⟨b1, b2, b3, b4⟩ := hb
  have hs1 : (MV.sl (t.ter.map encW)).slen = some t.ter.length := by simp [MV.slen]
  have e0 := Tk.head h1
  have hsw := Tk.headW t
  generalize t.ter.getD 0 [] = r0 at e0 hsw
  have hH1 := fun h => bHas_c k t.rows (y : Int) h (v := .sl (t.rows.map I64)) b2 (frz_sl (ltL_I 0 t.rows)) rfl
  have hH2 := fun h => bHas_c k t.ties (x : Int) h (v := .sl (t.ties.map I64)) b3 (frz_sl (ltL_I 0 t.ties)) rfl
  refine runZ_of mf_rNeighbours (by simp) ?_
  simp only [argsL]
  repeat (first | apply ef_seq | (apply ef_mv; exact rfl; exact rfl) | (apply ef_box; exact rfl; exact rfl; exact rfl; exact rfl) | (apply ef_nil0; exact rfl) | apply ef_nil | apply seqQ.normal | apply ef_block)
  refine ef_loopg (α := Nat × List (Nat × Nat)) (fun s => s.1 ≤ 2 ∧ s.2 = nbP t y x s.1 ∧ s.2.length ≤ 10 * s.1) (fun s => [(8, I64 (2 * (s.1 : Int) - 1)), (7, .arr 2 0 s.2.length s.2.length)]) [(3, .ptr 0 0 0 0), (2, _), (1, _)] (fun s => nbHp t s.2) (fun s => 2 - s.1) (0, []) [8, 7] (fun _ => rfl) (by ((repeat (refine Hold.cons (by exact rfl) ?_)); exact Hold.nil)) (by ((repeat (refine Hold.cons (by exact rfl) ?_)); exact Hold.nil)) rfl rfl rfl ⟨by simp, rfl, by simp⟩ (by simp) ?_
  rintro ⟨i, L⟩ ⟨hi, hL, hLl⟩
  simp only at hi hL hLl ⊢
  match i, hi, hL, hLl with
  | 0, hi, hL, hLl =>
    have HN := (show nbP t y x (0 + 1) = nbP t y x 0 ++ (nbA (t.rows.contains (y : Int)) (decide (0 < x)) (y, x - 1) ++ nbA (t.ties.contains (x : Int)) (decide (0 < y)) (y - 1, x)) from rfl)
    rw [← hL] at HN
    generalize t.rows.contains (y : Int) = p at hH1 HN
    generalize t.ties.contains (x : Int) = q at hH2 HN
    cases p
    · cases q
      · repeat (first | apply ef_seq | (apply ef_mv; exact rfl; exact rfl) | (apply ef_bin; exact rfl; exact rfl; exact rfl; (first | exact cmp_t rfl (by first | exact rfl | (simp only [cmpP]; omega)) | ((with_reducible refine bin_add (wrap_of ?_ ?_)) <;> omega))) | (apply ef_gn; exact rfl; (exact (rfl : false = false)); exact rfl) | (apply ef_pick; exact rfl; exact rfl; exact rfl) | (apply ef_ldp; exact rfl; exact rfl; (exact rfl); exact rfl; (exact rfl); (exact rfl)) | (apply ef_fap; exact rfl; exact rfl) | apply ef_nil | apply seqQ.normal | apply blockQ.normal | apply ef_block | apply ef_skip | (apply ef_condt; exact rfl; (exact (rfl : true = true))) | (apply ef_condf; exact rfl; (exact (rfl : false = false))) | (apply ef_call; exact rfl; ((repeat (apply XVs.cons; exact rfl)); exact XVs.nil); (with_reducible first | exact hH1 _ | exact hH2 _)))
        refine loopQ.normal _ _ ⟨(0 + 1, L), ⟨by simp only; omega, by rw [HN]; simp [nbA, *], by (try simp only [List.length_append, List.length_cons, List.length_nil] at hLl ⊢); omega⟩, by simp only; omega, ⟨by ((repeat (refine Hold.cons (by exact rfl) ?_)); exact Hold.nil), by ((repeat (refine Hold.cons (by exact rfl) ?_)); exact Hold.nil)⟩, HeadIs.tkE [] (by first | exact rfl | simp) rfl (nbHp_cl t _ _) fun u hu => ?_⟩
        exact nbK hu (by exact rfl) (by exact rfl) (by exact rfl) (by exact rfl) (by exact rfl)
      · by_cases d2 : 0 < y
        · have g2 : inB ((y : Int) + (2 * ((0 : Nat) : Int) - 1)) 0 ((t.ter.length : Int) - 1) = true := inB_iff.2 (by omega)
          repeat (first | apply ef_seq | (apply ef_mv; exact rfl; exact rfl) | (apply ef_bin; exact rfl; exact rfl; exact rfl; (first | exact cmp_t rfl (by first | exact rfl | (simp only [cmpP]; omega)) | ((with_reducible refine bin_add (wrap_of ?_ ?_)) <;> omega) | ((with_reducible refine bin_sub (wrap_of ?_ ?_)) <;> omega))) | (apply ef_gy; exact rfl; (exact (rfl : true = true))) | (apply ef_gn; exact rfl; (exact (rfl : false = false)); exact rfl) | (apply ef_pick; exact rfl; exact rfl; exact rfl) | (apply ef_len; exact rfl; exact rfl; (assumption)) | (apply ef_ldp; exact rfl; exact rfl; (exact rfl); exact rfl; (exact rfl); (exact rfl)) | (apply ef_fap; exact rfl; exact rfl) | (apply ef_build; exact rfl; (repeat (apply XVs.cons; exact rfl)); exact XVs.nil; exact rfl; exact rfl) | (apply ef_bsl; exact rfl; (repeat (apply XVs.cons; exact rfl)); exact XVs.nil; exact rfl) | apply ef_nil | apply seqQ.normal | apply ef_block | apply ef_skip | (apply ef_condt; exact rfl; (exact (rfl : true = true))) | (apply ef_condf; exact rfl; (exact (rfl : false = false))) | (apply ef_call; exact rfl; ((repeat (apply XVs.cons; exact rfl)); exact XVs.nil); (with_reducible first | exact Within_c _ _ _ _ _ (by assumption) | exact hH1 _ | exact hH2 _)))
          (apply ef_nbapp (t := t) (L := L) (p := (y - 1, x)) (G := []); (· exact rfl); (· exact rfl); (· exact rfl); (· (try simp only [List.length_append, List.length_cons, List.length_nil] at hLl ⊢); omega); (· exact show posI (x : Int) ((y : Int) + (2 * ((0 : Nat) : Int) - 1)) = posM (y - 1, x) from by rw [show ((y : Int) + (2 * ((0 : Nat) : Int) - 1)) = (((y - 1, x).1 : Nat) : Int) by simp only; omega]); (· exact fun _ => rfl))
          repeat (first | (apply ef_mv; exact rfl; exact rfl) | (apply ef_bin; exact rfl; exact rfl; exact rfl; (((with_reducible refine bin_add (wrap_of ?_ ?_)) <;> omega))) | apply ef_nil | apply seqQ.normal | apply blockQ.normal)
          refine loopQ.normal _ _ ⟨(0 + 1, (L ++ [(y - 1, x)])), ⟨by simp only; omega, by rw [HN]; simp [nbA, *], by (try simp only [List.length_append, List.length_cons, List.length_nil] at hLl ⊢); omega⟩, by simp only; omega, ⟨by ((repeat (refine Hold.cons (by exact rfl) ?_)); exact Hold.nil), by ((repeat (refine Hold.cons (by exact rfl) ?_)); exact Hold.nil)⟩, HeadIs.tkE [⟨0, false, 2, [posM (y - 1, x)]⟩] (by first | exact rfl | simp) rfl (nbHp_cl t _ _) fun u hu => ?_⟩
          exact nbK hu (by exact rfl) (by exact rfl) (by exact rfl) (by exact rfl) (by exact rfl)
        · have g2 : inB ((y : Int) + (2 * ((0 : Nat) : Int) - 1)) 0 ((t.ter.length : Int) - 1) = false := inB_not.2 (by omega)
          repeat (first | apply ef_seq | (apply ef_mv; exact rfl; exact rfl) | (apply ef_bin; exact rfl; exact rfl; exact rfl; (first | exact cmp_t rfl (by first | exact rfl | (simp only [cmpP]; omega)) | ((with_reducible refine bin_add (wrap_of ?_ ?_)) <;> omega) | ((with_reducible refine bin_sub (wrap_of ?_ ?_)) <;> omega))) | (apply ef_gy; exact rfl; (exact (rfl : true = true))) | (apply ef_gn; exact rfl; (exact (rfl : false = false)); exact rfl) | (apply ef_pick; exact rfl; exact rfl; exact rfl) | (apply ef_len; exact rfl; exact rfl; (assumption)) | (apply ef_ldp; exact rfl; exact rfl; (exact rfl); exact rfl; (exact rfl); (exact rfl)) | (apply ef_fap; exact rfl; exact rfl) | apply ef_nil | apply seqQ.normal | apply blockQ.normal | apply ef_block | apply ef_skip | (apply ef_condt; exact rfl; (exact (rfl : true = true))) | (apply ef_condf; exact rfl; (exact (rfl : false = false))) | (apply ef_call; exact rfl; ((repeat (apply XVs.cons; exact rfl)); exact XVs.nil); (with_reducible first | exact Within_c _ _ _ _ _ (by assumption) | exact hH1 _ | exact hH2 _)))
          refine loopQ.normal _ _ ⟨(0 + 1, L), ⟨by simp only; omega, by rw [HN]; simp [nbA, *], by (try simp only [List.length_append, List.length_cons, List.length_nil] at hLl ⊢); omega⟩, by simp only; omega, ⟨by ((repeat (refine Hold.cons (by exact rfl) ?_)); exact Hold.nil), by ((repeat (refine Hold.cons (by exact rfl) ?_)); exact Hold.nil)⟩, HeadIs.tkE [] (by first | exact rfl | simp) rfl (nbHp_cl t _ _) fun u hu => ?_⟩
          exact nbK hu (by exact rfl) (by exact rfl) (by exact rfl) (by exact rfl) (by exact rfl)
    · by_cases d1 : 0 < x
      · have g1 : inB ((x : Int) + (2 * ((0 : Nat) : Int) - 1)) 0 ((t.W : Int) - 1) = true := inB_iff.2 (by omega)
        cases q
        · repeat (first | apply ef_seq | (apply ef_mv; exact rfl; exact rfl) | (apply ef_bin; exact rfl; exact rfl; exact rfl; (first | exact cmp_t rfl (by first | exact rfl | (simp only [cmpP]; omega)) | ((with_reducible refine bin_add (wrap_of ?_ ?_)) <;> omega) | ((with_reducible refine bin_sub (wrap_of ?_ ?_)) <;> omega))) | (apply ef_gy; exact rfl; (exact (rfl : true = true))) | (apply ef_pick; exact rfl; exact rfl; exact rfl) | (apply ef_len; exact rfl; exact rfl; (assumption)) | (apply ef_ldr; exact rfl; exact rfl; (exact rfl)) | (apply ef_ldp; exact rfl; exact rfl; (exact rfl); exact rfl; (exact rfl); (exact rfl)) | (apply ef_ias; exact rfl; exact rfl; exact rfl; (omega); assumption; exact rfl) | (apply ef_fap; exact rfl; exact rfl) | (apply ef_build; exact rfl; (repeat (apply XVs.cons; exact rfl)); exact XVs.nil; exact rfl; exact rfl) | (apply ef_bsl; exact rfl; (repeat (apply XVs.cons; exact rfl)); exact XVs.nil; exact rfl) | apply ef_nil | apply seqQ.normal | apply ef_block | apply ef_skip | (apply ef_condt; exact rfl; (exact (rfl : true = true))) | (apply ef_call; exact rfl; ((repeat (apply XVs.cons; exact rfl)); exact XVs.nil); (with_reducible first | exact Within_c _ _ _ _ _ (by assumption) | exact hH1 _)))
          (apply ef_nbapp (t := t) (L := L) (p := (y, x - 1)) (G := []); (· exact rfl); (· exact rfl); (· exact rfl); (· (try simp only [List.length_append, List.length_cons, List.length_nil] at hLl ⊢); omega); (· exact show posI ((x : Int) + (2 * ((0 : Nat) : Int) - 1)) (y : Int) = posM (y, x - 1) from by rw [show ((x : Int) + (2 * ((0 : Nat) : Int) - 1)) = (((y, x - 1).2 : Nat) : Int) by simp only; omega]); (· exact fun _ => rfl))
          repeat (first | apply ef_seq | (apply ef_mv; exact rfl; exact rfl) | (apply ef_bin; exact rfl; exact rfl; exact rfl; (((with_reducible refine bin_add (wrap_of ?_ ?_)) <;> omega))) | (apply ef_gn; exact rfl; (exact (rfl : false = false)); exact rfl) | (apply ef_pick; exact rfl; exact rfl; exact rfl) | (apply ef_ldp; exact rfl; exact rfl; (exact rfl); exact rfl; (exact rfl); (exact rfl)) | (apply ef_fap; exact rfl; exact rfl) | apply ef_nil | apply seqQ.normal | apply blockQ.normal | apply ef_skip | (apply ef_condf; exact rfl; (exact (rfl : false = false))) | (apply ef_call; exact rfl; ((repeat (apply XVs.cons; exact rfl)); exact XVs.nil); (with_reducible exact hH2 _)))
          refine loopQ.normal _ _ ⟨(0 + 1, (L ++ [(y, x - 1)])), ⟨by simp only; omega, by rw [HN]; simp [nbA, *], by (try simp only [List.length_append, List.length_cons, List.length_nil] at hLl ⊢); omega⟩, by simp only; omega, ⟨by ((repeat (refine Hold.cons (by exact rfl) ?_)); exact Hold.nil), by ((repeat (refine Hold.cons (by exact rfl) ?_)); exact Hold.nil)⟩, HeadIs.tkE [⟨0, false, 2, [posM (y, x - 1)]⟩] (by first | exact rfl | simp) rfl (nbHp_cl t _ _) fun u hu => ?_⟩
          exact nbK hu (by exact rfl) (by exact rfl) (by exact rfl) (by exact rfl) (by exact rfl)
        · by_cases d2 : 0 < y
          · have g2 : inB ((y : Int) + (2 * ((0 : Nat) : Int) - 1)) 0 ((t.ter.length : Int) - 1) = true := inB_iff.2 (by omega)
            repeat (first | apply ef_seq | (apply ef_mv; exact rfl; exact rfl) | (apply ef_bin; exact rfl; exact rfl; exact rfl; (first | exact cmp_t rfl (by first | exact rfl | (simp only [cmpP]; omega)) | ((with_reducible refine bin_add (wrap_of ?_ ?_)) <;> omega) | ((with_reducible refine bin_sub (wrap_of ?_ ?_)) <;> omega))) | (apply ef_gy; exact rfl; (exact (rfl : true = true))) | (apply ef_pick; exact rfl; exact rfl; exact rfl) | (apply ef_len; exact rfl; exact rfl; (assumption)) | (apply ef_ldr; exact rfl; exact rfl; (exact rfl)) | (apply ef_ldp; exact rfl; exact rfl; (exact rfl); exact rfl; (exact rfl); (exact rfl)) | (apply ef_ias; exact rfl; exact rfl; exact rfl; (omega); assumption; exact rfl) | (apply ef_fap; exact rfl; exact rfl) | (apply ef_build; exact rfl; (repeat (apply XVs.cons; exact rfl)); exact XVs.nil; exact rfl; exact rfl) | (apply ef_bsl; exact rfl; (repeat (apply XVs.cons; exact rfl)); exact XVs.nil; exact rfl) | apply ef_nil | apply seqQ.normal | apply ef_block | apply ef_skip | (apply ef_condt; exact rfl; (exact (rfl : true = true))) | (apply ef_call; exact rfl; ((repeat (apply XVs.cons; exact rfl)); exact XVs.nil); (with_reducible first | exact Within_c _ _ _ _ _ (by assumption) | exact hH1 _)))
            (apply ef_nbapp (t := t) (L := L) (p := (y, x - 1)) (G := []); (· exact rfl); (· exact rfl); (· exact rfl); (· (try simp only [List.length_append, List.length_cons, List.length_nil] at hLl ⊢); omega); (· exact show posI ((x : Int) + (2 * ((0 : Nat) : Int) - 1)) (y : Int) = posM (y, x - 1) from by rw [show ((x : Int) + (2 * ((0 : Nat) : Int) - 1)) = (((y, x - 1).2 : Nat) : Int) by simp only; omega]); (· exact fun _ => rfl))
            repeat (first | apply ef_seq | (apply ef_mv; exact rfl; exact rfl) | (apply ef_bin; exact rfl; exact rfl; exact rfl; (first | ((with_reducible refine bin_add (wrap_of ?_ ?_)) <;> omega) | ((with_reducible refine bin_sub (wrap_of ?_ ?_)) <;> omega))) | (apply ef_gy; exact rfl; (exact (rfl : true = true))) | (apply ef_pick; exact rfl; exact rfl; exact rfl) | (apply ef_len; exact rfl; exact rfl; (assumption)) | (apply ef_ldp; exact rfl; exact rfl; (exact rfl); exact rfl; (exact rfl); (exact rfl)) | (apply ef_fap; exact rfl; exact rfl) | (apply ef_build; exact rfl; (repeat (apply XVs.cons; exact rfl)); exact XVs.nil; exact rfl; exact rfl) | (apply ef_bsl; exact rfl; (repeat (apply XVs.cons; exact rfl)); exact XVs.nil; exact rfl) | apply ef_nil | apply seqQ.normal | (apply ef_condt; exact rfl; (exact (rfl : true = true))) | (apply ef_call; exact rfl; ((repeat (apply XVs.cons; exact rfl)); exact XVs.nil); (with_reducible first | exact Within_c _ _ _ _ _ (by assumption) | exact hH2 _)))
            (apply ef_nbapp (t := t) (L := (L ++ [(y, x - 1)])) (p := (y - 1, x)) (G := [⟨0, false, 2, [posM (y, x - 1)]⟩]); (· exact rfl); (· exact rfl); (· exact rfl); (· (try simp only [List.length_append, List.length_cons, List.length_nil] at hLl ⊢); omega); (· exact show posI (x : Int) ((y : Int) + (2 * ((0 : Nat) : Int) - 1)) = posM (y - 1, x) from by rw [show ((y : Int) + (2 * ((0 : Nat) : Int) - 1)) = (((y - 1, x).1 : Nat) : Int) by simp only; omega]); (· exact fun _ => rfl))
            repeat (first | (apply ef_mv; exact rfl; exact rfl) | (apply ef_bin; exact rfl; exact rfl; exact rfl; (((with_reducible refine bin_add (wrap_of ?_ ?_)) <;> omega))) | apply ef_nil | apply seqQ.normal | apply blockQ.normal)
            refine loopQ.normal _ _ ⟨(0 + 1, ((L ++ [(y, x - 1)]) ++ [(y - 1, x)])), ⟨by simp only; omega, by rw [HN]; simp [nbA, *], by (try simp only [List.length_append, List.length_cons, List.length_nil] at hLl ⊢); omega⟩, by simp only; omega, ⟨by ((repeat (refine Hold.cons (by exact rfl) ?_)); exact Hold.nil), by ((repeat (refine Hold.cons (by exact rfl) ?_)); exact Hold.nil)⟩, HeadIs.tkE [⟨0, false, 2, [posM (y, x - 1)]⟩, ⟨0, false, 2, [posM (y - 1, x)]⟩] (by first | exact rfl | simp) rfl (nbHp_cl t _ _) fun u hu => ?_⟩
            exact nbK hu (by exact rfl) (by exact rfl) (by exact rfl) (by exact rfl) (by exact rfl)
          · have g2 : inB ((y : Int) + (2 * ((0 : Nat) : Int) - 1)) 0 ((t.ter.length : Int) - 1) = false := inB_not.2 (by omega)
            repeat (first | apply ef_seq | (apply ef_mv; exact rfl; exact rfl) | (apply ef_bin; exact rfl; exact rfl; exact rfl; (first | exact cmp_t rfl (by first | exact rfl | (simp only [cmpP]; omega)) | ((with_reducible refine bin_add (wrap_of ?_ ?_)) <;> omega) | ((with_reducible refine bin_sub (wrap_of ?_ ?_)) <;> omega))) | (apply ef_gy; exact rfl; (exact (rfl : true = true))) | (apply ef_pick; exact rfl; exact rfl; exact rfl) | (apply ef_len; exact rfl; exact rfl; (assumption)) | (apply ef_ldr; exact rfl; exact rfl; (exact rfl)) | (apply ef_ldp; exact rfl; exact rfl; (exact rfl); exact rfl; (exact rfl); (exact rfl)) | (apply ef_ias; exact rfl; exact rfl; exact rfl; (omega); assumption; exact rfl) | (apply ef_fap; exact rfl; exact rfl) | (apply ef_build; exact rfl; (repeat (apply XVs.cons; exact rfl)); exact XVs.nil; exact rfl; exact rfl) | (apply ef_bsl; exact rfl; (repeat (apply XVs.cons; exact rfl)); exact XVs.nil; exact rfl) | apply ef_nil | apply seqQ.normal | apply ef_block | apply ef_skip | (apply ef_condt; exact rfl; (exact (rfl : true = true))) | (apply ef_call; exact rfl; ((repeat (apply XVs.cons; exact rfl)); exact XVs.nil); (with_reducible first | exact Within_c _ _ _ _ _ (by assumption) | exact hH1 _)))
            (apply ef_nbapp (t := t) (L := L) (p := (y, x - 1)) (G := []); (· exact rfl); (· exact rfl); (· exact rfl); (· (try simp only [List.length_append, List.length_cons, List.length_nil] at hLl ⊢); omega); (· exact show posI ((x : Int) + (2 * ((0 : Nat) : Int) - 1)) (y : Int) = posM (y, x - 1) from by rw [show ((x : Int) + (2 * ((0 : Nat) : Int) - 1)) = (((y, x - 1).2 : Nat) : Int) by simp only; omega]); (· exact fun _ => rfl))
            repeat (first | apply ef_seq | (apply ef_mv; exact rfl; exact rfl) | (apply ef_bin; exact rfl; exact rfl; exact rfl; (first | ((with_reducible refine bin_add (wrap_of ?_ ?_)) <;> omega) | ((with_reducible refine bin_sub (wrap_of ?_ ?_)) <;> omega))) | (apply ef_gy; exact rfl; (exact (rfl : true = true))) | (apply ef_pick; exact rfl; exact rfl; exact rfl) | (apply ef_len; exact rfl; exact rfl; (assumption)) | (apply ef_ldp; exact rfl; exact rfl; (exact rfl); exact rfl; (exact rfl); (exact rfl)) | (apply ef_fap; exact rfl; exact rfl) | apply ef_nil | apply seqQ.normal | apply blockQ.normal | apply ef_skip | (apply ef_condf; exact rfl; (exact (rfl : false = false))) | (apply ef_call; exact rfl; ((repeat (apply XVs.cons; exact rfl)); exact XVs.nil); (with_reducible first | exact Within_c _ _ _ _ _ (by assumption) | exact hH2 _)))
            refine loopQ.normal _ _ ⟨(0 + 1, (L ++ [(y, x - 1)])), ⟨by simp only; omega, by rw [HN]; simp [nbA, *], by (try simp only [List.length_append, List.length_cons, List.length_nil] at hLl ⊢); omega⟩, by simp only; omega, ⟨by ((repeat (refine Hold.cons (by exact rfl) ?_)); exact Hold.nil), by ((repeat (refine Hold.cons (by exact rfl) ?_)); exact Hold.nil)⟩, HeadIs.tkE [⟨0, false, 2, [posM (y, x - 1)]⟩] (by first | exact rfl | simp) rfl (nbHp_cl t _ _) fun u hu => ?_⟩
            exact nbK hu (by exact rfl) (by exact rfl) (by exact rfl) (by exact rfl) (by exact rfl)
      · have g1 : inB ((x : Int) + (2 * ((0 : Nat) : Int) - 1)) 0 ((t.W : Int) - 1) = false := inB_not.2 (by omega)
        cases q
        · repeat (first | apply ef_seq | (apply ef_mv; exact rfl; exact rfl) | (apply ef_bin; exact rfl; exact rfl; exact rfl; (first | exact cmp_t rfl (by first | exact rfl | (simp only [cmpP]; omega)) | ((with_reducible refine bin_add (wrap_of ?_ ?_)) <;> omega) | ((with_reducible refine bin_sub (wrap_of ?_ ?_)) <;> omega))) | (apply ef_gy; exact rfl; (exact (rfl : true = true))) | (apply ef_gn; exact rfl; (exact (rfl : false = false)); exact rfl) | (apply ef_pick; exact rfl; exact rfl; exact rfl) | (apply ef_len; exact rfl; exact rfl; (assumption)) | (apply ef_ldr; exact rfl; exact rfl; (exact rfl)) | (apply ef_ldp; exact rfl; exact rfl; (exact rfl); exact rfl; (exact rfl); (exact rfl)) | (apply ef_ias; exact rfl; exact rfl; exact rfl; (omega); assumption; exact rfl) | (apply ef_fap; exact rfl; exact rfl) | apply ef_nil | apply seqQ.normal | apply blockQ.normal | apply ef_block | apply ef_skip | (apply ef_condt; exact rfl; (exact (rfl : true = true))) | (apply ef_condf; exact rfl; (exact (rfl : false = false))) | (apply ef_call; exact rfl; ((repeat (apply XVs.cons; exact rfl)); exact XVs.nil); (with_reducible first | exact Within_c _ _ _ _ _ (by assumption) | exact hH1 _ | exact hH2 _)))
          refine loopQ.normal _ _ ⟨(0 + 1, L), ⟨by simp only; omega, by rw [HN]; simp [nbA, *], by (try simp only [List.length_append, List.length_cons, List.length_nil] at hLl ⊢); omega⟩, by simp only; omega, ⟨by ((repeat (refine Hold.cons (by exact rfl) ?_)); exact Hold.nil), by ((repeat (refine Hold.cons (by exact rfl) ?_)); exact Hold.nil)⟩, HeadIs.tkE [] (by first | exact rfl | simp) rfl (nbHp_cl t _ _) fun u hu => ?_⟩
          exact nbK hu (by exact rfl) (by exact rfl) (by exact rfl) (by exact rfl) (by exact rfl)
        · by_cases d2 : 0 < y
          · have g2 : inB ((y : Int) + (2 * ((0 : Nat) : Int) - 1)) 0 ((t.ter.length : Int) - 1) = true := inB_iff.2 (by omega)
            repeat (first | apply ef_seq | (apply ef_mv; exact rfl; exact rfl) | (apply ef_bin; exact rfl; exact rfl; exact rfl; (first | exact cmp_t rfl (by first | exact rfl | (simp only [cmpP]; omega)) | ((with_reducible refine bin_add (wrap_of ?_ ?_)) <;> omega) | ((with_reducible refine bin_sub (wrap_of ?_ ?_)) <;> omega))) | (apply ef_gy; exact rfl; (exact (rfl : true = true))) | (apply ef_pick; exact rfl; exact rfl; exact rfl) | (apply ef_len; exact rfl; exact rfl; (assumption)) | (apply ef_ldr; exact rfl; exact rfl; (exact rfl)) | (apply ef_ldp; exact rfl; exact rfl; (exact rfl); exact rfl; (exact rfl); (exact rfl)) | (apply ef_ias; exact rfl; exact rfl; exact rfl; (omega); assumption; exact rfl) | (apply ef_fap; exact rfl; exact rfl) | (apply ef_build; exact rfl; (repeat (apply XVs.cons; exact rfl)); exact XVs.nil; exact rfl; exact rfl) | (apply ef_bsl; exact rfl; (repeat (apply XVs.cons; exact rfl)); exact XVs.nil; exact rfl) | apply ef_nil | apply seqQ.normal | apply ef_block | apply ef_skip | (apply ef_condt; exact rfl; (exact (rfl : true = true))) | (apply ef_condf; exact rfl; (exact (rfl : false = false))) | (apply ef_call; exact rfl; ((repeat (apply XVs.cons; exact rfl)); exact XVs.nil); (with_reducible first | exact Within_c _ _ _ _ _ (by assumption) | exact hH1 _ | exact hH2 _)))
            (apply ef_nbapp (t := t) (L := L) (p := (y - 1, x)) (G := []); (· exact rfl); (· exact rfl); (· exact rfl); (· (try simp only [List.length_append, List.length_cons, List.length_nil] at hLl ⊢); omega); (· exact show posI (x : Int) ((y : Int) + (2 * ((0 : Nat) : Int) - 1)) = posM (y - 1, x) from by rw [show ((y : Int) + (2 * ((0 : Nat) : Int) - 1)) = (((y - 1, x).1 : Nat) : Int) by simp only; omega]); (· exact fun _ => rfl))
            repeat (first | (apply ef_mv; exact rfl; exact rfl) | (apply ef_bin; exact rfl; exact rfl; exact rfl; (((with_reducible refine bin_add (wrap_of ?_ ?_)) <;> omega))) | apply ef_nil | apply seqQ.normal | apply blockQ.normal)
            refine loopQ.normal _ _ ⟨(0 + 1, (L ++ [(y - 1, x)])), ⟨by simp only; omega, by rw [HN]; simp [nbA, *], by (try simp only [List.length_append, List.length_cons, List.length_nil] at hLl ⊢); omega⟩, by simp only; omega, ⟨by ((repeat (refine Hold.cons (by exact rfl) ?_)); exact Hold.nil), by ((repeat (refine Hold.cons (by exact rfl) ?_)); exact Hold.nil)⟩, HeadIs.tkE [⟨0, false, 2, [posM (y - 1, x)]⟩] (by first | exact rfl | simp) rfl (nbHp_cl t _ _) fun u hu => ?_⟩
            exact nbK hu (by exact rfl) (by exact rfl) (by exact rfl) (by exact rfl) (by exact rfl)
          · have g2 : inB ((y : Int) + (2 * ((0 : Nat) : Int) - 1)) 0 ((t.ter.length : Int) - 1) = false := inB_not.2 (by omega)
            repeat (first | apply ef_seq | (apply ef_mv; exact rfl; exact rfl) | (apply ef_bin; exact rfl; exact rfl; exact rfl; (first | exact cmp_t rfl (by first | exact rfl | (simp only [cmpP]; omega)) | ((with_reducible refine bin_add (wrap_of ?_ ?_)) <;> omega) | ((with_reducible refine bin_sub (wrap_of ?_ ?_)) <;> omega))) | (apply ef_gy; exact rfl; (exact (rfl : true = true))) | (apply ef_pick; exact rfl; exact rfl; exact rfl) | (apply ef_len; exact rfl; exact rfl; (assumption)) | (apply ef_ldr; exact rfl; exact rfl; (exact rfl)) | (apply ef_ldp; exact rfl; exact rfl; (exact rfl); exact rfl; (exact rfl); (exact rfl)) | (apply ef_ias; exact rfl; exact rfl; exact rfl; (omega); assumption; exact rfl) | (apply ef_fap; exact rfl; exact rfl) | apply ef_nil | apply seqQ.normal | apply blockQ.normal | apply ef_block | apply ef_skip | (apply ef_condt; exact rfl; (exact (rfl : true = true))) | (apply ef_condf; exact rfl; (exact (rfl : false = false))) | (apply ef_call; exact rfl; ((repeat (apply XVs.cons; exact rfl)); exact XVs.nil); (with_reducible first | exact Within_c _ _ _ _ _ (by assumption) | exact hH1 _ | exact hH2 _)))
            refine loopQ.normal _ _ ⟨(0 + 1, L), ⟨by simp only; omega, by rw [HN]; simp [nbA, *], by (try simp only [List.length_append, List.length_cons, List.length_nil] at hLl ⊢); omega⟩, by simp only; omega, ⟨by ((repeat (refine Hold.cons (by exact rfl) ?_)); exact Hold.nil), by ((repeat (refine Hold.cons (by exact rfl) ?_)); exact Hold.nil)⟩, HeadIs.tkE [] (by first | exact rfl | simp) rfl (nbHp_cl t _ _) fun u hu => ?_⟩
            exact nbK hu (by exact rfl) (by exact rfl) (by exact rfl) (by exact rfl) (by exact rfl)
  | 1, hi, hL, hLl =>
    have HN := (show nbP t y x (1 + 1) = nbP t y x 1 ++ (nbA (t.rows.contains (y : Int)) (decide (x + 1 < t.W)) (y, x + 1) ++ nbA (t.ties.contains (x : Int)) (decide (y + 1 < t.ter.length)) (y + 1, x)) from by simp [nbP, nbR])
    rw [← hL] at HN
    generalize t.rows.contains (y : Int) = p at hH1 HN
    generalize t.ties.contains (x : Int) = q at hH2 HN
    cases p
    · cases q
      · repeat (first | apply ef_seq | (apply ef_mv; exact rfl; exact rfl) | (apply ef_bin; exact rfl; exact rfl; exact rfl; (first | exact cmp_t rfl (by first | exact rfl | (simp only [cmpP]; omega)) | ((with_reducible refine bin_add (wrap_of ?_ ?_)) <;> omega))) | (apply ef_gn; exact rfl; (exact (rfl : false = false)); exact rfl) | (apply ef_pick; exact rfl; exact rfl; exact rfl) | (apply ef_ldp; exact rfl; exact rfl; (exact rfl); exact rfl; (exact rfl); (exact rfl)) | (apply ef_fap; exact rfl; exact rfl) | apply ef_nil | apply seqQ.normal | apply blockQ.normal | apply ef_block | apply ef_skip | (apply ef_condt; exact rfl; (exact (rfl : true = true))) | (apply ef_condf; exact rfl; (exact (rfl : false = false))) | (apply ef_call; exact rfl; ((repeat (apply XVs.cons; exact rfl)); exact XVs.nil); (with_reducible first | exact hH1 _ | exact hH2 _)))
        refine loopQ.normal _ _ ⟨(1 + 1, L), ⟨by simp only; omega, by rw [HN]; simp [nbA, *], by (try simp only [List.length_append, List.length_cons, List.length_nil] at hLl ⊢); omega⟩, by simp only; omega, ⟨by ((repeat (refine Hold.cons (by exact rfl) ?_)); exact Hold.nil), by ((repeat (refine Hold.cons (by exact rfl) ?_)); exact Hold.nil)⟩, HeadIs.tkE [] (by first | exact rfl | simp) rfl (nbHp_cl t _ _) fun u hu => ?_⟩
        exact nbK hu (by exact rfl) (by exact rfl) (by exact rfl) (by exact rfl) (by exact rfl)
      · by_cases d2 : y + 1 < t.ter.length
        · have g2 : inB ((y : Int) + (2 * ((1 : Nat) : Int) - 1)) 0 ((t.ter.length : Int) - 1) = true := inB_iff.2 (by omega)
          repeat (first | apply ef_seq | (apply ef_mv; exact rfl; exact rfl) | (apply ef_bin; exact rfl; exact rfl; exact rfl; (first | exact cmp_t rfl (by first | exact rfl | (simp only [cmpP]; omega)) | ((with_reducible refine bin_add (wrap_of ?_ ?_)) <;> omega) | ((with_reducible refine bin_sub (wrap_of ?_ ?_)) <;> omega))) | (apply ef_gy; exact rfl; (exact (rfl : true = true))) | (apply ef_gn; exact rfl; (exact (rfl : false = false)); exact rfl) | (apply ef_pick; exact rfl; exact rfl; exact rfl) | (apply ef_len; exact rfl; exact rfl; (assumption)) | (apply ef_ldp; exact rfl; exact rfl; (exact rfl); exact rfl; (exact rfl); (exact rfl)) | (apply ef_fap; exact rfl; exact rfl) | (apply ef_build; exact rfl; (repeat (apply XVs.cons; exact rfl)); exact XVs.nil; exact rfl; exact rfl) | (apply ef_bsl; exact rfl; (repeat (apply XVs.cons; exact rfl)); exact XVs.nil; exact rfl) | apply ef_nil | apply seqQ.normal | apply ef_block | apply ef_skip | (apply ef_condt; exact rfl; (exact (rfl : true = true))) | (apply ef_condf; exact rfl; (exact (rfl : false = false))) | (apply ef_call; exact rfl; ((repeat (apply XVs.cons; exact rfl)); exact XVs.nil); (with_reducible first | exact Within_c _ _ _ _ _ (by assumption) | exact hH1 _ | exact hH2 _)))
          (apply ef_nbapp (t := t) (L := L) (p := (y + 1, x)) (G := []); (· exact rfl); (· exact rfl); (· exact rfl); (· (try simp only [List.length_append, List.length_cons, List.length_nil] at hLl ⊢); omega); (· exact show posI (x : Int) ((y : Int) + (2 * ((1 : Nat) : Int) - 1)) = posM (y + 1, x) from by rw [show ((y : Int) + (2 * ((1 : Nat) : Int) - 1)) = (((y + 1, x).1 : Nat) : Int) by simp only; omega]); (· exact fun _ => rfl))
          repeat (first | (apply ef_mv; exact rfl; exact rfl) | (apply ef_bin; exact rfl; exact rfl; exact rfl; (((with_reducible refine bin_add (wrap_of ?_ ?_)) <;> omega))) | apply ef_nil | apply seqQ.normal | apply blockQ.normal)
          refine loopQ.normal _ _ ⟨(1 + 1, (L ++ [(y + 1, x)])), ⟨by simp only; omega, by rw [HN]; simp [nbA, *], by (try simp only [List.length_append, List.length_cons, List.length_nil] at hLl ⊢); omega⟩, by simp only; omega, ⟨by ((repeat (refine Hold.cons (by exact rfl) ?_)); exact Hold.nil), by ((repeat (refine Hold.cons (by exact rfl) ?_)); exact Hold.nil)⟩, HeadIs.tkE [⟨0, false, 2, [posM (y + 1, x)]⟩] (by first | exact rfl | simp) rfl (nbHp_cl t _ _) fun u hu => ?_⟩
          exact nbK hu (by exact rfl) (by exact rfl) (by exact rfl) (by exact rfl) (by exact rfl)
        · have g2 : inB ((y : Int) + (2 * ((1 : Nat) : Int) - 1)) 0 ((t.ter.length : Int) - 1) = false := inB_not.2 (by omega)
          repeat (first | apply ef_seq | (apply ef_mv; exact rfl; exact rfl) | (apply ef_bin; exact rfl; exact rfl; exact rfl; (first | exact cmp_t rfl (by first | exact rfl | (simp only [cmpP]; omega)) | ((with_reducible refine bin_add (wrap_of ?_ ?_)) <;> omega) | ((with_reducible refine bin_sub (wrap_of ?_ ?_)) <;> omega))) | (apply ef_gy; exact rfl; (exact (rfl : true = true))) | (apply ef_gn; exact rfl; (exact (rfl : false = false)); exact rfl) | (apply ef_pick; exact rfl; exact rfl; exact rfl) | (apply ef_len; exact rfl; exact rfl; (assumption)) | (apply ef_ldp; exact rfl; exact rfl; (exact rfl); exact rfl; (exact rfl); (exact rfl)) | (apply ef_fap; exact rfl; exact rfl) | apply ef_nil | apply seqQ.normal | apply blockQ.normal | apply ef_block | apply ef_skip | (apply ef_condt; exact rfl; (exact (rfl : true = true))) | (apply ef_condf; exact rfl; (exact (rfl : false = false))) | (apply ef_call; exact rfl; ((repeat (apply XVs.cons; exact rfl)); exact XVs.nil); (with_reducible first | exact Within_c _ _ _ _ _ (by assumption) | exact hH1 _ | exact hH2 _)))
          refine loopQ.normal _ _ ⟨(1 + 1, L), ⟨by simp only; omega, by rw [HN]; simp [nbA, *], by (try simp only [List.length_append, List.length_cons, List.length_nil] at hLl ⊢); omega⟩, by simp only; omega, ⟨by ((repeat (refine Hold.cons (by exact rfl) ?_)); exact Hold.nil), by ((repeat (refine Hold.cons (by exact rfl) ?_)); exact Hold.nil)⟩, HeadIs.tkE [] (by first | exact rfl | simp) rfl (nbHp_cl t _ _) fun u hu => ?_⟩
          exact nbK hu (by exact rfl) (by exact rfl) (by exact rfl) (by exact rfl) (by exact rfl)
    · by_cases d1 : x + 1 < t.W
      · have g1 : inB ((x : Int) + (2 * ((1 : Nat) : Int) - 1)) 0 ((t.W : Int) - 1) = true := inB_iff.2 (by omega)
        cases q
        · repeat (first | apply ef_seq | (apply ef_mv; exact rfl; exact rfl) | (apply ef_bin; exact rfl; exact rfl; exact rfl; (first | exact cmp_t rfl (by first | exact rfl | (simp only [cmpP]; omega)) | ((with_reducible refine bin_add (wrap_of ?_ ?_)) <;> omega) | ((with_reducible refine bin_sub (wrap_of ?_ ?_)) <;> omega))) | (apply ef_gy; exact rfl; (exact (rfl : true = true))) | (apply ef_pick; exact rfl; exact rfl; exact rfl) | (apply ef_len; exact rfl; exact rfl; (assumption)) | (apply ef_ldr; exact rfl; exact rfl; (exact rfl)) | (apply ef_ldp; exact rfl; exact rfl; (exact rfl); exact rfl; (exact rfl); (exact rfl)) | (apply ef_ias; exact rfl; exact rfl; exact rfl; (omega); assumption; exact rfl) | (apply ef_fap; exact rfl; exact rfl) | (apply ef_build; exact rfl; (repeat (apply XVs.cons; exact rfl)); exact XVs.nil; exact rfl; exact rfl) | (apply ef_bsl; exact rfl; (repeat (apply XVs.cons; exact rfl)); exact XVs.nil; exact rfl) | apply ef_nil | apply seqQ.normal | apply ef_block | apply ef_skip | (apply ef_condt; exact rfl; (exact (rfl : true = true))) | (apply ef_call; exact rfl; ((repeat (apply XVs.cons; exact rfl)); exact XVs.nil); (with_reducible first | exact Within_c _ _ _ _ _ (by assumption) | exact hH1 _)))
          (apply ef_nbapp (t := t) (L := L) (p := (y, x + 1)) (G := []); (· exact rfl); (· exact rfl); (· exact rfl); (· (try simp only [List.length_append, List.length_cons, List.length_nil] at hLl ⊢); omega); (· exact show posI ((x : Int) + (2 * ((1 : Nat) : Int) - 1)) (y : Int) = posM (y, x + 1) from by rw [show ((x : Int) + (2 * ((1 : Nat) : Int) - 1)) = (((y, x + 1).2 : Nat) : Int) by simp only; omega]); (· exact fun _ => rfl))
          repeat (first | apply ef_seq | (apply ef_mv; exact rfl; exact rfl) | (apply ef_bin; exact rfl; exact rfl; exact rfl; (((with_reducible refine bin_add (wrap_of ?_ ?_)) <;> omega))) | (apply ef_gn; exact rfl; (exact (rfl : false = false)); exact rfl) | (apply ef_pick; exact rfl; exact rfl; exact rfl) | (apply ef_ldp; exact rfl; exact rfl; (exact rfl); exact rfl; (exact rfl); (exact rfl)) | (apply ef_fap; exact rfl; exact rfl) | apply ef_nil | apply seqQ.normal | apply blockQ.normal | apply ef_skip | (apply ef_condf; exact rfl; (exact (rfl : false = false))) | (apply ef_call; exact rfl; ((repeat (apply XVs.cons; exact rfl)); exact XVs.nil); (with_reducible exact hH2 _)))
          refine loopQ.normal _ _ ⟨(1 + 1, (L ++ [(y, x + 1)])), ⟨by simp only; omega, by rw [HN]; simp [nbA, *], by (try simp only [List.length_append, List.length_cons, List.length_nil] at hLl ⊢); omega⟩, by simp only; omega, ⟨by ((repeat (refine Hold.cons (by exact rfl) ?_)); exact Hold.nil), by ((repeat (refine Hold.cons (by exact rfl) ?_)); exact Hold.nil)⟩, HeadIs.tkE [⟨0, false, 2, [posM (y, x + 1)]⟩] (by first | exact rfl | simp) rfl (nbHp_cl t _ _) fun u hu => ?_⟩
          exact nbK hu (by exact rfl) (by exact rfl) (by exact rfl) (by exact rfl) (by exact rfl)
        · by_cases d2 : y + 1 < t.ter.length
          · have g2 : inB ((y : Int) + (2 * ((1 : Nat) : Int) - 1)) 0 ((t.ter.length : Int) - 1) = true := inB_iff.2 (by omega)
            repeat (first | apply ef_seq | (apply ef_mv; exact rfl; exact rfl) | (apply ef_bin; exact rfl; exact rfl; exact rfl; (first | exact cmp_t rfl (by first | exact rfl | (simp only [cmpP]; omega)) | ((with_reducible refine bin_add (wrap_of ?_ ?_)) <;> omega) | ((with_reducible refine bin_sub (wrap_of ?_ ?_)) <;> omega))) | (apply ef_gy; exact rfl; (exact (rfl : true = true))) | (apply ef_pick; exact rfl; exact rfl; exact rfl) | (apply ef_len; exact rfl; exact rfl; (assumption)) | (apply ef_ldr; exact rfl; exact rfl; (exact rfl)) | (apply ef_ldp; exact rfl; exact rfl; (exact rfl); exact rfl; (exact rfl); (exact rfl)) | (apply ef_ias; exact rfl; exact rfl; exact rfl; (omega); assumption; exact rfl) | (apply ef_fap; exact rfl; exact rfl) | (apply ef_build; exact rfl; (repeat (apply XVs.cons; exact rfl)); exact XVs.nil; exact rfl; exact rfl) | (apply ef_bsl; exact rfl; (repeat (apply XVs.cons; exact rfl)); exact XVs.nil; exact rfl) | apply ef_nil | apply seqQ.normal | apply ef_block | apply ef_skip | (apply ef_condt; exact rfl; (exact (rfl : true = true))) | (apply ef_call; exact rfl; ((repeat (apply XVs.cons; exact rfl)); exact XVs.nil); (with_reducible first | exact Within_c _ _ _ _ _ (by assumption) | exact hH1 _)))
            (apply ef_nbapp (t := t) (L := L) (p := (y, x + 1)) (G := []); (· exact rfl); (· exact rfl); (· exact rfl); (· (try simp only [List.length_append, List.length_cons, List.length_nil] at hLl ⊢); omega); (· exact show posI ((x : Int) + (2 * ((1 : Nat) : Int) - 1)) (y : Int) = posM (y, x + 1) from by rw [show ((x : Int) + (2 * ((1 : Nat) : Int) - 1)) = (((y, x + 1).2 : Nat) : Int) by simp only; omega]); (· exact fun _ => rfl))
            repeat (first | apply ef_seq | (apply ef_mv; exact rfl; exact rfl) | (apply ef_bin; exact rfl; exact rfl; exact rfl; (first | ((with_reducible refine bin_add (wrap_of ?_ ?_)) <;> omega) | ((with_reducible refine bin_sub (wrap_of ?_ ?_)) <;> omega))) | (apply ef_gy; exact rfl; (exact (rfl : true = true))) | (apply ef_pick; exact rfl; exact rfl; exact rfl) | (apply ef_len; exact rfl; exact rfl; (assumption)) | (apply ef_ldp; exact rfl; exact rfl; (exact rfl); exact rfl; (exact rfl); (exact rfl)) | (apply ef_fap; exact rfl; exact rfl) | (apply ef_build; exact rfl; (repeat (apply XVs.cons; exact rfl)); exact XVs.nil; exact rfl; exact rfl) | (apply ef_bsl; exact rfl; (repeat (apply XVs.cons; exact rfl)); exact XVs.nil; exact rfl) | apply ef_nil | apply seqQ.normal | (apply ef_condt; exact rfl; (exact (rfl : true = true))) | (apply ef_call; exact rfl; ((repeat (apply XVs.cons; exact rfl)); exact XVs.nil); (with_reducible first | exact Within_c _ _ _ _ _ (by assumption) | exact hH2 _)))
            (apply ef_nbapp (t := t) (L := (L ++ [(y, x + 1)])) (p := (y + 1, x)) (G := [⟨0, false, 2, [posM (y, x + 1)]⟩]); (· exact rfl); (· exact rfl); (· exact rfl); (· (try simp only [List.length_append, List.length_cons, List.length_nil] at hLl ⊢); omega); (· exact show posI (x : Int) ((y : Int) + (2 * ((1 : Nat) : Int) - 1)) = posM (y + 1, x) from by rw [show ((y : Int) + (2 * ((1 : Nat) : Int) - 1)) = (((y + 1, x).1 : Nat) : Int) by simp only; omega]); (· exact fun _ => rfl))
            repeat (first | (apply ef_mv; exact rfl; exact rfl) | (apply ef_bin; exact rfl; exact rfl; exact rfl; (((with_reducible refine bin_add (wrap_of ?_ ?_)) <;> omega))) | apply ef_nil | apply seqQ.normal | apply blockQ.normal)
            refine loopQ.normal _ _ ⟨(1 + 1, ((L ++ [(y, x + 1)]) ++ [(y + 1, x)])), ⟨by simp only; omega, by rw [HN]; simp [nbA, *], by (try simp only [List.length_append, List.length_cons, List.length_nil] at hLl ⊢); omega⟩, by simp only; omega, ⟨by ((repeat (refine Hold.cons (by exact rfl) ?_)); exact Hold.nil), by ((repeat (refine Hold.cons (by exact rfl) ?_)); exact Hold.nil)⟩, HeadIs.tkE [⟨0, false, 2, [posM (y, x + 1)]⟩, ⟨0, false, 2, [posM (y + 1, x)]⟩] (by first | exact rfl | simp) rfl (nbHp_cl t _ _) fun u hu => ?_⟩
            exact nbK hu (by exact rfl) (by exact rfl) (by exact rfl) (by exact rfl) (by exact rfl)
          · have g2 : inB ((y : Int) + (2 * ((1 : Nat) : Int) - 1)) 0 ((t.ter.length : Int) - 1) = false := inB_not.2 (by omega)
            repeat (first | apply ef_seq | (apply ef_mv; exact rfl; exact rfl) | (apply ef_bin; exact rfl; exact rfl; exact rfl; (first | exact cmp_t rfl (by first | exact rfl | (simp only [cmpP]; omega)) | ((with_reducible refine bin_add (wrap_of ?_ ?_)) <;> omega) | ((with_reducible refine bin_sub (wrap_of ?_ ?_)) <;> omega))) | (apply ef_gy; exact rfl; (exact (rfl : true = true))) | (apply ef_pick; exact rfl; exact rfl; exact rfl) | (apply ef_len; exact rfl; exact rfl; (assumption)) | (apply ef_ldr; exact rfl; exact rfl; (exact rfl)) | (apply ef_ldp; exact rfl; exact rfl; (exact rfl); exact rfl; (exact rfl); (exact rfl)) | (apply ef_ias; exact rfl; exact rfl; exact rfl; (omega); assumption; exact rfl) | (apply ef_fap; exact rfl; exact rfl) | (apply ef_build; exact rfl; (repeat (apply XVs.cons; exact rfl)); exact XVs.nil; exact rfl; exact rfl) | (apply ef_bsl; exact rfl; (repeat (apply XVs.cons; exact rfl)); exact XVs.nil; exact rfl) | apply ef_nil | apply seqQ.normal | apply ef_block | apply ef_skip | (apply ef_condt; exact rfl; (exact (rfl : true = true))) | (apply ef_call; exact rfl; ((repeat (apply XVs.cons; exact rfl)); exact XVs.nil); (with_reducible first | exact Within_c _ _ _ _ _ (by assumption) | exact hH1 _)))
            (apply ef_nbapp (t := t) (L := L) (p := (y, x + 1)) (G := []); (· exact rfl); (· exact rfl); (· exact rfl); (· (try simp only [List.length_append, List.length_cons, List.length_nil] at hLl ⊢); omega); (· exact show posI ((x : Int) + (2 * ((1 : Nat) : Int) - 1)) (y : Int) = posM (y, x + 1) from by rw [show ((x : Int) + (2 * ((1 : Nat) : Int) - 1)) = (((y, x + 1).2 : Nat) : Int) by simp only; omega]); (· exact fun _ => rfl))
            repeat (first | apply ef_seq | (apply ef_mv; exact rfl; exact rfl) | (apply ef_bin; exact rfl; exact rfl; exact rfl; (first | ((with_reducible refine bin_add (wrap_of ?_ ?_)) <;> omega) | ((with_reducible refine bin_sub (wrap_of ?_ ?_)) <;> omega))) | (apply ef_gy; exact rfl; (exact (rfl : true = true))) | (apply ef_pick; exact rfl; exact rfl; exact rfl) | (apply ef_len; exact rfl; exact rfl; (assumption)) | (apply ef_ldp; exact rfl; exact rfl; (exact rfl); exact rfl; (exact rfl); (exact rfl)) | (apply ef_fap; exact rfl; exact rfl) | apply ef_nil | apply seqQ.normal | apply blockQ.normal | apply ef_skip | (apply ef_condf; exact rfl; (exact (rfl : false = false))) | (apply ef_call; exact rfl; ((repeat (apply XVs.cons; exact rfl)); exact XVs.nil); (with_reducible first | exact Within_c _ _ _ _ _ (by assumption) | exact hH2 _)))
            refine loopQ.normal _ _ ⟨(1 + 1, (L ++ [(y, x + 1)])), ⟨by simp only; omega, by rw [HN]; simp [nbA, *], by (try simp only [List.length_append, List.length_cons, List.length_nil] at hLl ⊢); omega⟩, by simp only; omega, ⟨by ((repeat (refine Hold.cons (by exact rfl) ?_)); exact Hold.nil), by ((repeat (refine Hold.cons (by exact rfl) ?_)); exact Hold.nil)⟩, HeadIs.tkE [⟨0, false, 2, [posM (y, x + 1)]⟩] (by first | exact rfl | simp) rfl (nbHp_cl t _ _) fun u hu => ?_⟩
            exact nbK hu (by exact rfl) (by exact rfl) (by exact rfl) (by exact rfl) (by exact rfl)
      · have g1 : inB ((x : Int) + (2 * ((1 : Nat) : Int) - 1)) 0 ((t.W : Int) - 1) = false := inB_not.2 (by omega)
        cases q
        · repeat (first | apply ef_seq | (apply ef_mv; exact rfl; exact rfl) | (apply ef_bin; exact rfl; exact rfl; exact rfl; (first | exact cmp_t rfl (by first | exact rfl | (simp only [cmpP]; omega)) | ((with_reducible refine bin_add (wrap_of ?_ ?_)) <;> omega) | ((with_reducible refine bin_sub (wrap_of ?_ ?_)) <;> omega))) | (apply ef_gy; exact rfl; (exact (rfl : true = true))) | (apply ef_gn; exact rfl; (exact (rfl : false = false)); exact rfl) | (apply ef_pick; exact rfl; exact rfl; exact rfl) | (apply ef_len; exact rfl; exact rfl; (assumption)) | (apply ef_ldr; exact rfl; exact rfl; (exact rfl)) | (apply ef_ldp; exact rfl; exact rfl; (exact rfl); exact rfl; (exact rfl); (exact rfl)) | (apply ef_ias; exact rfl; exact rfl; exact rfl; (omega); assumption; exact rfl) | (apply ef_fap; exact rfl; exact rfl) | apply ef_nil | apply seqQ.normal | apply blockQ.normal | apply ef_block | apply ef_skip | (apply ef_condt; exact rfl; (exact (rfl : true = true))) | (apply ef_condf; exact rfl; (exact (rfl : false = false))) | (apply ef_call; exact rfl; ((repeat (apply XVs.cons; exact rfl)); exact XVs.nil); (with_reducible first | exact Within_c _ _ _ _ _ (by assumption) | exact hH1 _ | exact hH2 _)))
          refine loopQ.normal _ _ ⟨(1 + 1, L), ⟨by simp only; omega, by rw [HN]; simp [nbA, *], by (try simp only [List.length_append, List.length_cons, List.length_nil] at hLl ⊢); omega⟩, by simp only; omega, ⟨by ((repeat (refine Hold.cons (by exact rfl) ?_)); exact Hold.nil), by ((repeat (refine Hold.cons (by exact rfl) ?_)); exact Hold.nil)⟩, HeadIs.tkE [] (by first | exact rfl | simp) rfl (nbHp_cl t _ _) fun u hu => ?_⟩
          exact nbK hu (by exact rfl) (by exact rfl) (by exact rfl) (by exact rfl) (by exact rfl)
        · by_cases d2 : y + 1 < t.ter.length
          · have g2 : inB ((y : Int) + (2 * ((1 : Nat) : Int) - 1)) 0 ((t.ter.length : Int) - 1) = true := inB_iff.2 (by omega)
            repeat (first | apply ef_seq | (apply ef_mv; exact rfl; exact rfl) | (apply ef_bin; exact rfl; exact rfl; exact rfl; (first | exact cmp_t rfl (by first | exact rfl | (simp only [cmpP]; omega)) | ((with_reducible refine bin_add (wrap_of ?_ ?_)) <;> omega) | ((with_reducible refine bin_sub (wrap_of ?_ ?_)) <;> omega))) | (apply ef_gy; exact rfl; (exact (rfl : true = true))) | (apply ef_pick; exact rfl; exact rfl; exact rfl) | (apply ef_len; exact rfl; exact rfl; (assumption)) | (apply ef_ldr; exact rfl; exact rfl; (exact rfl)) | (apply ef_ldp; exact rfl; exact rfl; (exact rfl); exact rfl; (exact rfl); (exact rfl)) | (apply ef_ias; exact rfl; exact rfl; exact rfl; (omega); assumption; exact rfl) | (apply ef_fap; exact rfl; exact rfl) | (apply ef_build; exact rfl; (repeat (apply XVs.cons; exact rfl)); exact XVs.nil; exact rfl; exact rfl) | (apply ef_bsl; exact rfl; (repeat (apply XVs.cons; exact rfl)); exact XVs.nil; exact rfl) | apply ef_nil | apply seqQ.normal | apply ef_block | apply ef_skip | (apply ef_condt; exact rfl; (exact (rfl : true = true))) | (apply ef_condf; exact rfl; (exact (rfl : false = false))) | (apply ef_call; exact rfl; ((repeat (apply XVs.cons; exact rfl)); exact XVs.nil); (with_reducible first | exact Within_c _ _ _ _ _ (by assumption) | exact hH1 _ | exact hH2 _)))
            (apply ef_nbapp (t := t) (L := L) (p := (y + 1, x)) (G := []); (· exact rfl); (· exact rfl); (· exact rfl); (· (try simp only [List.length_append, List.length_cons, List.length_nil] at hLl ⊢); omega); (· exact show posI (x : Int) ((y : Int) + (2 * ((1 : Nat) : Int) - 1)) = posM (y + 1, x) from by rw [show ((y : Int) + (2 * ((1 : Nat) : Int) - 1)) = (((y + 1, x).1 : Nat) : Int) by simp only; omega]); (· exact fun _ => rfl))
            repeat (first | (apply ef_mv; exact rfl; exact rfl) | (apply ef_bin; exact rfl; exact rfl; exact rfl; (((with_reducible refine bin_add (wrap_of ?_ ?_)) <;> omega))) | apply ef_nil | apply seqQ.normal | apply blockQ.normal)
            refine loopQ.normal _ _ ⟨(1 + 1, (L ++ [(y + 1, x)])), ⟨by simp only; omega, by rw [HN]; simp [nbA, *], by (try simp only [List.length_append, List.length_cons, List.length_nil] at hLl ⊢); omega⟩, by simp only; omega, ⟨by ((repeat (refine Hold.cons (by exact rfl) ?_)); exact Hold.nil), by ((repeat (refine Hold.cons (by exact rfl) ?_)); exact Hold.nil)⟩, HeadIs.tkE [⟨0, false, 2, [posM (y + 1, x)]⟩] (by first | exact rfl | simp) rfl (nbHp_cl t _ _) fun u hu => ?_⟩
            exact nbK hu (by exact rfl) (by exact rfl) (by exact rfl) (by exact rfl) (by exact rfl)
          · have g2 : inB ((y : Int) + (2 * ((1 : Nat) : Int) - 1)) 0 ((t.ter.length : Int) - 1) = false := inB_not.2 (by omega)
            repeat (first | apply ef_seq | (apply ef_mv; exact rfl; exact rfl) | (apply ef_bin; exact rfl; exact rfl; exact rfl; (first | exact cmp_t rfl (by first | exact rfl | (simp only [cmpP]; omega)) | ((with_reducible refine bin_add (wrap_of ?_ ?_)) <;> omega) | ((with_reducible refine bin_sub (wrap_of ?_ ?_)) <;> omega))) | (apply ef_gy; exact rfl; (exact (rfl : true = true))) | (apply ef_pick; exact rfl; exact rfl; exact rfl) | (apply ef_len; exact rfl; exact rfl; (assumption)) | (apply ef_ldr; exact rfl; exact rfl; (exact rfl)) | (apply ef_ldp; exact rfl; exact rfl; (exact rfl); exact rfl; (exact rfl); (exact rfl)) | (apply ef_ias; exact rfl; exact rfl; exact rfl; (omega); assumption; exact rfl) | (apply ef_fap; exact rfl; exact rfl) | apply ef_nil | apply seqQ.normal | apply blockQ.normal | apply ef_block | apply ef_skip | (apply ef_condt; exact rfl; (exact (rfl : true = true))) | (apply ef_condf; exact rfl; (exact (rfl : false = false))) | (apply ef_call; exact rfl; ((repeat (apply XVs.cons; exact rfl)); exact XVs.nil); (with_reducible first | exact Within_c _ _ _ _ _ (by assumption) | exact hH1 _ | exact hH2 _)))
            refine loopQ.normal _ _ ⟨(1 + 1, L), ⟨by simp only; omega, by rw [HN]; simp [nbA, *], by (try simp only [List.length_append, List.length_cons, List.length_nil] at hLl ⊢); omega⟩, by simp only; omega, ⟨by ((repeat (refine Hold.cons (by exact rfl) ?_)); exact Hold.nil), by ((repeat (refine Hold.cons (by exact rfl) ?_)); exact Hold.nil)⟩, HeadIs.tkE [] (by first | exact rfl | simp) rfl (nbHp_cl t _ _) fun u hu => ?_⟩
            exact nbK hu (by exact rfl) (by exact rfl) (by exact rfl) (by exact rfl) (by exact rfl)
  | 2, hi, hL, hLl =>
    have hR : L = nbR t y x := hL
    repeat (first | apply ef_seq | (apply ef_mv; exact rfl; exact rfl) | (apply ef_bin; exact rfl; exact rfl; exact rfl; (exact cmp_f rfl (by simp only [cmpP]; omega))) | apply ef_nil | apply seqQ.normal | apply loopQ.exit | apply ef_ret | apply ef_exit | apply seqQ.exit | apply blockQ.here | (apply ef_condf; exact rfl; (exact (rfl : false = false))))
    rw [← hR]
    (apply fin_arr; (· exact rfl); (· exact rfl); (· exact rfl); (· exact rfl); (· simp); (· (exact ltL_P 0 L)); (· (rw [List.drop_zero, List.take_of_length_le (by simp)])); (· exact rfl); (· exact rfl); (· (exact rfl)))
  | i + 3, hi, hL, hLl => omega
theorem rNeighbours_c (k : Nat) (t : Tk) (ok : OkT t) (hb : Bd t) {y x : Nat} (hy : y < t.ter.length) (hx : x < t.W) (h : MHeap) : orA (k + 2) 119 [encT t, I64 (x : Int), I64 (y : Int)] h = some (.arr h.length 0 (nbR t y x).length 0, h ++ [⟨0, nlN (nbR t y x).length, 2, (nbR t y x).map posM⟩]) := by
  have := callA (k := k + 1) (h := h) (frzL_lt (ms := [encT t, I64 (x : Int), I64 (y : Int)]) (by simp [ltL, MV.lt, ltL_I, ltL_W])) rfl (rNeighbours_z k t ok hb hy hx) rfl (by simp [okH, ltL_P, ltL, MV.lt, ltL_I, ltL_W])
  simpa [shV, sh1] using this
end Go.Proofs.Ytgjpdjihjphbdaa

/- Contracts: lowest surfaces, their excess, crossings. -/
namespace Go.Proofs.Ytgjpdjihjphbdaa
open Go.RowKit
set_option linter.unusedVariables false

theorem open_ok (k : Nat) {t : Tk} (hb : Bd t) (h0 : (taskF id t).2 = 0) (h : MHeap) : orA (k + 7) 113 [encT t] h = some (.tup [encO t, I64 0], h) := by
  have := open_c k t hb h
  unfold openM at this
  rwa [if_pos h0, h0] at this
theorem open_bad (k : Nat) {t : Tk} (hb : Bd t) (h0 : (taskF id t).2 ≠ 0) (h : MHeap) : orA (k + 7) 113 [encT t] h = some (.tup [zeroO, I64 (taskF id t).2], h) := by
  have := open_c k t hb h
  unfold openM at this
  rwa [if_neg h0] at this
theorem mf_Lowest : MT.mf 37 = some ⟨16, [(.tmp 2), (.tmp 3)], (.seq (.reg [⟨none, (some 1), (.box 5 (.s 0))⟩, ⟨none, (some 2), (.nil0 1)⟩, ⟨none, (some 3), (.mv (.c (.lit (.int .i64 0))))⟩]) (.seq (.reg [⟨none, (some 7), (.ld (some 5) (.s 1))⟩, ⟨none, (some 8), (.call 113 [(.s 7)])⟩, ⟨none, (some 6), (.mv (.s 8))⟩, ⟨none, (some 9), (.ext (.s 6) 0)⟩, ⟨none, (some 10), (.ext (.s 6) 1)⟩, ⟨none, (some 4), (.new (.agg [(.lit (.slice none 0 0)), (.lit (.slice none 0 0)), (.lit (.slice none 0 0)), (.lit (.int .i64 0)), (.lit (.int .i64 0)), (.lit (.int .i64 0)), (.lit (.int .i64 0)), (.lit (.slice none 0 0)), (.lit (.slice none 0 0))]))⟩, ⟨none, none, (.st 9 (.s 4) (.s 9))⟩, ⟨none, (some 5), (.mv (.s 10))⟩]) (.seq (.seq (.reg [⟨none, (some 11), (.mv (.s 5))⟩, ⟨none, (some 12), (.bin .neq (.s 11) (.c (.lit (.int .i64 0))))⟩]) (.cond (.s 12) (.seq (.reg [⟨none, (some 13), (.mv (.s 5))⟩, ⟨none, (some 2), (.nil0 1)⟩, ⟨none, (some 3), (.mv (.s 13))⟩]) .ret) .skip)) (.seq (.reg [⟨none, (some 14), (.ld (some 9) (.s 4))⟩, ⟨none, (some 15), (.call 115 [(.s 14)])⟩, ⟨none, (some 2), (.mv (.s 15))⟩, ⟨none, (some 3), (.mv (.c (.lit (.int .i64 0))))⟩]) .ret))))⟩ := by kernel_rfl
theorem Lowest_ok (k : Nat) {t : Tk} (hb : Bd t) (h0 : (taskF id t).2 = 0) {g : List (List Int)} (hg : Lea t g) (h : MHeap) : orA (k + 8) 37 [encT t] h = some (.tup [.arr h.length 0 t.ter.length 0, I64 0], h ++ [⟨0, false, 1, g.map encW⟩]) := by
  have ok := (task_ok h0).1
  have hz : runZ MT (orA (k + 7)) (itA (k + 7)) 4000000 37 [encT t] [] = some (.tup [.arr 0 0 t.ter.length 0, I64 0], [⟨0, false, 1, g.map encW⟩]) := by
    have ho := fun h => open_ok k hb h0 h
    have hl := fun h => lowest_c (k + 2) t ok hg h
    refine runZ_of mf_Lowest (by simp) ?_
    simp only [argsL]
    repeat (first | apply ef_seq | (apply ef_mv; exact rfl; exact rfl) | (apply ef_bin; exact rfl; exact rfl; exact rfl; (exact cmp_f rfl (by simp only [cmpP]; omega))) | (apply ef_ldp; exact rfl; exact rfl; (exact rfl); exact rfl; (exact rfl); (first | exact rd_5 rfl rfl rfl rfl rfl | exact rd_whole rfl)) | (apply ef_ext; exact rfl; exact rfl; exact rfl) | (apply ef_box; exact rfl; exact rfl; exact rfl; exact rfl) | (apply ef_newst; exact rfl; exact rfl; exact rfl; exact rfl; exact rfl) | (apply ef_nil0; exact rfl) | apply ef_nil | apply seqQ.normal | apply ef_ret | apply ef_skip | (apply ef_condf; exact rfl; (exact (rfl : false = false))) | (apply ef_call; exact rfl; ((repeat (apply XVs.cons; exact rfl)); exact XVs.nil); (with_reducible first | exact ho _ | exact hl _)))
    (apply fin_al; (· exact rfl); (· exact rfl); (· exact rfl); (· exact rfl); (· exact rfl); (· rw [List.length_map]; exact hg.1.sh.hl.symm); (· exact ltL_W 0 g); (· exact rfl); (· exact rfl); (· exact rfl))
  have := callA (k := k + 7) (h := h) (frzL_lt (ms := [encT t]) (by simp [ltL, encT_lt])) rfl hz (by simp [okV, ok1, MV.lt, MV.pure]) (by simp [okH, ltL_W, ltL, MV.lt, ltL_I])
  simpa [shV, sh1] using this
theorem Lowest_bad (k : Nat) {t : Tk} (hb : Bd t) (h0 : (taskF id t).2 ≠ 0) (h : MHeap) : orA (k + 8) 37 [encT t] h = some (.tup [.arr h.length 0 0 0, I64 (taskF id t).2], h ++ [⟨0, true, 1, []⟩]) := by
  have ho := fun h => open_bad k hb h0 h
  generalize (taskF id t).2 = e at *
  have hz : runZ MT (orA (k + 7)) (itA (k + 7)) 4000000 37 [encT t] [] = some (.tup [.arr 0 0 0 0, I64 e], [⟨0, true, 1, []⟩]) := by
    refine runZ_of mf_Lowest (by simp) ?_
    simp only [argsL]
    repeat (first | apply ef_seq | (apply ef_mv; exact rfl; exact rfl) | (apply ef_bin; exact rfl; exact rfl; exact rfl; (exact cmp_t rfl (by first | exact rfl | (simp only [cmpP]; omega)))) | (apply ef_ldp; exact rfl; exact rfl; (exact rfl); exact rfl; (exact rfl); (exact rd_5 rfl rfl rfl rfl rfl)) | (apply ef_ext; exact rfl; exact rfl; exact rfl) | (apply ef_box; exact rfl; exact rfl; exact rfl; exact rfl) | (apply ef_newst; exact rfl; exact rfl; exact rfl; exact rfl; exact rfl) | (apply ef_nil0; exact rfl) | apply ef_nil | apply seqQ.normal | apply ef_ret | apply seqQ.ret | (apply ef_condt; exact rfl; (exact (rfl : true = true))) | (apply ef_call; exact rfl; ((repeat (apply XVs.cons; exact rfl)); exact XVs.nil); (with_reducible exact ho _)))
    (apply fin_al; (· exact rfl); (· exact rfl); (· exact rfl); (· exact rfl); (· exact rfl); (· exact rfl); (· exact rfl); (· exact rfl); (· exact rfl); (· exact rfl))
  have := callA (k := k + 7) (h := h) (frzL_lt (ms := [encT t]) (by simp [ltL, encT_lt])) rfl hz (by simp [okV, ok1, MV.lt, MV.pure]) (by simp [okH, ltL, pureL])
  simpa [shV, sh1] using this

/-- What a surface is higher than the clearance asks for, over some nodes. -/
def exF (t : Tk) (g : List (List Int)) (l : List (Nat × Nat)) : Int := (l.map fun p => if t.fl p.1 p.2 then at2 g p.1 p.2 - t.need p.1 p.2 else 0).sum
theorem exF_app (t : Tk) (g : List (List Int)) (l : List (Nat × Nat)) (p : Nat × Nat) : exF t g (l ++ [p]) = exF t g l + if t.fl p.1 p.2 then at2 g p.1 p.2 - t.need p.1 p.2 else 0 := by simp [exF]
theorem Lea.pre {t : Tk} {s : List (List Int)} (h : Lea t s) : Pre t s := ⟨h.1.sh, h.1.ze, h.1.ab, h.2⟩
abbrev exH (t : Tk) (g : List (List Int)) (v : Int) : MHeap := [⟨0, false, 5, [encT t]⟩, ⟨0, false, 9, [encO t]⟩, ⟨0, false, 1, g.map encW⟩, ⟨0, false, 1, [.arr 2 0 t.ter.length 0]⟩, ⟨0, false, 1, [I64 v]⟩]
theorem exH_cl (t : Tk) (g : List (List Int)) (v : Int) (X : MHeap) : Cl 5 (exH t g v ++ X) := by
  refine ⟨by simp, fun j o hj ho => ?_⟩
  match j, hj with
  | 0, _ => cases ho; simp [ltL, MV.lt, ltL_I, ltL_W]
  | 1, _ => cases ho; simp [ltL, MV.lt, ltL_I, ltL_W, ltL_B]
  | 2, _ => cases ho; exact ltL_W 5 g
  | 3, _ => cases ho; simp [ltL, MV.lt]
  | 4, _ => cases ho; rfl
theorem mf_ExcessOf : MT.mf 38 = some ⟨41, [(.tmp 2), (.tmp 3)], (.seq (.reg [⟨none, (some 1), (.box 5 (.s 0))⟩, ⟨none, (some 2), (.mv (.c (.lit (.int .i64 0))))⟩, ⟨none, (some 3), (.mv (.c (.lit (.int .i64 0))))⟩]) (.seq (.reg [⟨none, (some 10), (.ld (some 5) (.s 1))⟩, ⟨none, (some 11), (.call 113 [(.s 10)])⟩, ⟨none, (some 9), (.mv (.s 11))⟩, ⟨none, (some 12), (.ext (.s 9) 0)⟩, ⟨none, (some 13), (.ext (.s 9) 1)⟩, ⟨none, (some 4), (.new (.agg [(.lit (.slice none 0 0)), (.lit (.slice none 0 0)), (.lit (.slice none 0 0)), (.lit (.int .i64 0)), (.lit (.int .i64 0)), (.lit (.int .i64 0)), (.lit (.int .i64 0)), (.lit (.slice none 0 0)), (.lit (.slice none 0 0))]))⟩, ⟨none, none, (.st 9 (.s 4) (.s 12))⟩, ⟨none, (some 5), (.mv (.s 13))⟩]) (.seq (.seq (.reg [⟨none, (some 14), (.mv (.s 5))⟩, ⟨none, (some 15), (.bin .neq (.s 14) (.c (.lit (.int .i64 0))))⟩]) (.cond (.s 15) (.seq (.reg [⟨none, (some 16), (.mv (.s 5))⟩, ⟨none, (some 2), (.mv (.c (.lit (.int .i64 0))))⟩, ⟨none, (some 3), (.mv (.s 16))⟩]) .ret) .skip)) (.seq (.reg [⟨none, (some 17), (.ld (some 9) (.s 4))⟩, ⟨none, (some 18), (.call 115 [(.s 17)])⟩, ⟨none, (some 6), (.new (.lit (.slice none 0 0)))⟩, ⟨none, none, (.st 1 (.s 6) (.s 18))⟩]) (.seq (.reg [⟨none, (some 7), (.new (.lit (.int .i64 0)))⟩, ⟨none, none, (.st 1 (.s 7) (.c (.lit (.int .i64 0))))⟩]) (.seq (.seq (.reg [⟨none, (some 19), (.ld (some 9) (.s 4))⟩, ⟨none, (some 20), (.mf 114 1 [(.s 19)])⟩]) (.block 0 (.rf [4, 7, 6] (.s 20) [21] (.reg [⟨none, (some 8), (.new (.agg [(.lit (.int .i64 0)), (.lit (.int .i64 0))]))⟩, ⟨none, none, (.st 2 (.s 8) (.s 21))⟩]) (.block 1 (.seq (.reg [⟨none, (some 22), (.ld (some 9) (.s 4))⟩, ⟨none, (some 23), (.ld (some 2) (.s 8))⟩, ⟨none, (some 24), (.call 116 [(.s 22), (.s 23)])⟩]) (.cond (.s 24) (.reg [⟨none, (some 25), (.ld none (.s 7))⟩, ⟨none, (some 26), (.ld none (.s 6))⟩, ⟨none, (some 27), (.fa 1 (.s 8))⟩, ⟨none, (some 28), (.ld none (.s 27))⟩, ⟨none, (some 29), (.ia 1 (.s 26) (.s 28))⟩, ⟨none, (some 30), (.ld none (.s 29))⟩, ⟨none, (some 31), (.fa 0 (.s 8))⟩, ⟨none, (some 32), (.ld none (.s 31))⟩, ⟨none, (some 33), (.ia 1 (.s 30) (.s 32))⟩, ⟨none, (some 34), (.ld none (.s 33))⟩, ⟨none, (some 35), (.ld (some 9) (.s 4))⟩, ⟨none, (some 36), (.ld (some 2) (.s 8))⟩, ⟨none, (some 37), (.call 117 [(.s 35), (.s 36)])⟩, ⟨none, (some 38), (.bin .sub (.s 34) (.s 37))⟩, ⟨none, (some 39), (.bin .add (.s 25) (.s 38))⟩, ⟨none, none, (.st 1 (.s 7) (.s 39))⟩]) .skip)))))) (.seq (.reg [⟨none, (some 40), (.ld none (.s 7))⟩, ⟨none, (some 2), (.mv (.s 40))⟩, ⟨none, (some 3), (.mv (.c (.lit (.int .i64 0))))⟩]) .ret)))))))⟩ := by kernel_rfl
set_option maxHeartbeats 1000000 in
theorem ExcessOf_z (k : Nat) {t : Tk} (hb : Bd t) (h0 : (taskF id t).2 = 0) {g : List (List Int)} (hg : Lea t g) : runZ MT (orA (k + 7)) (itA (k + 7)) 4000000 38 [encT t] [] = some (.tup [I64 (exF t g (nodesP t.ter.length t.W)), I64 0], []) := by
  have ok := (task_ok h0).1
  have ho := fun h => open_ok k hb h0 h
  have hl := fun h => lowest_c (k + 2) t ok hg h
  obtain ⟨h1, h2⟩ := ok.h1
  obtain ⟨w1, w2⟩ := ok.w1
  refine runZ_of mf_ExcessOf (by simp) ?_
  simp only [argsL]
  repeat (first | apply ef_seq | (apply ef_mv; exact rfl; exact rfl) | (apply ef_bin; exact rfl; exact rfl; exact rfl; (exact cmp_f rfl (by simp only [cmpP]; omega))) | (apply ef_ldp; exact rfl; exact rfl; (exact rfl); exact rfl; (exact rfl); (first | exact rd_5 rfl rfl rfl rfl rfl | exact rd_whole rfl)) | (apply ef_ext; exact rfl; exact rfl; exact rfl) | (apply ef_box; exact rfl; exact rfl; exact rfl; exact rfl) | (apply ef_newst; exact rfl; exact rfl; exact rfl; exact rfl; exact rfl) | (apply ef_mf; exact rfl; (repeat (apply XVs.cons; exact rfl)); exact XVs.nil) | apply ef_nil | apply seqQ.normal | apply ef_block | apply ef_skip | (apply ef_condf; exact rfl; (exact (rfl : false = false))) | (apply ef_call; exact rfl; ((repeat (apply XVs.cons; exact rfl)); exact XVs.nil); (with_reducible first | exact ho _ | exact hl _)))
  refine ef_rf (α := Int × MHeap) (ids := []) (fun i s => s.1 = exF t g ((nodesP t.ter.length t.W).take i) ∧ -(20000 * (i : Int)) ≤ s.1 ∧ s.1 ≤ 20000 * (i : Int)) [(4, .ptr 1 0 0 0), (7, .ptr 4 0 0 0), (6, .ptr 3 0 0 0)] (fun s => exH t g s.1 ++ s.2) (fun s => exH t g s.1)
    (0, []) (by exact rfl) (nodes_it (k + 7) t ok _) (by simp [posY]) (idsL_lt0 (by simp [ltL, MV.lt, ltL_I, ltL_W, ltL_B])) (by ((repeat (refine Hold.cons (by exact rfl) ?_)); exact Hold.nil)) rfl rfl rfl ⟨rfl, by simp, by simp⟩ rfl ?_ ?_ ?_
  · rintro i ⟨v, X⟩ _
    refine HeadIs.tkE X rfl rfl (exH_cl t g v X) fun u hu => ?_
    simp only [List.mem_cons, List.not_mem_nil, or_false] at hu
    rcases hu with rfl | rfl | rfl
    · exact ⟨.ptr 1 0 0 0, by exact rfl, by simp [MV.lt]⟩
    · exact ⟨.ptr 4 0 0 0, by exact rfl, by simp [MV.lt]⟩
    · exact ⟨.ptr 3 0 0 0, by exact rfl, by simp [MV.lt]⟩
  · rintro i ⟨v, X⟩ x' hx' ⟨hv, hv1, hv2⟩
    simp only at hv hv1 hv2 ⊢
    obtain ⟨⟨y, x⟩, hp, rfl⟩ : ∃ p, (nodesP t.ter.length t.W)[i]? = some p ∧ x' = [posM p] := by
      simp only [posY, List.getElem?_map, Option.map_eq_some_iff] at hx'
      obtain ⟨w, h1, h2⟩ := hx'
      exact ⟨w, h1, h2.symm⟩
    obtain ⟨hy, hxw⟩ := nodesP_mem.1 (List.mem_of_getElem? hp)
    have hi := (List.getElem?_eq_some_iff.1 hp).1
    have hnl : i < 144 := by
      rw [nodesP_len] at hi
      have := Nat.mul_le_mul h2 w2
      omega
    have htk : (nodesP t.ter.length t.W).take (i + 1) = (nodesP t.ter.length t.W).take i ++ [(y, x)] := by rw [List.take_add_one, hp]; rfl
    have hE := exF_app t g ((nodesP t.ter.length t.W).take i) (y, x)
    rw [← htk, ← hv] at hE
    obtain ⟨a1, a2⟩ := ok.top hg.pre y x hy hxw
    obtain ⟨n1, n2⟩ := ok.need hy hxw
    have hgl := hg.1.sh.hl
    have hgw := hg.1.sh.row hy
    have hyg : y < g.length := by rw [hgl]; exact hy
    have e1 : (g.map encW)[0 + ((y : Nat) : Int).toNat]? = some (encW (g.getD y [])) := by
      rw [Nat.zero_add, Int.toNat_natCast, List.getElem?_map, List.getD_eq_getElem?_getD, List.getElem?_eq_getElem hyg]; rfl
    have e2 : ((g.getD y []).map I64)[((x : Nat) : Int).toNat]? = some (I64 (at2 g y x)) := cell_at (by omega)
    clear hx' hp htk hv
    simp only [putA]
    repeat (first | (apply ef_newst; exact rfl; exact rfl; exact rfl; exact rfl; exact rfl) | apply ef_nil)
    apply preQ.normal
    cases hf : t.fl y x
    · have hfl := fun h => flown_c (k + 4) t (x : Int) (y : Int) h (by omega) (by omega) ((t.flI_nat hy hxw).trans hf)
      repeat (first | apply ef_seq | (apply ef_ldp; exact rfl; exact rfl; (exact rfl); exact rfl; (exact rfl); (first | exact rd_2 rfl rfl | exact rd_whole rfl)) | apply ef_nil | apply seqQ.normal | apply blockQ.normal | apply ef_block | apply ef_skip | (apply ef_condf; exact rfl; (exact (rfl : false = false))) | (apply ef_call; exact rfl; ((repeat (apply XVs.cons; exact rfl)); exact XVs.nil); (with_reducible exact hfl _)))
      apply rfQ.normal
      simp only [hf] at hE
      exact ⟨(v, [⟨0, false, 2, [posM (y, x)]⟩]), ⟨by rw [hE]; simp, by simp only; omega, by simp only; omega⟩, rfl⟩
    · have hfl := fun h => flown_c (k + 4) t (x : Int) (y : Int) h (by omega) (by omega) ((t.flI_nat hy hxw).trans hf)
      have hown := fun h => own_c (k + 6) t ok hy hxw h
      generalize g.getD y [] = row at *
      generalize at2 g y x = a at *
      generalize t.need y x = nn at *
      repeat (first | apply ef_seq | (apply ef_bin; exact rfl; exact rfl; exact rfl; (first | ((with_reducible refine bin_add (wrap_of ?_ ?_)) <;> omega) | ((with_reducible refine bin_sub (wrap_of ?_ ?_)) <;> omega))) | (apply ef_ldr; exact rfl; exact rfl; (exact rfl)) | (apply ef_ldp; exact rfl; exact rfl; (exact rfl); exact rfl; (first | exact rfl | assumption); (first | exact rd_2 rfl rfl | exact rd_whole rfl | exact rfl)) | (apply ef_ias; exact rfl; exact rfl; exact rfl; (omega); assumption; exact rfl) | (apply ef_iaa; exact rfl; exact rfl; exact rfl; (omega); (omega); (exact rfl)) | (apply ef_fap; exact rfl; exact rfl) | (apply ef_st; exact rfl; exact rfl; exact rfl; exact rfl; exact rfl; exact rfl; (exact rfl); exact rfl) | apply ef_nil | apply seqQ.normal | apply blockQ.normal | apply ef_block | (apply ef_condt; exact rfl; (exact (rfl : true = true))) | (apply ef_call; exact rfl; ((repeat (apply XVs.cons; exact rfl)); exact XVs.nil); (with_reducible first | exact hfl _ | exact hown _)))
      apply rfQ.normal
      simp only [hf, if_true] at hE
      exact ⟨(v + (a - nn), [⟨0, false, 2, [posM (y, x)]⟩]), ⟨by rw [hE], by simp only; omega, by simp only; omega⟩, rfl⟩
  · rintro ⟨v, X⟩ ⟨hv, hv1, hv2⟩
    simp only at hv ⊢
    rw [show (posY (nodesP t.ter.length t.W)).length = (nodesP t.ter.length t.W).length by simp [posY], List.take_length] at hv
    repeat (first | apply ef_seq | (apply ef_mv; exact rfl; exact rfl) | (apply ef_ldp; exact rfl; exact rfl; (exact rfl); exact rfl; (exact rfl); (exact rfl)) | apply ef_nil | apply seqQ.normal | apply ef_ret | apply blockQ.normal)
    (refine fin2 rfl (by exact rfl) (by exact rfl) ?_)
    rw [hv]
theorem ExcessOf_ok (k : Nat) {t : Tk} (hb : Bd t) (h0 : (taskF id t).2 = 0) {g : List (List Int)} (hg : Lea t g) (h : MHeap) : orA (k + 8) 38 [encT t] h = some (.tup [I64 (exF t g (nodesP t.ter.length t.W)), I64 0], h) := by
  have := callA (k := k + 7) (h := h) (frzL_lt (ms := [encT t]) (by simp [ltL, encT_lt])) rfl (ExcessOf_z k hb h0 hg) (by simp [okV, ok1, MV.lt, MV.pure]) rfl
  simpa [shV, sh1] using this
theorem ExcessOf_bad (k : Nat) {t : Tk} (hb : Bd t) (h0 : (taskF id t).2 ≠ 0) (h : MHeap) : orA (k + 8) 38 [encT t] h = some (.tup [I64 0, I64 (taskF id t).2], h) := by
  have ho := fun h => open_bad k hb h0 h
  generalize (taskF id t).2 = e at *
  have hz : runZ MT (orA (k + 7)) (itA (k + 7)) 4000000 38 [encT t] [] = some (.tup [I64 0, I64 e], []) := by
    refine runZ_of mf_ExcessOf (by simp) ?_
    simp only [argsL]
    repeat (first | apply ef_seq | (apply ef_mv; exact rfl; exact rfl) | (apply ef_bin; exact rfl; exact rfl; exact rfl; (exact cmp_t rfl (by first | exact rfl | (simp only [cmpP]; omega)))) | (apply ef_ldp; exact rfl; exact rfl; (exact rfl); exact rfl; (exact rfl); (exact rd_5 rfl rfl rfl rfl rfl)) | (apply ef_ext; exact rfl; exact rfl; exact rfl) | (apply ef_box; exact rfl; exact rfl; exact rfl; exact rfl) | (apply ef_newst; exact rfl; exact rfl; exact rfl; exact rfl; exact rfl) | apply ef_nil | apply seqQ.normal | apply ef_ret | apply seqQ.ret | (apply ef_condt; exact rfl; (exact (rfl : true = true))) | (apply ef_call; exact rfl; ((repeat (apply XVs.cons; exact rfl)); exact XVs.nil); (with_reducible exact ho _)))
    (refine fin2 rfl (by exact rfl) (by exact rfl) ?_)
    rfl
  have := callA (k := k + 7) (h := h) (frzL_lt (ms := [encT t]) (by simp [ltL, encT_lt])) rfl hz (by simp [okV, ok1, MV.lt, MV.pure]) rfl
  simpa [shV, sh1] using this
end Go.Proofs.Ytgjpdjihjphbdaa

/- Contracts: crossings; lists of nodes in a cell. -/
namespace Go.Proofs.Ytgjpdjihjphbdaa
open Go.RowKit
set_option linter.unusedVariables false

/-- A list of nodes of the call's own, or nil. -/
inductive LiM (m0 : Nat) (h : MHeap) : MV → List (Nat × Nat) → Prop
  | nil : LiM m0 h (.lit (.slice none 0 0)) []
  | arr (id gen : Nat) (Q : List (Nat × Nat)) : h[id]? = some ⟨gen, false, 2, Q.map posM⟩ → m0 ≤ id → LiM m0 h (.arr id 0 Q.length gen) Q
theorem LiM.app {m0 : Nat} {h : MHeap} {v : MV} {Q : List (Nat × Nat)} (q : LiM m0 h v Q) (X : MHeap) : LiM m0 (h ++ X) v Q := by
  cases q with
  | nil => exact .nil
  | arr id gen Q h1 h2 => exact .arr id gen Q (at_app h1 X) h2
theorem LiM.cell {m0 : Nat} {h : MHeap} {v : MV} {Q : List (Nat × Nat)} (q : LiM m0 h v Q) : rdCells v.cells 0 none = some v := by
  cases q <;> rfl
section
variable {O : Oracle} {I : Iter} {M n : Nat} {lk : Nat → Bool} {A : Sl} {h : MHeap} {Qc : MX2 → Sl → MHeap → Prop}
theorem ef_pushC {c m0 t2 tp t1 cs : Nat} {qv : MV} {Q : List (Nat × Nat)} {q : Nat × Nat} {os : List GO} (ht2 : Nat.blt t2 n = true) (hp : look A tp = some qv) (h1 : look A t1 = some (.arr h.length 0 1 0)) (hc : ∀ v, look ((t2, v) :: A) cs = some (.ptr c 0 0 0)) (hlk : ∀ i, lk i = false)
    (hcell : h[c]? = some ⟨0, false, 1, [qv]⟩) (hqu : LiM m0 h qv Q) (hcm : c < m0) (hm : m0 ≤ h.length) (hB : Q.length < 4000000)
    (hE : ∀ h' qv', h'[c]? = some ⟨0, false, 1, [qv']⟩ → LiM m0 h' qv' (Q ++ [q]) → qv'.lt m0 = false → (∀ j, j < m0 → j ≠ c → h'[j]? = h[j]?) → h.length ≤ h'.length → Ef O I M n lk (.reg os) ((t2, qv') :: A) h' Qc) :
    Ef O I M n lk (.reg (⟨none, some t2, .app 2 (.s tp) (.s t1)⟩ :: ⟨none, none, .st 1 (.s cs) (.s t2)⟩ :: os)) A (h ++ [⟨0, false, 2, [posM q]⟩]) Qc := by
  cases hqu with
  | nil =>
    refine ef_appn (ht := ht2) (v := .arr h.length 0 1 0) (e := posM q) (xs := []) hp h1 (by simp [MV.elems]) (by simp) rfl ?_
    refine ef_st (o := ⟨0, false, 1, [.lit (.slice none 0 0)]⟩) look_here rfl (hc _) (at_app (at_app hcell _) _) rfl (hlk _) rfl rfl ?_
    refine hE _ _ (by rw [List.getElem?_set_self (by simp; omega)]; rfl) ?_ (by simp [MV.lt]; omega) (fun j hj hjc => by rw [List.getElem?_set_ne (by omega), List.getElem?_append_left (by simp; omega), List.getElem?_append_left (by omega)]) (by simp)
    have e : LiM m0 (((h ++ [(⟨0, false, 2, [posM q]⟩ : MObj)]) ++ [(⟨0, false, 2, [posM q]⟩ : MObj)]).set c ⟨0, false, 1, [.arr (h.length + 1) 0 1 0]⟩) (.arr (h.length + 1) 0 [q].length 0) [q] :=
      .arr (h.length + 1) 0 [q] (by rw [List.getElem?_set_ne (by omega)]; simp) (by omega)
    simpa using e
  | arr id gen Q k1 k2 =>
    have hid : id < h.length := (List.getElem?_eq_some_iff.1 k1).1
    refine ef_app (ht := ht2) (o := ⟨gen, false, 2, Q.map posM⟩) (v := .arr h.length 0 1 0) (e := posM q) (xs := []) hp h1 (by simp [MV.elems]) (at_app k1 _) rfl (by simp) rfl (by simp; omega) rfl (hlk _) ?_
    refine ef_st (o := ⟨0, false, 1, [.arr id 0 Q.length gen]⟩) look_here rfl (hc _) (by rw [List.getElem?_set_ne (by omega)]; exact at_app hcell _) rfl (hlk _) rfl rfl ?_
    refine hE _ _ (by rw [List.getElem?_set_self (by simp; omega)]; rfl) ?_ (by simp [MV.lt]; omega) (fun j hj hjc => by rw [List.getElem?_set_ne (by omega), List.getElem?_set_ne (by omega), List.getElem?_append_left (by omega)]) (by simp)
    have e : LiM m0 (((h ++ [(⟨0, false, 2, [posM q]⟩ : MObj)]).set id ⟨gen + 1, false, 2, (Q.map posM).drop 0 ++ [posM q]⟩).set c ⟨0, false, 1, [.arr id 0 (Q.length + 1) (gen + 1)]⟩) (.arr id 0 (Q ++ [q]).length (gen + 1)) (Q ++ [q]) :=
      .arr id (gen + 1) (Q ++ [q]) (by rw [List.getElem?_set_ne (by omega), List.getElem?_set_self (by simp; omega)]; simp) k2
    simpa using e
end
end Go.Proofs.Ytgjpdjihjphbdaa

/- Crossings in both orders (no program). -/
namespace Go.Proofs.Ytgjpdjihjphbdaa
open Go.RowKit
set_option linter.unusedVariables false

theorem filt_asc : ∀ (k a : Nat) (l : List Int), Asc l → (∀ n ∈ l, (a : Int) ≤ n ∧ n < (a : Int) + (k : Int)) → ((List.range' a k).filter fun y : Nat => l.contains (y : Int)) = l.map Int.toNat
  | 0, a, [], _, _ => rfl
  | 0, a, n :: l, _, h => by have := h n List.mem_cons_self; omega
  | k + 1, a, [], _, _ => by simp
  | k + 1, a, n :: l, ha, h => by
    rw [List.range'_succ, List.filter_cons]
    have hn := h n List.mem_cons_self
    rw [Asc, List.pairwise_cons] at ha
    by_cases e : n = (a : Int)
    · subst e
      rw [if_pos (by simp)]
      have h2 : (List.range' (a + 1) k).filter (fun y : Nat => ((a : Int) :: l).contains (y : Int)) = (List.range' (a + 1) k).filter fun y : Nat => l.contains (y : Int) := by
        refine List.filter_congr fun y hy => ?_
        have := List.mem_range'_1.1 hy
        rw [Bool.eq_iff_iff, List.contains_iff_mem, List.contains_iff_mem, List.mem_cons]
        constructor
        · rintro (h | h)
          · omega
          · exact h
        · exact .inr
      rw [h2, filt_asc k (a + 1) l ha.2 fun m hm => ?_]
      · simp
      · have h1 := ha.1 m hm
        have h3 := h m (List.mem_cons_of_mem _ hm)
        omega
    · have hno : (n :: l).contains (a : Int) = false := by
        rw [Bool.eq_false_iff, ne_eq, List.contains_iff_mem, List.mem_cons]
        rintro (h1 | h1)
        · exact e h1.symm
        · have := ha.1 _ h1; omega
      rw [if_neg (by rw [hno]; simp)]
      refine filt_asc k (a + 1) (n :: l) (List.pairwise_cons.2 ha) fun m hm => ?_
      have h3 := h m hm
      rcases List.mem_cons.1 hm with rfl | hm
      · omega
      · have := ha.1 m hm; omega
theorem flatMap_if {α β : Type} (p : α → Bool) (f : α → List β) : ∀ l : List α, (l.flatMap fun a => if p a = true then f a else []) = (l.filter p).flatMap f
  | [] => rfl
  | a :: l => by
    rw [List.flatMap_cons, flatMap_if p f l, List.filter_cons]
    split
    · rw [List.flatMap_cons]
    · rfl
/-- Whether a row and a tie go through a node. -/
def Tk.cr (t : Tk) (p : Nat × Nat) : Bool := t.rows.contains (p.1 : Int) && t.ties.contains (p.2 : Int)
def Tk.crL (t : Tk) : List (Nat × Nat) := t.rows.flatMap fun y => t.ties.map fun x => (y.toNat, x.toNat)
theorem crs_eq {t : Tk} (ok : OkT t) : (nodesP t.ter.length t.W).filter t.cr = t.crL := by
  have h1 := filt_asc t.ter.length 0 t.rows ok.rs.2 fun n hn => by have := ok.rs.1 n hn; omega
  have h2 := filt_asc t.W 0 t.ties ok.ts.2 fun n hn => by have := ok.ts.1 n hn; omega
  rw [← List.range_eq_range'] at h1 h2
  unfold nodesP Tk.crL
  rw [List.filter_flatMap]
  have h3 : (fun y : Nat => ((List.range t.W).map fun x => (y, x)).filter t.cr) = fun y : Nat => if t.rows.contains (y : Int) = true then t.ties.map fun x => (y, x.toNat) else [] := by
    funext y
    rw [List.filter_map]
    split
    · rename_i hy
      have : (t.cr ∘ fun x : Nat => (y, x)) = fun x : Nat => t.ties.contains (x : Int) := by
        funext x; simp only [Function.comp, Tk.cr]; rw [hy]; rfl
      rw [this, h2, List.map_map]; rfl
    · rename_i hy
      have : (t.cr ∘ fun x : Nat => (y, x)) = fun x : Nat => false := by
        funext x; simp only [Function.comp, Tk.cr]; rw [Bool.eq_false_iff.2 hy]; rfl
      rw [this]; simp
  rw [h3, flatMap_if (fun y : Nat => t.rows.contains (y : Int)) fun y => t.ties.map fun x => (y, x.toNat), h1, List.flatMap_map]
theorem crs_len {t : Tk} (ok : OkT t) : t.crL.length ≤ 144 := by
  rw [← crs_eq ok]
  have h1 := List.length_filter_le t.cr (nodesP t.ter.length t.W)
  rw [nodesP_len] at h1
  have h2 := Nat.mul_le_mul ok.h1.2 ok.w1.2
  omega
end Go.Proofs.Ytgjpdjihjphbdaa

/- Contracts: crossings, comparisons, limits. -/
namespace Go.Proofs.Ytgjpdjihjphbdaa
open Go.RowKit
set_option linter.unusedVariables false

/-- The memory of CrossingsOf. -/
structure CrM (t : Tk) (qv : MV) (Q : List (Nat × Nat)) (h : MHeap) : Prop where
  b0 : h[0]? = some ⟨0, false, 5, [encT t]⟩
  b1 : h[1]? = some ⟨0, true, 2, []⟩
  b2 : h[2]? = some ⟨0, false, 9, [encO t]⟩
  b3 : h[3]? = some ⟨0, false, 1, [qv]⟩
  li : LiM 4 h qv Q
  e0 : Q = [] → qv = .lit (.slice none 0 0)
  e1 : Q ≠ [] → qv.lt 4 = false
theorem LiM.take {m0 : Nat} {h : MHeap} {v : MV} (q : LiM m0 h v []) (e : v = .lit (.slice none 0 0)) (n : Nat) : LiM m0 (h.take n) v [] := by
  subst e; exact .nil
theorem CrM.len {t : Tk} {qv : MV} {Q : List (Nat × Nat)} {h : MHeap} (m : CrM t qv Q h) : 4 ≤ h.length := by
  have := (List.getElem?_eq_some_iff.1 m.b3).1; omega
theorem CrM.cl {t : Tk} {qv : MV} {h : MHeap} (m : CrM t qv [] h) : Cl 4 h := by
  refine ⟨m.len, fun j o hj ho => ?_⟩
  have hq := m.e0 rfl
  match j, hj with
  | 0, _ => rw [m.b0] at ho; cases ho; simp [ltL, MV.lt, ltL_I, ltL_W]
  | 1, _ => rw [m.b1] at ho; cases ho; rfl
  | 2, _ => rw [m.b2] at ho; cases ho; simp [ltL, MV.lt, ltL_I, ltL_W, ltL_B]
  | 3, _ => rw [m.b3] at ho; cases ho; subst hq; rfl
theorem CrM.head {t : Tk} {qv : MV} {Q : List (Nat × Nat)} {h : MHeap} (m : CrM t qv Q h) : CrM t qv Q (if Q = [] then h.take 4 else h) := by
  split
  · rename_i e
    subst e
    have ht : ∀ {j : Nat} {o : MObj}, j < 4 → h[j]? = some o → (h.take 4)[j]? = some o := fun hj ho => by rw [List.getElem?_take, if_pos hj]; exact ho
    exact ⟨ht (by decide) m.b0, ht (by decide) m.b1, ht (by decide) m.b2, ht (by decide) m.b3, m.li.take (m.e0 rfl) 4, m.e0, m.e1⟩
  · exact m
def crM (Q : List (Nat × Nat)) : MV := .tup [if Q = [] then .lit (.slice none 0 0) else .arr 0 0 Q.length 0, I64 0]
def crN (Q : List (Nat × Nat)) : MHeap := if Q = [] then [] else [⟨0, false, 2, Q.map posM⟩]
theorem mf_CrossingsOf : MT.mf 36 = some ⟨38, [(.tmp 2), (.tmp 3)], (.seq (.reg [⟨none, (some 1), (.box 5 (.s 0))⟩, ⟨none, (some 2), (.nil0 2)⟩, ⟨none, (some 3), (.mv (.c (.lit (.int .i64 0))))⟩]) (.seq (.reg [⟨none, (some 9), (.ld (some 5) (.s 1))⟩, ⟨none, (some 10), (.call 113 [(.s 9)])⟩, ⟨none, (some 8), (.mv (.s 10))⟩, ⟨none, (some 11), (.ext (.s 8) 0)⟩, ⟨none, (some 12), (.ext (.s 8) 1)⟩, ⟨none, (some 4), (.new (.agg [(.lit (.slice none 0 0)), (.lit (.slice none 0 0)), (.lit (.slice none 0 0)), (.lit (.int .i64 0)), (.lit (.int .i64 0)), (.lit (.int .i64 0)), (.lit (.int .i64 0)), (.lit (.slice none 0 0)), (.lit (.slice none 0 0))]))⟩, ⟨none, none, (.st 9 (.s 4) (.s 11))⟩, ⟨none, (some 5), (.mv (.s 12))⟩]) (.seq (.seq (.reg [⟨none, (some 13), (.mv (.s 5))⟩, ⟨none, (some 14), (.bin .neq (.s 13) (.c (.lit (.int .i64 0))))⟩]) (.cond (.s 14) (.seq (.reg [⟨none, (some 15), (.mv (.s 5))⟩, ⟨none, (some 2), (.nil0 2)⟩, ⟨none, (some 3), (.mv (.s 15))⟩]) .ret) .skip)) (.seq (.reg [⟨none, (some 6), (.new (.lit (.slice none 0 0)))⟩]) (.seq (.seq (.reg [⟨none, (some 16), (.ld (some 9) (.s 4))⟩, ⟨none, (some 17), (.mf 114 1 [(.s 16)])⟩]) (.block 0 (.rf [4, 6] (.s 17) [18] (.reg [⟨none, (some 7), (.new (.agg [(.lit (.int .i64 0)), (.lit (.int .i64 0))]))⟩, ⟨none, none, (.st 2 (.s 7) (.s 18))⟩]) (.block 1 (.seq (.reg [⟨none, (some 19), (.fa 7 (.s 4))⟩, ⟨none, (some 20), (.ld none (.s 19))⟩, ⟨none, (some 21), (.fa 1 (.s 7))⟩, ⟨none, (some 22), (.ld none (.s 21))⟩, ⟨none, (some 23), (.ia 1 (.s 20) (.s 22))⟩, ⟨none, (some 24), (.ld none (.s 23))⟩, ⟨none, (some 25), (.mv (.s 24))⟩, ⟨(some (25, true)), (some 26), (.fa 8 (.s 4))⟩, ⟨(some (25, true)), (some 27), (.ld none (.s 26))⟩, ⟨(some (25, true)), (some 28), (.fa 0 (.s 7))⟩, ⟨(some (25, true)), (some 29), (.ld none (.s 28))⟩, ⟨(some (25, true)), (some 30), (.ia 1 (.s 27) (.s 29))⟩, ⟨(some (25, true)), (some 31), (.ld none (.s 30))⟩, ⟨none, (some 32), (.pick (.s 25) (.s 31) (.c (.lit (.bool false))))⟩]) (.cond (.s 32) (.reg [⟨none, (some 33), (.ld none (.s 6))⟩, ⟨none, (some 34), (.ld (some 2) (.s 7))⟩, ⟨none, (some 35), (.bsl (.agg [(.lit (.int .i64 0)), (.lit (.int .i64 0))]) 2 1 [(0, (.s 34))])⟩, ⟨none, (some 36), (.app 2 (.s 33) (.s 35))⟩, ⟨none, none, (.st 1 (.s 6) (.s 36))⟩]) .skip)))))) (.seq (.reg [⟨none, (some 37), (.ld none (.s 6))⟩, ⟨none, (some 2), (.mv (.s 37))⟩, ⟨none, (some 3), (.mv (.c (.lit (.int .i64 0))))⟩]) .ret))))))⟩ := by kernel_rfl
set_option maxHeartbeats 1000000 in
theorem CrossingsOf_z (k : Nat) {t : Tk} (hb : Bd t) (h0 : (taskF id t).2 = 0) : runZ MT (orA (k + 7)) (itA (k + 7)) 4000000 36 [encT t] [] = some (crM t.crL, crN t.crL) := by
  have ok := (task_ok h0).1
  have ho := fun h => open_ok k hb h0 h
  obtain ⟨h1, h2⟩ := ok.h1
  obtain ⟨w1, w2⟩ := ok.w1
  refine runZ_of mf_CrossingsOf (by simp) ?_
  simp only [argsL]
  repeat (first | apply ef_seq | (apply ef_mv; exact rfl; exact rfl) | (apply ef_bin; exact rfl; exact rfl; exact rfl; (exact cmp_f rfl (by simp only [cmpP]; omega))) | (apply ef_ldp; exact rfl; exact rfl; (exact rfl); exact rfl; (exact rfl); (first | exact rd_5 rfl rfl rfl rfl rfl | exact rd_whole rfl)) | (apply ef_ext; exact rfl; exact rfl; exact rfl) | (apply ef_box; exact rfl; exact rfl; exact rfl; exact rfl) | (apply ef_newst; exact rfl; exact rfl; exact rfl; exact rfl; exact rfl) | (apply ef_new; exact rfl) | (apply ef_nil0; exact rfl) | (apply ef_mf; exact rfl; (repeat (apply XVs.cons; exact rfl)); exact XVs.nil) | apply ef_nil | apply seqQ.normal | apply ef_block | apply ef_skip | (apply ef_condf; exact rfl; (exact (rfl : false = false))) | (apply ef_call; exact rfl; ((repeat (apply XVs.cons; exact rfl)); exact XVs.nil); (with_reducible exact ho _)))
  refine ef_rf (α := MV × List (Nat × Nat) × MHeap) (ids := []) (fun i s => CrM t s.1 s.2.1 s.2.2 ∧ s.2.1 = ((nodesP t.ter.length t.W).take i).filter t.cr ∧ s.2.1.length ≤ i) [(4, .ptr 2 0 0 0), (6, .ptr 3 0 0 0)] (fun s => s.2.2) (fun s => if s.2.1 = [] then s.2.2.take 4 else s.2.2)
    (.lit (.slice none 0 0), [], [⟨0, false, 5, [encT t]⟩, ⟨0, true, 2, []⟩, ⟨0, false, 9, [encO t]⟩, ⟨0, false, 1, [.lit (.slice none 0 0)]⟩]) (by exact rfl) (nodes_it (k + 7) t ok _) (by simp [posY]) (idsL_lt0 (by simp [ltL, MV.lt, ltL_I, ltL_W, ltL_B])) (by ((repeat (refine Hold.cons (by exact rfl) ?_)); exact Hold.nil)) rfl rfl rfl ⟨⟨rfl, rfl, rfl, rfl, .nil, fun _ => rfl, fun h => absurd rfl h⟩, rfl, by simp⟩ rfl ?_ ?_ ?_
  · rintro i ⟨qv, Q, h⟩ ⟨hm, _, _⟩
    simp only at hm ⊢
    by_cases hQ : Q = []
    · subst hQ
      rw [if_pos rfl]
      refine HeadIs.tk hm.cl fun u hu => ?_
      simp only [List.mem_cons, List.not_mem_nil, or_false] at hu
      rcases hu with rfl | rfl
      · exact ⟨.ptr 2 0 0 0, by exact rfl, by simp [MV.lt]⟩
      · exact ⟨.ptr 3 0 0 0, by exact rfl, by simp [MV.lt]⟩
    · rw [if_neg hQ]
      exact .cell (hltL_no (m := 4) (j := 3) (by decide) hm.b3 (by simp [ltL, hm.e1 hQ]))
  · rintro i ⟨qv, Q, h⟩ x' hx' ⟨hm, hQ, hl⟩
    simp only at hm hQ hl ⊢
    obtain ⟨⟨y, x⟩, hp, rfl⟩ : ∃ p, (nodesP t.ter.length t.W)[i]? = some p ∧ x' = [posM p] := by
      simp only [posY, List.getElem?_map, Option.map_eq_some_iff] at hx'
      obtain ⟨w, h1, h2⟩ := hx'
      exact ⟨w, h1, h2.symm⟩
    obtain ⟨hy, hxw⟩ := nodesP_mem.1 (List.mem_of_getElem? hp)
    have hi := (List.getElem?_eq_some_iff.1 hp).1
    have hnl : i < 144 := by
      rw [nodesP_len] at hi
      have := Nat.mul_le_mul h2 w2
      omega
    have htk : (nodesP t.ter.length t.W).take (i + 1) = (nodesP t.ter.length t.W).take i ++ [(y, x)] := by rw [List.take_add_one, hp]; rfl
    have hF : ((nodesP t.ter.length t.W).take (i + 1)).filter t.cr = Q ++ if t.cr (y, x) then [(y, x)] else [] := by
      rw [htk, List.filter_append, ← hQ]
      cases hc : t.cr (y, x) <;> simp [hc]
    have hm1 := hm.head
    generalize (if Q = [] then h.take 4 else h) = hh at *
    have hhl := hm1.len
    clear hx' hp htk hQ
    simp only [putA]
    have f2 := at_app hm1.b2 [(⟨0, false, 2, [posM (y, x)]⟩ : MObj)]
    have f3 := at_app hm1.b3 [(⟨0, false, 2, [posM (y, x)]⟩ : MObj)]
    have fp : (hh ++ [(⟨0, false, 2, [posM (y, x)]⟩ : MObj)])[hh.length]? = some ⟨0, false, 2, [posM (y, x)]⟩ := at_end _ _
    have hli := hm1.li.app [(⟨0, false, 2, [posM (y, x)]⟩ : MObj)]
    have e1 : (bRow t.ter.length t.rows)[((y : Nat) : Int).toNat]? = some (Bo (t.rows.contains (y : Int))) := bRow_at hy
    have e2 : (bRow t.W t.ties)[((x : Nat) : Int).toNat]? = some (Bo (t.ties.contains (x : Int))) := bRow_at hxw
    have hcr : t.cr (y, x) = (t.rows.contains (y : Int) && t.ties.contains (x : Int)) := rfl
    have hno : CrM t qv Q (hh ++ [(⟨0, false, 2, [posM (y, x)]⟩ : MObj)]) := ⟨at_app hm1.b0 _, at_app hm1.b1 _, f2, f3, hli, hm1.e0, hm1.e1⟩
    rw [hcr] at hF
    clear hcr
    generalize t.rows.contains (y : Int) = p at e1 hF
    generalize t.ties.contains (x : Int) = q at e2 hF
    repeat (first | (apply ef_newst; exact rfl; exact rfl; exact rfl; exact rfl; exact rfl) | apply ef_nil)
    apply preQ.normal
    cases p
    · repeat (first | apply ef_seq | (apply ef_mv; exact rfl; exact rfl) | (apply ef_gn; exact rfl; (exact (rfl : false = false)); exact rfl) | (apply ef_pick; exact rfl; exact rfl; exact rfl) | (apply ef_ldr; exact rfl; exact rfl; (exact rfl)) | (apply ef_ldp; exact rfl; exact rfl; (assumption); exact rfl; (exact rfl); (exact rfl)) | (apply ef_ias; exact rfl; exact rfl; exact rfl; (omega); assumption; exact rfl) | (apply ef_fap; exact rfl; exact rfl) | apply ef_nil | apply seqQ.normal | apply blockQ.normal | apply ef_block | apply ef_skip | (apply ef_condf; exact rfl; (exact (rfl : false = false))))
      apply rfQ.normal
      exact ⟨(qv, Q, _), ⟨hno, by rw [hF]; simp, by simp only; omega⟩, rfl⟩
    · cases q
      · repeat (first | apply ef_seq | (apply ef_mv; exact rfl; exact rfl) | (apply ef_gy; exact rfl; (exact (rfl : true = true))) | (apply ef_pick; exact rfl; exact rfl; exact rfl) | (apply ef_ldr; exact rfl; exact rfl; (exact rfl)) | (apply ef_ldp; exact rfl; exact rfl; (assumption); exact rfl; (exact rfl); (exact rfl)) | (apply ef_ias; exact rfl; exact rfl; exact rfl; (omega); assumption; exact rfl) | (apply ef_fap; exact rfl; exact rfl) | apply ef_nil | apply seqQ.normal | apply blockQ.normal | apply ef_block | apply ef_skip | (apply ef_condf; exact rfl; (exact (rfl : false = false))))
        apply rfQ.normal
        exact ⟨(qv, Q, _), ⟨hno, by rw [hF]; simp, by simp only; omega⟩, rfl⟩
      · repeat (first | apply ef_seq | (apply ef_mv; exact rfl; exact rfl) | (apply ef_gy; exact rfl; (exact (rfl : true = true))) | (apply ef_pick; exact rfl; exact rfl; exact rfl) | (apply ef_ldr; exact rfl; exact rfl; (exact rfl)) | (apply ef_ldp; exact rfl; exact rfl; (assumption); exact rfl; (exact rfl); (exact rfl)) | (apply ef_ias; exact rfl; exact rfl; exact rfl; (omega); assumption; exact rfl) | (apply ef_fap; exact rfl; exact rfl) | apply ef_nil | apply seqQ.normal | apply ef_block | (apply ef_condt; exact rfl; (exact (rfl : true = true))))
        (apply ef_ldp; (· exact rfl); (· exact rfl); (· exact f3); (· exact rfl); (· exact rfl); (· exact hli.cell))
        repeat (first | (apply ef_ldp; exact rfl; exact rfl; (assumption); exact rfl; (exact rfl); (exact rd_2 rfl rfl)) | (apply ef_bsl; exact rfl; (repeat (apply XVs.cons; exact rfl)); exact XVs.nil; exact rfl))
        (apply ef_pushC (c := 3) (m0 := 4) (q := (y, x)); (· exact rfl); (· exact rfl); (· exact rfl); (· exact fun _ => rfl); (· exact fun _ => rfl); (· exact f3); (· exact hli); (· decide); (· simp; omega); (· omega))
        intro h4 qv4 c4 l4 lt4 k4 n4
        repeat (first | apply ef_nil | apply blockQ.normal)
        apply rfQ.normal
        refine ⟨(qv4, Q ++ [(y, x)], h4), ⟨⟨?_, ?_, ?_, c4, l4, fun h => by simp at h, fun _ => lt4⟩, by rw [hF]; simp, by simp; omega⟩, rfl⟩
        · rw [k4 0 (by decide) (by decide)]; exact hno.b0
        · rw [k4 1 (by decide) (by decide)]; exact hno.b1
        · rw [k4 2 (by decide) (by decide)]; exact hno.b2
  · rintro ⟨qv, Q, h⟩ ⟨hm, hQ, hl⟩
    simp only at hm hQ ⊢
    rw [show (posY (nodesP t.ter.length t.W)).length = (nodesP t.ter.length t.W).length by simp [posY], List.take_length, crs_eq ok] at hQ
    have f3 := hm.b3
    have hli := hm.li
    repeat (first | apply ef_seq | apply seqQ.normal | apply blockQ.normal)
    (apply ef_ldp; (· exact rfl); (· exact rfl); (· exact f3); (· exact rfl); (· exact rfl); (· exact hli.cell))
    rw [← hQ]
    by_cases hQ0 : Q = []
    · have := hm.e0 hQ0
      subst this
      repeat (first | (apply ef_mv; exact rfl; exact rfl) | apply ef_nil | apply seqQ.normal | apply ef_ret)
      simp only [crM, crN, if_pos hQ0]
      exact fin2 rfl (by exact rfl) (by exact rfl) rfl
    · have hlt := hm.e1 hQ0
      simp only [crM, crN, if_neg hQ0]
      cases hli with
      | nil => exact absurd rfl hQ0
      | arr id gen Q k1 k2 =>
        repeat (first | (apply ef_mv; exact rfl; exact rfl) | apply ef_nil | apply seqQ.normal | apply ef_ret)
        (apply fin_al; (· exact rfl); (· exact rfl); (· exact rfl); (· exact k1); (· exact rfl); (· simp); (· exact ltL_P 0 Q); (· exact rfl); (· exact rfl); (· exact rfl))
theorem CrossingsOf_ok (k : Nat) {t : Tk} (hb : Bd t) (h0 : (taskF id t).2 = 0) (h : MHeap) : ∃ v X, orA (k + 8) 36 [encT t] h = some (.tup [v, I64 0], h ++ X) ∧ ∀ Y, ∃ u, frz 0 [] (h ++ X ++ Y) 8 v = some u ∧ (u = .sl (t.crL.map posM) ∨ (u = .lit (.slice none 0 0) ∧ t.crL = [])) := by
  have hz := CrossingsOf_z k hb h0
  by_cases hQ : t.crL = []
  · simp only [crM, crN, if_pos hQ] at hz
    have := callA (k := k + 7) (h := h) (frzL_lt (ms := [encT t]) (by simp [ltL, encT_lt])) rfl hz (by simp [okV, ok1, MV.lt, MV.pure]) rfl
    exact ⟨.lit (.slice none 0 0), [], by simpa [shV, sh1] using this, fun Y => ⟨_, rfl, .inr ⟨rfl, hQ⟩⟩⟩
  · simp only [crM, crN, if_neg hQ] at hz
    have := callA (k := k + 7) (h := h) (frzL_lt (ms := [encT t]) (by simp [ltL, encT_lt])) rfl hz (by simp [okV, ok1, MV.lt, MV.pure]) (by simp [okH, ltL_P, ltL, MV.lt, ltL_I, ltL_W])
    refine ⟨.arr h.length 0 t.crL.length 0, [⟨0, false, 2, t.crL.map posM⟩], by simpa [shV, sh1] using this, fun Y => ⟨_, ?_, .inl rfl⟩⟩
    exact (fz_arr (at_end _ _) rfl (by simp) (ltL_P 0 _) rfl).2 Y
theorem CrossingsOf_bad (k : Nat) {t : Tk} (hb : Bd t) (h0 : (taskF id t).2 ≠ 0) (h : MHeap) : ∃ X, orA (k + 8) 36 [encT t] h = some (.tup [.arr h.length 0 0 0, I64 (taskF id t).2], h ++ X) := by
  have ho := fun h => open_bad k hb h0 h
  generalize (taskF id t).2 = e at *
  have hz : runZ MT (orA (k + 7)) (itA (k + 7)) 4000000 36 [encT t] [] = some (.tup [.arr 0 0 0 0, I64 e], [⟨0, true, 2, []⟩]) := by
    refine runZ_of mf_CrossingsOf (by simp) ?_
    simp only [argsL]
    repeat (first | apply ef_seq | (apply ef_mv; exact rfl; exact rfl) | (apply ef_bin; exact rfl; exact rfl; exact rfl; (exact cmp_t rfl (by first | exact rfl | (simp only [cmpP]; omega)))) | (apply ef_ldp; exact rfl; exact rfl; (exact rfl); exact rfl; (exact rfl); (exact rd_5 rfl rfl rfl rfl rfl)) | (apply ef_ext; exact rfl; exact rfl; exact rfl) | (apply ef_box; exact rfl; exact rfl; exact rfl; exact rfl) | (apply ef_newst; exact rfl; exact rfl; exact rfl; exact rfl; exact rfl) | (apply ef_nil0; exact rfl) | apply ef_nil | apply seqQ.normal | apply ef_ret | apply seqQ.ret | (apply ef_condt; exact rfl; (exact (rfl : true = true))) | (apply ef_call; exact rfl; ((repeat (apply XVs.cons; exact rfl)); exact XVs.nil); (with_reducible exact ho _)))
    (apply fin_al; (· exact rfl); (· exact rfl); (· exact rfl); (· exact rfl); (· exact rfl); (· exact rfl); (· exact rfl); (· exact rfl); (· exact rfl); (· exact rfl))
  have := callA (k := k + 7) (h := h) (frzL_lt (ms := [encT t]) (by simp [ltL, encT_lt])) rfl hz (by simp [okV, ok1, MV.lt, MV.pure]) (by simp [okH, ltL, pureL])
  exact ⟨_, by simpa [shV, sh1] using this⟩

theorem mf_rCrossings : MT.mf 41 = some ⟨35, [(.tmp 2)], (.seq (.reg [⟨none, (some 1), (.box 5 (.s 0))⟩, ⟨none, (some 2), (.nil0 2)⟩]) (.seq (.reg [⟨none, (some 3), (.nil0 2)⟩]) (.seq (.seq (.reg [⟨none, (some 4), (.mv (.c (.lit (.int .i64 0))))⟩]) (.block 0 (.loop [4, 1, 3] (.seq (.seq (.reg [⟨none, (some 6), (.mv (.s 4))⟩, ⟨none, (some 7), (.fa 1 (.s 1))⟩, ⟨none, (some 8), (.ld none (.s 7))⟩, ⟨none, (some 9), (.len (.s 8))⟩, ⟨none, (some 10), (.bin .lss (.s 6) (.s 9))⟩]) (.cond (.s 10) .skip (.exit 0))) (.seq (.block 1 (.seq (.reg [⟨none, (some 5), (.mv (.c (.lit (.int .i64 0))))⟩]) (.block 2 (.loop [5, 1, 3, 4] (.seq (.seq (.reg [⟨none, (some 13), (.mv (.s 5))⟩, ⟨none, (some 14), (.fa 2 (.s 1))⟩, ⟨none, (some 15), (.ld none (.s 14))⟩, ⟨none, (some 16), (.len (.s 15))⟩, ⟨none, (some 17), (.bin .lss (.s 13) (.s 16))⟩]) (.cond (.s 17) .skip (.exit 2))) (.seq (.block 3 (.reg [⟨none, (some 20), (.mv (.s 3))⟩, ⟨none, (some 21), (.fa 2 (.s 1))⟩, ⟨none, (some 22), (.ld none (.s 21))⟩, ⟨none, (some 23), (.mv (.s 5))⟩, ⟨none, (some 24), (.ia 1 (.s 22) (.s 23))⟩, ⟨none, (some 25), (.ld none (.s 24))⟩, ⟨none, (some 26), (.fa 1 (.s 1))⟩, ⟨none, (some 27), (.ld none (.s 26))⟩, ⟨none, (some 28), (.mv (.s 4))⟩, ⟨none, (some 29), (.ia 1 (.s 27) (.s 28))⟩, ⟨none, (some 30), (.ld none (.s 29))⟩, ⟨none, (some 31), (.build [(.lit (.int .i64 0)), (.lit (.int .i64 0))] [(0, (1, (.s 25))), (1, (1, (.s 30)))])⟩, ⟨none, (some 32), (.bsl (.agg [(.lit (.int .i64 0)), (.lit (.int .i64 0))]) 2 1 [(0, (.s 31))])⟩, ⟨none, (some 33), (.app 2 (.s 20) (.s 32))⟩, ⟨none, (some 3), (.mv (.s 33))⟩])) (.reg [⟨none, (some 18), (.mv (.s 5))⟩, ⟨none, (some 19), (.bin .add (.s 18) (.c (.lit (.int .i64 1))))⟩, ⟨none, (some 5), (.mv (.s 19))⟩]))))))) (.reg [⟨none, (some 11), (.mv (.s 4))⟩, ⟨none, (some 12), (.bin .add (.s 11) (.c (.lit (.int .i64 1))))⟩, ⟨none, (some 4), (.mv (.s 12))⟩])))))) (.seq (.reg [⟨none, (some 34), (.mv (.s 3))⟩, ⟨none, (some 2), (.mv (.s 34))⟩]) .ret))))⟩ := by kernel_rfl
set_option maxHeartbeats 1000000 in
theorem rCrossings_z (k : Nat) {t : Tk} (ok : OkT t) (hb : Bd t) : runZ MT (orA k) (itA k) 4000000 41 [encT t] [] = some (.arr 0 0 t.crL.length 0, [⟨0, nlN t.crL.length, 2, t.crL.map posM⟩]) := by
  have hs2 : (MV.sl (t.rows.map I64)).slen = some t.rows.length := by simp [MV.slen]
  have hs3 : (MV.sl (t.ties.map I64)).slen = some t.ties.length := by simp [MV.slen]
  obtain ⟨b1, b2, b3, b4⟩ := hb
  have hcl := crs_len ok
  have hpre : ∀ i, ((t.rows.take i).flatMap fun y => t.ties.map fun x => (y.toNat, x.toNat)).length ≤ 144 := fun i => by
    refine Nat.le_trans ?_ hcl
    unfold Tk.crL
    conv => rhs; rw [← List.take_append_drop i t.rows]
    rw [List.flatMap_append, List.length_append]; omega
  refine runZ_of mf_rCrossings (by simp) ?_
  simp only [argsL]
  repeat (first | apply ef_seq | (apply ef_mv; exact rfl; exact rfl) | (apply ef_box; exact rfl; exact rfl; exact rfl; exact rfl) | (apply ef_nil0; exact rfl) | apply ef_nil | apply seqQ.normal | apply ef_block)
  refine ef_loopg (α := Nat × List (Nat × Nat)) (fun s => s.1 ≤ t.rows.length ∧ s.2 = (t.rows.take s.1).flatMap fun y => t.ties.map fun x => (y.toNat, x.toNat)) (fun s => [(4, I64 (s.1 : Int)), (3, .arr 2 0 s.2.length s.2.length)]) [(1, .ptr 0 0 0 0)] (fun s => nbHp t s.2) (fun s => t.rows.length - s.1) (0, []) [4, 3] (fun _ => rfl) (by ((repeat (refine Hold.cons (by exact rfl) ?_)); exact Hold.nil)) (by ((repeat (refine Hold.cons (by exact rfl) ?_)); exact Hold.nil)) rfl rfl rfl ⟨by simp, rfl⟩ (by simp; omega) ?_
  rintro ⟨i, L⟩ ⟨hi, hL⟩
  simp only at hi hL ⊢
  by_cases hlt : i < t.rows.length
  · have e1 := at_map I64 t.rows i hlt
    have hn := ok.rs.1 _ (List.getElem_mem hlt)
    have HT := Lib.hid (show t.rows.take (i + 1) = t.rows.take i ++ [t.rows[i]] by rw [List.take_add_one, List.getElem?_eq_getElem hlt]; rfl)
    have HL := Lib.hid hL
    have hLl : (L.length + t.ties.length : Nat) ≤ 144 := by
      have := hpre (i + 1)
      rw [HT.out, List.flatMap_append, ← hL] at this
      simpa using this
    clear hL hpre
    generalize t.rows[i] = r at e1 hn HT
    repeat (first | apply ef_seq | (apply ef_mv; exact rfl; exact rfl) | (apply ef_bin; exact rfl; exact rfl; exact rfl; (exact cmp_t rfl (by first | exact rfl | (simp only [cmpP]; omega)))) | (apply ef_len; exact rfl; exact rfl; (assumption)) | (apply ef_ldp; exact rfl; exact rfl; (exact rfl); exact rfl; (exact rfl); (exact rfl)) | (apply ef_fap; exact rfl; exact rfl) | apply ef_nil | apply seqQ.normal | apply ef_block | apply ef_skip | (apply ef_condt; exact rfl; (exact (rfl : true = true))))
    refine ef_loopg (α := Nat) (fun j => j ≤ t.ties.length) (fun j => [(5, I64 (j : Int)), (3, .arr 2 0 (L ++ (t.ties.take j).map fun x => (r.toNat, x.toNat)).length (L ++ (t.ties.take j).map fun x => (r.toNat, x.toNat)).length)]) [(1, .ptr 0 0 0 0), (4, I64 (i : Int))] (fun j => nbHp t (L ++ (t.ties.take j).map fun x => (r.toNat, x.toNat))) (fun j => t.ties.length - j) 0 [5, 3] (fun _ => rfl) (by simp only [List.take_zero, List.map_nil, List.append_nil]; ((repeat (refine Hold.cons (by exact rfl) ?_)); exact Hold.nil)) (by ((repeat (refine Hold.cons (by exact rfl) ?_)); exact Hold.nil)) rfl rfl (by simp) (by simp) (by simp; omega) ?_
    rintro j hj
    try simp only at hj ⊢
    by_cases hlt2 : j < t.ties.length
    · have e2 := at_map I64 t.ties j hlt2
      have hm := ok.ts.1 _ (List.getElem_mem hlt2)
      have HT2 := Lib.hid (show t.ties.take (j + 1) = t.ties.take j ++ [t.ties[j]] by rw [List.take_add_one, List.getElem?_eq_getElem hlt2]; rfl)
      have hll : (L ++ (t.ties.take j).map fun x => (r.toNat, x.toNat)).length ≤ 144 := by rw [List.length_append, List.length_map, List.length_take]; omega
      have hap : L ++ (t.ties.take (j + 1)).map (fun x => (r.toNat, x.toNat)) = (L ++ (t.ties.take j).map fun x => (r.toNat, x.toNat)) ++ [(r.toNat, t.ties[j].toNat)] := by
        rw [HT2.out, List.map_append, List.append_assoc]; rfl
      generalize t.ties[j] = c at e2 hm HT2 hap
      have HA := Lib.hid hap
      clear hap
      generalize (L ++ (t.ties.take j).map fun x => (r.toNat, x.toNat)) = M at *
      repeat (first | apply ef_seq | (apply ef_mv; exact rfl; exact rfl) | (apply ef_bin; exact rfl; exact rfl; exact rfl; (exact cmp_t rfl (by first | exact rfl | (simp only [cmpP]; omega)))) | (apply ef_len; exact rfl; exact rfl; (assumption)) | (apply ef_ldr; exact rfl; exact rfl; (exact rfl)) | (apply ef_ldp; exact rfl; exact rfl; (exact rfl); exact rfl; (exact rfl); (exact rfl)) | (apply ef_ias; exact rfl; exact rfl; exact rfl; (omega); assumption; exact rfl) | (apply ef_fap; exact rfl; exact rfl) | (apply ef_build; exact rfl; (repeat (apply XVs.cons; exact rfl)); exact XVs.nil; exact rfl; exact rfl) | (apply ef_bsl; exact rfl; (repeat (apply XVs.cons; exact rfl)); exact XVs.nil; exact rfl) | apply ef_nil | apply seqQ.normal | apply ef_block | apply ef_skip | (apply ef_condt; exact rfl; (exact (rfl : true = true))))
      (apply ef_nbapp (t := t) (L := M) (p := (r.toNat, c.toNat)) (G := []); (· exact rfl); (· exact rfl); (· exact rfl); (· omega); (· exact show posI c r = posM (r.toNat, c.toNat) from by rw [show c = (((r.toNat, c.toNat).2 : Nat) : Int) by simp only; omega, show r = (((r.toNat, c.toNat).1 : Nat) : Int) by simp only; omega]; rfl); (· exact fun _ => rfl))
      repeat (first | (apply ef_mv; exact rfl; exact rfl) | (apply ef_bin; exact rfl; exact rfl; exact rfl; (((with_reducible refine bin_add (wrap_of ?_ ?_)) <;> omega))) | apply ef_nil | apply seqQ.normal | apply blockQ.normal)
      refine loopQ.normal _ _ ⟨j + 1, hlt2, by omega, ⟨by rw [HA.out]; ((repeat (refine Hold.cons (by exact rfl) ?_)); exact Hold.nil), by ((repeat (refine Hold.cons (by exact rfl) ?_)); exact Hold.nil)⟩, ?_⟩
      rw [HA.out]
      refine HeadIs.tkE [⟨0, false, 2, [posM (r.toNat, c.toNat)]⟩] (by first | exact rfl | simp) rfl (nbHp_cl t _ _) fun u hu => ?_
      simp only [List.mem_cons, List.not_mem_nil, or_false] at hu
      rcases hu with rfl | rfl | rfl | rfl
      · exact ⟨_, by exact rfl, rfl⟩
      · exact ⟨_, by exact rfl, by simp [MV.lt]⟩
      · exact ⟨_, by exact rfl, by simp [MV.lt]⟩
      · exact ⟨_, by exact rfl, rfl⟩
    · rw [List.take_of_length_le (by omega)]
      repeat (first | apply ef_seq | (apply ef_mv; exact rfl; exact rfl) | (apply ef_bin; exact rfl; exact rfl; exact rfl; (first | exact cmp_f rfl (by simp only [cmpP]; omega) | ((with_reducible refine bin_add (wrap_of ?_ ?_)) <;> omega))) | (apply ef_len; exact rfl; exact rfl; (assumption)) | (apply ef_ldp; exact rfl; exact rfl; (exact rfl); exact rfl; (exact rfl); (exact rfl)) | (apply ef_fap; exact rfl; exact rfl) | apply ef_nil | apply seqQ.normal | apply loopQ.exit | apply ef_exit | apply seqQ.exit | apply blockQ.normal | apply blockQ.here | (apply ef_condf; exact rfl; (exact (rfl : false = false))))
      refine loopQ.normal _ _ ⟨(i + 1, L ++ t.ties.map fun x => (r.toNat, x.toNat)), ⟨hlt, by simp only; rw [HT.out, List.flatMap_append, ← HL.out]; simp⟩, by simp only; omega, ⟨by ((repeat (refine Hold.cons (by exact rfl) ?_)); exact Hold.nil), by ((repeat (refine Hold.cons (by exact rfl) ?_)); exact Hold.nil)⟩, .all (by simp)⟩
  · have hL2 : L = t.crL := by rw [hL, List.take_of_length_le (by omega)]; rfl
    repeat (first | apply ef_seq | (apply ef_mv; exact rfl; exact rfl) | (apply ef_bin; exact rfl; exact rfl; exact rfl; (exact cmp_f rfl (by simp only [cmpP]; omega))) | (apply ef_len; exact rfl; exact rfl; (assumption)) | (apply ef_ldp; exact rfl; exact rfl; (exact rfl); exact rfl; (exact rfl); (exact rfl)) | (apply ef_fap; exact rfl; exact rfl) | apply ef_nil | apply seqQ.normal | apply loopQ.exit | apply ef_ret | apply ef_exit | apply seqQ.exit | apply blockQ.here | (apply ef_condf; exact rfl; (exact (rfl : false = false))))
    rw [← hL2]
    (apply fin_arr; (· exact rfl); (· exact rfl); (· exact rfl); (· exact rfl); (· simp); (· (exact ltL_P 0 L)); (· (rw [List.drop_zero, List.take_of_length_le (by simp)])); (· exact rfl); (· exact rfl); (· (exact rfl)))
theorem rCrossings_c (k : Nat) {t : Tk} (ok : OkT t) (hb : Bd t) (h : MHeap) : orA (k + 1) 41 [encT t] h = some (.arr h.length 0 t.crL.length 0, h ++ [⟨0, nlN t.crL.length, 2, t.crL.map posM⟩]) := by
  have := callA (k := k) (h := h) (frzL_lt (ms := [encT t]) (by simp [ltL, encT_lt])) rfl (rCrossings_z k ok hb) rfl (by simp [okH, ltL_P, ltL, MV.lt, ltL_I, ltL_W])
  simpa [shV, sh1] using this

theorem mf_SamePositions : MT.mf 40 = some ⟨26, [(.tmp 4)], (.seq (.reg [⟨none, (some 4), (.mv (.c (.lit (.bool false))))⟩]) (.seq (.seq (.reg [⟨none, (some 6), (.mv (.s 0))⟩, ⟨none, (some 7), (.len (.s 6))⟩, ⟨none, (some 8), (.mv (.s 1))⟩, ⟨none, (some 9), (.len (.s 8))⟩, ⟨none, (some 10), (.bin .neq (.s 7) (.s 9))⟩]) (.cond (.s 10) (.seq (.reg [⟨none, (some 4), (.mv (.c (.lit (.bool false))))⟩]) .ret) .skip)) (.seq (.seq (.reg [⟨none, (some 5), (.mv (.c (.lit (.int .i64 0))))⟩]) (.block 0 (.loop [5, 0, 1] (.seq (.seq (.reg [⟨none, (some 11), (.mv (.s 5))⟩, ⟨none, (some 12), (.mv (.s 0))⟩, ⟨none, (some 13), (.len (.s 12))⟩, ⟨none, (some 14), (.bin .lss (.s 11) (.s 13))⟩]) (.cond (.s 14) .skip (.exit 0))) (.seq (.block 1 (.seq (.reg [⟨none, (some 17), (.mv (.s 0))⟩, ⟨none, (some 18), (.mv (.s 5))⟩, ⟨none, (some 19), (.ia 2 (.s 17) (.s 18))⟩, ⟨none, (some 20), (.ld (some 2) (.s 19))⟩, ⟨none, (some 21), (.mv (.s 1))⟩, ⟨none, (some 22), (.mv (.s 5))⟩, ⟨none, (some 23), (.ia 2 (.s 21) (.s 22))⟩, ⟨none, (some 24), (.ld (some 2) (.s 23))⟩, ⟨none, (some 25), (.eqa 2 true (.s 20) (.s 24))⟩]) (.cond (.s 25) (.seq (.reg [⟨none, (some 4), (.mv (.c (.lit (.bool false))))⟩]) .ret) .skip))) (.reg [⟨none, (some 15), (.mv (.s 5))⟩, ⟨none, (some 16), (.bin .add (.s 15) (.c (.lit (.int .i64 1))))⟩, ⟨none, (some 5), (.mv (.s 16))⟩])))))) (.seq (.reg [⟨none, (some 4), (.mv (.c (.lit (.bool true))))⟩]) .ret))))⟩ := by kernel_rfl
theorem SamePositions_z (k : Nat) (Q : List (Nat × Nat)) (hQ : Q.length ≤ 100000) : runZ MT (orA k) (itA k) 4000000 40 [.sl (Q.map posM), .sl (Q.map posM)] [] = some (Bo true, []) := by
  have hl : (MV.sl (Q.map posM)).slen = some Q.length := by simp [MV.slen]
  refine runZ_of mf_SamePositions (by simp) ?_
  simp only [argsL]
  repeat (first | apply ef_seq | (apply ef_mv; exact rfl; exact rfl) | (apply ef_bin; exact rfl; exact rfl; exact rfl; (exact cmp_f rfl (by simp only [cmpP]; omega))) | (apply ef_len; exact rfl; exact rfl; (assumption)) | apply ef_nil | apply seqQ.normal | apply ef_block | apply ef_skip | (apply ef_condf; exact rfl; (exact (rfl : false = false))))
  refine ef_loopf (α := Nat) (fun i => i ≤ Q.length) (fun i => [(5, I64 (i : Int))]) [(0, _), (1, _)] (fun _ => _) (fun i => Q.length - i) 0 [5] (fun _ => rfl) (by ((repeat (refine Hold.cons (by exact rfl) ?_)); exact Hold.nil)) (by ((repeat (refine Hold.cons (by exact rfl) ?_)); exact Hold.nil)) rfl rfl (by simp) (by simp; omega) ?_
  rintro i hi
  try simp only at hi ⊢
  by_cases hlt : i < Q.length
  · have e1 := at_map posM Q i hlt
    generalize Q[i] = p at e1
    obtain ⟨y, x⟩ := p
    have hq : negIf true ((x : Int) == (x : Int) && ((y : Int) == (y : Int) && true)) = false := by simp [negIf]
    repeat (first | apply ef_seq | (apply ef_mv; exact rfl; exact rfl) | (apply ef_bin; exact rfl; exact rfl; exact rfl; (first | exact cmp_t rfl (by first | exact rfl | (simp only [cmpP]; omega)) | ((with_reducible refine bin_add (wrap_of ?_ ?_)) <;> omega))) | (apply ef_len; exact rfl; exact rfl; (assumption)) | (apply ef_ldr; exact rfl; exact rfl; (exact rd_2 rfl rfl)) | (apply ef_ias; exact rfl; exact rfl; exact rfl; (omega); assumption; exact rfl) | (apply ef_eqa; exact rfl; exact rfl; exact rfl; exact rfl; exact rfl; exact rfl) | apply ef_nil | apply seqQ.normal | apply blockQ.normal | apply ef_block | apply ef_skip | (apply ef_condt; exact rfl; (exact (rfl : true = true))) | (apply ef_condf; exact rfl; (assumption)))
    (refine loopQ.normal _ _ ⟨i + 1, hlt, (by first | (simp only; omega) | omega), ⟨by ((repeat (refine Hold.cons (by exact rfl) ?_)); exact Hold.nil), by ((repeat (refine Hold.cons (by exact rfl) ?_)); exact Hold.nil)⟩, .inl (Nat.le_refl _), (by first | exact List.take_length | exact rfl | exact takeF rfl rfl)⟩)
  · repeat (first | apply ef_seq | (apply ef_mv; exact rfl; exact rfl) | (apply ef_bin; exact rfl; exact rfl; exact rfl; (exact cmp_f rfl (by simp only [cmpP]; omega))) | (apply ef_len; exact rfl; exact rfl; (assumption)) | apply ef_nil | apply seqQ.normal | apply loopQ.exit | apply ef_ret | apply ef_exit | apply seqQ.exit | apply blockQ.here | (apply ef_condf; exact rfl; (exact (rfl : false = false))))
    (refine fin1 rfl (by exact rfl) rfl ?_)
    rfl
theorem SamePositions_z0 (k : Nat) : runZ MT (orA k) (itA k) 4000000 40 [.lit (.slice none 0 0), .sl []] [] = some (Bo true, []) := by kernel_rfl
theorem SamePositions_c (k : Nat) {Q : List (Nat × Nat)} (hQ : Q.length ≤ 100000) (h : MHeap) {v w u : MV} (hv : frz 0 [] h 8 v = some u) (hu : u = .sl (Q.map posM) ∨ (u = .lit (.slice none 0 0) ∧ Q = [])) (hw : frz 0 [] h 8 w = some (.sl (Q.map posM))) : orA (k + 1) 40 [v, w] h = some (Bo true, h) := by
  rcases hu with rfl | ⟨rfl, rfl⟩
  · exact callL (args' := [.sl (Q.map posM), .sl (Q.map posM)]) (by simp [List.mapM_cons, hv, hw]) rfl (SamePositions_z k Q hQ)
  · exact callL (args' := [.lit (.slice none 0 0), .sl []]) (by simp [List.mapM_cons, hv, hw]) rfl (SamePositions_z0 k)

theorem mf_bLists : MT.mf 42 = some ⟨27, [(.tmp 4)], (.seq (.reg [⟨none, (some 4), (.mv (.c (.lit (.bool false))))⟩]) (.seq (.seq (.reg [⟨none, (some 6), (.mv (.s 0))⟩, ⟨none, (some 7), (.len (.s 6))⟩, ⟨none, (some 8), (.mv (.s 1))⟩, ⟨none, (some 9), (.len (.s 8))⟩, ⟨none, (some 10), (.bin .neq (.s 7) (.s 9))⟩]) (.cond (.s 10) (.seq (.reg [⟨none, (some 4), (.mv (.c (.lit (.bool false))))⟩]) .ret) .skip)) (.seq (.seq (.reg [⟨none, (some 5), (.mv (.c (.lit (.int .i64 0))))⟩]) (.block 0 (.loop [5, 0, 1] (.seq (.seq (.reg [⟨none, (some 11), (.mv (.s 5))⟩, ⟨none, (some 12), (.mv (.s 0))⟩, ⟨none, (some 13), (.len (.s 12))⟩, ⟨none, (some 14), (.bin .lss (.s 11) (.s 13))⟩]) (.cond (.s 14) .skip (.exit 0))) (.seq (.block 1 (.seq (.reg [⟨none, (some 17), (.mv (.s 0))⟩, ⟨none, (some 18), (.mv (.s 5))⟩, ⟨none, (some 19), (.ia 1 (.s 17) (.s 18))⟩, ⟨none, (some 20), (.ld none (.s 19))⟩, ⟨none, (some 21), (.mv (.s 1))⟩, ⟨none, (some 22), (.mv (.s 5))⟩, ⟨none, (some 23), (.ia 1 (.s 21) (.s 22))⟩, ⟨none, (some 24), (.ld none (.s 23))⟩, ⟨none, (some 25), (.call 21 [(.s 20), (.s 24)])⟩, ⟨none, (some 26), (.un .not (.s 25))⟩]) (.cond (.s 26) (.seq (.reg [⟨none, (some 4), (.mv (.c (.lit (.bool false))))⟩]) .ret) .skip))) (.reg [⟨none, (some 15), (.mv (.s 5))⟩, ⟨none, (some 16), (.bin .add (.s 15) (.c (.lit (.int .i64 1))))⟩, ⟨none, (some 5), (.mv (.s 16))⟩])))))) (.seq (.reg [⟨none, (some 4), (.mv (.c (.lit (.bool true))))⟩]) .ret))))⟩ := by kernel_rfl
theorem bLists_z (k : Nat) (g : List (List Int)) (hg : g.length ≤ 100000) (hr : ∀ r ∈ g, r.length < 1000000) : runZ MT (orA (k + 1)) (itA (k + 1)) 4000000 42 [.sl (g.map encW), .sl (g.map encW)] [] = some (Bo true, []) := by
  have hl : (MV.sl (g.map encW)).slen = some g.length := by simp [MV.slen]
  refine runZ_of mf_bLists (by simp) ?_
  simp only [argsL]
  repeat (first | apply ef_seq | (apply ef_mv; exact rfl; exact rfl) | (apply ef_bin; exact rfl; exact rfl; exact rfl; (exact cmp_f rfl (by simp only [cmpP]; omega))) | (apply ef_len; exact rfl; exact rfl; (assumption)) | apply ef_nil | apply seqQ.normal | apply ef_block | apply ef_skip | (apply ef_condf; exact rfl; (exact (rfl : false = false))))
  refine ef_loopf (α := Nat) (fun i => i ≤ g.length) (fun i => [(5, I64 (i : Int))]) [(0, _), (1, _)] (fun _ => _) (fun i => g.length - i) 0 [5] (fun _ => rfl) (by ((repeat (refine Hold.cons (by exact rfl) ?_)); exact Hold.nil)) (by ((repeat (refine Hold.cons (by exact rfl) ?_)); exact Hold.nil)) rfl rfl (by simp) (by simp; omega) ?_
  rintro i hi
  try simp only at hi ⊢
  by_cases hlt : i < g.length
  · have e1 := at_map encW g i hlt
    have hrl := hr _ (List.getElem_mem hlt)
    generalize g[i] = r at e1 hrl
    have hI := fun h => bInts_c k r r h (v := encW r) (w := encW r) hrl (frz_sl (ltL_I 0 r)) (frz_sl (ltL_I 0 r)) (t := true) (by simp)
    repeat (first | apply ef_seq | (apply ef_mv; exact rfl; exact rfl) | (apply ef_bin; exact rfl; exact rfl; exact rfl; (first | exact cmp_t rfl (by first | exact rfl | (simp only [cmpP]; omega)) | ((with_reducible refine bin_add (wrap_of ?_ ?_)) <;> omega))) | (apply ef_len; exact rfl; exact rfl; (assumption)) | (apply ef_ldr; exact rfl; exact rfl; (exact rfl)) | (apply ef_ias; exact rfl; exact rfl; exact rfl; (omega); assumption; exact rfl) | (apply ef_notT; exact rfl; exact rfl) | apply ef_nil | apply seqQ.normal | apply blockQ.normal | apply ef_block | apply ef_skip | (apply ef_condt; exact rfl; (exact (rfl : true = true))) | (apply ef_condf; exact rfl; (exact (rfl : false = false))) | (apply ef_call; exact rfl; ((repeat (apply XVs.cons; exact rfl)); exact XVs.nil); (with_reducible exact hI _)))
    (refine loopQ.normal _ _ ⟨i + 1, hlt, (by first | (simp only; omega) | omega), ⟨by ((repeat (refine Hold.cons (by exact rfl) ?_)); exact Hold.nil), by ((repeat (refine Hold.cons (by exact rfl) ?_)); exact Hold.nil)⟩, .inl (Nat.le_refl _), (by first | exact List.take_length | exact rfl | exact takeF rfl rfl)⟩)
  · repeat (first | apply ef_seq | (apply ef_mv; exact rfl; exact rfl) | (apply ef_bin; exact rfl; exact rfl; exact rfl; (exact cmp_f rfl (by simp only [cmpP]; omega))) | (apply ef_len; exact rfl; exact rfl; (assumption)) | apply ef_nil | apply seqQ.normal | apply loopQ.exit | apply ef_ret | apply ef_exit | apply seqQ.exit | apply blockQ.here | (apply ef_condf; exact rfl; (exact (rfl : false = false))))
    (refine fin1 rfl (by exact rfl) rfl ?_)
    rfl
theorem bLists_c (k : Nat) (g : List (List Int)) (hg : g.length ≤ 100000) (hr : ∀ r ∈ g, r.length < 1000000) (h : MHeap) {v w : MV} (hv : frz 0 [] h 8 v = some (.sl (g.map encW))) (hw : frz 0 [] h 8 w = some (.sl (g.map encW))) : orA (k + 2) 42 [v, w] h = some (Bo true, h) :=
  callL (args' := [.sl (g.map encW), .sl (g.map encW)]) (by simp [List.mapM_cons, hv, hw]) rfl (bLists_z k g hg hr)

def fewT (t : Tk) : Bool := decide (t.ter.length ≤ 14) && decide (t.rows.length ≤ 14) && decide (t.ties.length ≤ 14) && t.ter.all fun r => decide (r.length ≤ 14)
theorem fewT_bd {t : Tk} (h : fewT t = true) : Bd t ∧ t.ter.length ≤ 14 ∧ t.rows.length ≤ 14 ∧ t.ties.length ≤ 14 := by
  simp only [fewT, Bool.and_eq_true, decide_eq_true_eq, List.all_eq_true] at h
  obtain ⟨⟨⟨h1, h2⟩, h3⟩, h4⟩ := h
  exact ⟨⟨by omega, by omega, by omega, fun r hr => by have := h4 r hr; omega⟩, h1, h2, h3⟩
theorem mf_Few : MT.mf 33 = some ⟨34, [(.tmp 2)], (.seq (.reg [⟨none, (some 1), (.box 5 (.s 0))⟩, ⟨none, (some 2), (.mv (.c (.lit (.bool false))))⟩]) (.seq (.seq (.reg [⟨none, (some 4), (.fa 0 (.s 1))⟩, ⟨none, (some 5), (.ld none (.s 4))⟩, ⟨none, (some 6), (.len (.s 5))⟩, ⟨none, (some 7), (.bin .gtr (.s 6) (.c (.lit (.int .i64 14))))⟩, ⟨none, (some 8), (.mv (.s 7))⟩, ⟨(some (8, false)), (some 9), (.fa 1 (.s 1))⟩, ⟨(some (8, false)), (some 10), (.ld none (.s 9))⟩, ⟨(some (8, false)), (some 11), (.len (.s 10))⟩, ⟨(some (8, false)), (some 12), (.bin .gtr (.s 11) (.c (.lit (.int .i64 14))))⟩, ⟨none, (some 13), (.pick (.s 8) (.c (.lit (.bool true))) (.s 12))⟩, ⟨none, (some 14), (.mv (.s 13))⟩, ⟨(some (14, false)), (some 15), (.fa 2 (.s 1))⟩, ⟨(some (14, false)), (some 16), (.ld none (.s 15))⟩, ⟨(some (14, false)), (some 17), (.len (.s 16))⟩, ⟨(some (14, false)), (some 18), (.bin .gtr (.s 17) (.c (.lit (.int .i64 14))))⟩, ⟨none, (some 19), (.pick (.s 14) (.c (.lit (.bool true))) (.s 18))⟩]) (.cond (.s 19) (.seq (.reg [⟨none, (some 2), (.mv (.c (.lit (.bool false))))⟩]) .ret) .skip)) (.seq (.seq (.reg [⟨none, (some 3), (.mv (.c (.lit (.int .i64 0))))⟩]) (.block 0 (.loop [3, 1] (.seq (.seq (.reg [⟨none, (some 20), (.mv (.s 3))⟩, ⟨none, (some 21), (.fa 0 (.s 1))⟩, ⟨none, (some 22), (.ld none (.s 21))⟩, ⟨none, (some 23), (.len (.s 22))⟩, ⟨none, (some 24), (.bin .lss (.s 20) (.s 23))⟩]) (.cond (.s 24) .skip (.exit 0))) (.seq (.block 1 (.seq (.reg [⟨none, (some 27), (.fa 0 (.s 1))⟩, ⟨none, (some 28), (.ld none (.s 27))⟩, ⟨none, (some 29), (.mv (.s 3))⟩, ⟨none, (some 30), (.ia 1 (.s 28) (.s 29))⟩, ⟨none, (some 31), (.ld none (.s 30))⟩, ⟨none, (some 32), (.len (.s 31))⟩, ⟨none, (some 33), (.bin .gtr (.s 32) (.c (.lit (.int .i64 14))))⟩]) (.cond (.s 33) (.seq (.reg [⟨none, (some 2), (.mv (.c (.lit (.bool false))))⟩]) .ret) .skip))) (.reg [⟨none, (some 25), (.mv (.s 3))⟩, ⟨none, (some 26), (.bin .add (.s 25) (.c (.lit (.int .i64 1))))⟩, ⟨none, (some 3), (.mv (.s 26))⟩])))))) (.seq (.reg [⟨none, (some 2), (.mv (.c (.lit (.bool true))))⟩]) .ret))))⟩ := by kernel_rfl
theorem Few_c (k : Nat) (t : Tk) (m1 : t.ter.length ≤ 9223372036854775807) (m2 : t.rows.length ≤ 9223372036854775807) (m3 : t.ties.length ≤ 9223372036854775807) (m4 : ∀ r ∈ t.ter, r.length ≤ 9223372036854775807) (h : MHeap) {b : Bool} (hf : fewT t = b) : orA (k + 1) 33 [encT t] h = some (Bo b, h) := by
  refine callL (args' := [encT t]) (frzL_lt (by simp [ltL, MV.lt, ltL_I, ltL_W])) rfl (runZ_of mf_Few (by simp) ?_)
  simp only [argsL]
  have hs1 : (MV.sl (t.ter.map encW)).slen = some t.ter.length := by simp [MV.slen]
  have hs2 : (MV.sl (t.rows.map I64)).slen = some t.rows.length := by simp [MV.slen]
  have hs3 : (MV.sl (t.ties.map I64)).slen = some t.ties.length := by simp [MV.slen]
  unfold fewT at hf
  by_cases q1 : t.ter.length ≤ 14
  · by_cases q2 : t.rows.length ≤ 14
    · by_cases q3 : t.ties.length ≤ 14
      · simp only [q1, q2, q3, decide_true, Bool.true_and] at hf
        repeat (first | apply ef_seq | (apply ef_mv; exact rfl; exact rfl) | (apply ef_bin; exact rfl; exact rfl; exact rfl; (exact cmp_f rfl (by simp only [cmpP]; omega))) | (apply ef_gy; exact rfl; (exact (rfl : false = false))) | (apply ef_pick; exact rfl; exact rfl; exact rfl) | (apply ef_len; exact rfl; exact rfl; (assumption)) | (apply ef_ldp; exact rfl; exact rfl; (exact rfl); exact rfl; (exact rfl); (exact rfl)) | (apply ef_fap; exact rfl; exact rfl) | (apply ef_box; exact rfl; exact rfl; exact rfl; exact rfl) | apply ef_nil | apply seqQ.normal | apply ef_block | apply ef_skip | (apply ef_condf; exact rfl; (exact (rfl : false = false))))
        refine ef_loopf (α := Nat) (fun i => i ≤ t.ter.length ∧ (t.ter.all fun r => decide (r.length ≤ 14)) = ((t.ter.drop i).all fun r => decide (r.length ≤ 14))) (fun i => [(3, I64 (i : Int))]) [(1, _)] (fun _ => _) (fun i => t.ter.length - i) 0 [3] (fun _ => rfl) (by ((repeat (refine Hold.cons (by exact rfl) ?_)); exact Hold.nil)) (by ((repeat (refine Hold.cons (by exact rfl) ?_)); exact Hold.nil)) rfl rfl ⟨by simp, rfl⟩ (by simp; omega) ?_
        rintro i ⟨hi, hz⟩
        try simp only at hi hz ⊢
        by_cases hlt : i < t.ter.length
        · have e1 := at_map encW t.ter i hlt
          have HD := Lib.hid (drop_at t.ter i hlt)
          have HZ := Lib.hid hz
          have hrl := m4 _ (List.getElem_mem hlt)
          clear hz
          generalize t.ter[i] = r at e1 HD hrl
          have hsr : (encW r).slen = some r.length := by simp [MV.slen]
          by_cases q4 : r.length ≤ 14
          · repeat (first | apply ef_seq | (apply ef_mv; exact rfl; exact rfl) | (apply ef_bin; exact rfl; exact rfl; exact rfl; (first | exact cmp_t rfl (by first | exact rfl | (simp only [cmpP]; omega)) | exact cmp_f rfl (by simp only [cmpP]; omega) | ((with_reducible refine bin_add (wrap_of ?_ ?_)) <;> omega))) | (apply ef_len; exact rfl; exact rfl; (assumption)) | (apply ef_ldr; exact rfl; exact rfl; (exact rfl)) | (apply ef_ldp; exact rfl; exact rfl; (exact rfl); exact rfl; (exact rfl); (exact rfl)) | (apply ef_ias; exact rfl; exact rfl; exact rfl; (omega); assumption; exact rfl) | (apply ef_fap; exact rfl; exact rfl) | apply ef_nil | apply seqQ.normal | apply blockQ.normal | apply ef_block | apply ef_skip | (apply ef_condt; exact rfl; (exact (rfl : true = true))) | (apply ef_condf; exact rfl; (exact (rfl : false = false))))
            (refine loopQ.normal _ _ ⟨i + 1, ⟨hlt, by rw [HZ.out, HD.out]; simp [q4]⟩, (by first | (simp only; omega) | omega), ⟨by ((repeat (refine Hold.cons (by exact rfl) ?_)); exact Hold.nil), by ((repeat (refine Hold.cons (by exact rfl) ?_)); exact Hold.nil)⟩, .inl (Nat.le_refl _), (by first | exact List.take_length | exact rfl | exact takeF rfl rfl)⟩)
          · repeat (first | apply ef_seq | (apply ef_mv; exact rfl; exact rfl) | (apply ef_bin; exact rfl; exact rfl; exact rfl; (exact cmp_t rfl (by first | exact rfl | (simp only [cmpP]; omega)))) | (apply ef_len; exact rfl; exact rfl; (assumption)) | (apply ef_ldr; exact rfl; exact rfl; (exact rfl)) | (apply ef_ldp; exact rfl; exact rfl; (exact rfl); exact rfl; (exact rfl); (exact rfl)) | (apply ef_ias; exact rfl; exact rfl; exact rfl; (omega); assumption; exact rfl) | (apply ef_fap; exact rfl; exact rfl) | apply ef_nil | apply seqQ.normal | apply loopQ.ret | apply ef_ret | apply seqQ.ret | apply blockQ.ret | apply ef_block | apply ef_skip | (apply ef_condt; exact rfl; (exact (rfl : true = true))))
            (refine fin1 rfl (by exact rfl) rfl ?_)
            rw [← hf, HZ.out, HD.out]; simp [q4]
        · repeat (first | apply ef_seq | (apply ef_mv; exact rfl; exact rfl) | (apply ef_bin; exact rfl; exact rfl; exact rfl; (exact cmp_f rfl (by simp only [cmpP]; omega))) | (apply ef_len; exact rfl; exact rfl; (assumption)) | (apply ef_ldp; exact rfl; exact rfl; (exact rfl); exact rfl; (exact rfl); (exact rfl)) | (apply ef_fap; exact rfl; exact rfl) | apply ef_nil | apply seqQ.normal | apply loopQ.exit | apply ef_ret | apply ef_exit | apply seqQ.exit | apply blockQ.here | (apply ef_condf; exact rfl; (exact (rfl : false = false))))
          (refine fin1 rfl (by exact rfl) rfl ?_)
          rw [← hf, hz, List.drop_eq_nil_of_le (by omega)]; rfl
      · simp only [q1, q2, q3, decide_true, decide_false, Bool.true_and, Bool.false_and] at hf
        repeat (first | apply ef_seq | (apply ef_mv; exact rfl; exact rfl) | (apply ef_bin; exact rfl; exact rfl; exact rfl; (first | exact cmp_t rfl (by first | exact rfl | (simp only [cmpP]; omega)) | exact cmp_f rfl (by simp only [cmpP]; omega))) | (apply ef_gy; exact rfl; (exact (rfl : false = false))) | (apply ef_pick; exact rfl; exact rfl; exact rfl) | (apply ef_len; exact rfl; exact rfl; (assumption)) | (apply ef_ldp; exact rfl; exact rfl; (exact rfl); exact rfl; (exact rfl); (exact rfl)) | (apply ef_fap; exact rfl; exact rfl) | (apply ef_box; exact rfl; exact rfl; exact rfl; exact rfl) | apply ef_nil | apply seqQ.normal | apply ef_ret | apply seqQ.ret | (apply ef_condt; exact rfl; (exact (rfl : true = true))))
        (refine fin1 rfl (by exact rfl) rfl ?_)
        rw [← hf]
    · simp only [q1, q2, decide_true, decide_false, Bool.true_and, Bool.false_and] at hf
      repeat (first | apply ef_seq | (apply ef_mv; exact rfl; exact rfl) | (apply ef_bin; exact rfl; exact rfl; exact rfl; (first | exact cmp_t rfl (by first | exact rfl | (simp only [cmpP]; omega)) | exact cmp_f rfl (by simp only [cmpP]; omega))) | (apply ef_gy; exact rfl; (exact (rfl : false = false))) | (apply ef_gn; exact rfl; (exact (rfl : true = true)); exact rfl) | (apply ef_pick; exact rfl; exact rfl; exact rfl) | (apply ef_len; exact rfl; exact rfl; (assumption)) | (apply ef_ldp; exact rfl; exact rfl; (exact rfl); exact rfl; (exact rfl); (exact rfl)) | (apply ef_fap; exact rfl; exact rfl) | (apply ef_box; exact rfl; exact rfl; exact rfl; exact rfl) | apply ef_nil | apply seqQ.normal | apply ef_ret | apply seqQ.ret | (apply ef_condt; exact rfl; (exact (rfl : true = true))))
      (refine fin1 rfl (by exact rfl) rfl ?_)
      rw [← hf]
  · simp only [q1, decide_false, Bool.false_and] at hf
    repeat (first | apply ef_seq | (apply ef_mv; exact rfl; exact rfl) | (apply ef_bin; exact rfl; exact rfl; exact rfl; (exact cmp_t rfl (by first | exact rfl | (simp only [cmpP]; omega)))) | (apply ef_gn; exact rfl; (exact (rfl : true = true)); exact rfl) | (apply ef_pick; exact rfl; exact rfl; exact rfl) | (apply ef_len; exact rfl; exact rfl; (assumption)) | (apply ef_ldp; exact rfl; exact rfl; (exact rfl); exact rfl; (exact rfl); (exact rfl)) | (apply ef_fap; exact rfl; exact rfl) | (apply ef_box; exact rfl; exact rfl; exact rfl; exact rfl) | apply ef_nil | apply seqQ.normal | apply ef_ret | apply seqQ.ret | (apply ef_condt; exact rfl; (exact (rfl : true = true))))
    (refine fin1 rfl (by exact rfl) rfl ?_)
    rw [← hf]
end Go.Proofs.Ytgjpdjihjphbdaa

/- The contract of the reference's lowest surface. -/
namespace Go.Proofs.Ytgjpdjihjphbdaa
open Go.RowKit
set_option linter.unusedVariables false

def rlRow (t : Tk) (y : Nat) : List Int := (List.range t.W).map fun x => t.base y x
def rlF (t : Tk) (j : Nat) : MHeap := [⟨0, false, 1, (rlRow t j).map I64⟩, ⟨0, false, 1, [.arr (3 + 2 * j) 0 t.W 0]⟩]
def rlG (t : Tk) (y : Nat) : MHeap := (List.range y).flatMap (rlF t)
def rlRefs (W y : Nat) : List MV := (List.range y).map fun j => .arr (3 + 2 * j) 0 W 0
def rlH (t : Tk) (y : Nat) : MHeap := [⟨0, false, 5, [encT t]⟩, ⟨0, true, 1, []⟩, ⟨y, nlN y, 1, rlRefs t.W y⟩] ++ rlG t y
theorem rlG_succ (t : Tk) (y : Nat) : rlG t (y + 1) = rlG t y ++ rlF t y := by
  unfold rlG; rw [List.range_succ, List.flatMap_append]; simp
theorem rlG_len (t : Tk) : ∀ y, (rlG t y).length = 2 * y
  | 0 => rfl
  | y + 1 => by rw [rlG_succ, List.length_append, rlG_len t y]; simp [rlF]; omega
theorem rlH_len (t : Tk) (y : Nat) : (rlH t y).length = 3 + 2 * y := by unfold rlH; rw [List.length_append, rlG_len]; rfl
theorem rlG_at (t : Tk) {j : Nat} : ∀ {y : Nat}, j < y → (rlG t y)[2 * j]? = some ⟨0, false, 1, (rlRow t j).map I64⟩ ∧ (rlG t y)[2 * j + 1]? = some ⟨0, false, 1, [.arr (3 + 2 * j) 0 t.W 0]⟩
  | y + 1, h => by
    rw [rlG_succ]
    by_cases e : j = y
    · subst e
      have := rlG_len t j
      rw [List.getElem?_append_right (by omega), List.getElem?_append_right (by omega), this]
      rw [show 2 * j - 2 * j = 0 by omega, show 2 * j + 1 - 2 * j = 1 by omega]
      exact ⟨rfl, rfl⟩
    · have := rlG_len t y
      rw [List.getElem?_append_left (by omega), List.getElem?_append_left (by omega)]
      exact rlG_at t (by omega)
theorem rlH_row (t : Tk) {j y : Nat} (h : j < y) : (rlH t y)[3 + 2 * j]? = some ⟨0, false, 1, (rlRow t j).map I64⟩ := by
  unfold rlH
  rw [List.getElem?_append_right (by simp; try omega)]
  rw [show 3 + 2 * j - [(⟨0, false, 5, [encT t]⟩ : MObj), ⟨0, true, 1, []⟩, ⟨y, nlN y, 1, rlRefs t.W y⟩].length = 2 * j by simp]
  exact (rlG_at t h).1
theorem rlH_tmp (t : Tk) {j y : Nat} (h : j < y) : (rlH t y)[4 + 2 * j]? = some ⟨0, false, 1, [.arr (3 + 2 * j) 0 t.W 0]⟩ := by
  unfold rlH
  rw [List.getElem?_append_right (by simp; try omega)]
  rw [show 4 + 2 * j - [(⟨0, false, 5, [encT t]⟩ : MObj), ⟨0, true, 1, []⟩, ⟨y, nlN y, 1, rlRefs t.W y⟩].length = 2 * j + 1 by simp; omega]
  exact (rlG_at t h).2
theorem rlH_succ (t : Tk) (y : Nat) : List.set ((rlH t y ++ [(⟨0, false, 1, (rlRow t y).map I64⟩ : MObj)]) ++ [(⟨0, false, 1, [.arr (3 + 2 * y) 0 t.W 0]⟩ : MObj)]) 2 (⟨y + 1, false, 1, (rlRefs t.W y).drop 0 ++ [.arr (3 + 2 * y) 0 t.W 0]⟩ : MObj) = rlH t (y + 1) := by
  unfold rlH
  rw [rlG_succ]
  simp [rlRefs, List.range_succ, nlN, rlF]
def rowP (t : Tk) (y x : Nat) : List MV := (List.range t.W).map fun j => if j < x then I64 (t.base y j) else I64 0
theorem rowP_zero (t : Tk) (y : Nat) : rowP t y 0 = List.replicate t.W (I64 0) := by
  apply List.ext_getElem?
  intro j
  by_cases hj : j < t.W
  · rw [rowP, rng_get _ hj, List.getElem?_replicate, if_pos hj]; rfl
  · rw [List.getElem?_eq_none (by simp [rowP]; omega), List.getElem?_replicate, if_neg hj]
theorem rowP_full (t : Tk) (y : Nat) : rowP t y t.W = (rlRow t y).map I64 := by
  unfold rowP rlRow
  rw [List.map_map]
  refine List.map_congr_left fun j hj => ?_
  rw [if_pos (List.mem_range.1 hj)]; rfl
theorem rowP_at {t : Tk} {y x j : Nat} (h : j < t.W) : (rowP t y x)[j]? = some (if j < x then I64 (t.base y j) else I64 0) := rng_get _ h
theorem rowP_set {t : Tk} {y x : Nat} : (rowP t y x).set x (I64 (t.base y x)) = rowP t y (x + 1) := by
  unfold rowP
  rw [rng_set]
  refine rng_congr fun j hj => ?_
  by_cases h : j = x
  · subst h; rw [if_pos rfl, if_pos (by omega)]
  · rw [if_neg h]
    by_cases h2 : j < x
    · rw [if_pos h2, if_pos (by omega)]
    · rw [if_neg h2, if_neg (by omega)]
theorem rowP_skip {t : Tk} {y x : Nat} (hx : x < t.W) (h : t.base y x = 0) : rowP t y x = rowP t y (x + 1) := by
  rw [← rowP_set, h]
  refine (List.ext_getElem? fun j => ?_).symm
  rw [List.getElem?_set]
  split
  · rename_i e
    subst e
    rw [if_pos (by simp [rowP]; exact hx), rowP_at hx, if_neg (by omega)]
  · rfl
theorem rlRefs_lt {W y : Nat} : ltL 3 (rlRefs W (y + 1)) = false := by
  rw [Bool.eq_false_iff]
  intro hc
  have h1 : (rlRefs W (y + 1))[0]? = some (.arr (3 + 2 * 0) 0 W 0) := rng_get _ (by omega)
  have := ltL_iff'.1 hc _ (List.mem_of_getElem? h1)
  simp [MV.lt] at this
/-- The memory of the reference's sweeps. -/
structure RlM (t : Tk) (g : List (List Int)) (h : MHeap) : Prop where
  b0 : h[0]? = some ⟨0, false, 5, [encT t]⟩
  sf : Srf 2 t.ter.length t.W t.ter.length (fun y => 3 + 2 * y) g h
  len : h.length = 3 + 2 * t.ter.length
  fu : Full h
theorem RlM.cl {t : Tk} {g : List (List Int)} {h : MHeap} (m : RlM t g h) : Cl (3 + 2 * t.ter.length) h := by
  have := m.fu
  unfold Full at this
  rwa [m.len] at this
theorem rlM0 {t : Tk} (ok : OkT t) : RlM t t.s0 (rlH t t.ter.length) := by
  have h1 := ok.h1
  have hn : nlN t.ter.length = false := by
    obtain ⟨m, hm⟩ : ∃ m, t.ter.length = m + 1 := ⟨t.ter.length - 1, by omega⟩
    rw [hm]; rfl
  have hrow : ∀ y, y < t.ter.length → t.s0.getD y [] = rlRow t y := fun y hy => by
    unfold Tk.s0
    rw [List.getD_eq_getElem?_getD, List.getElem?_map, List.getElem?_range (by exact hy)]; rfl
  refine ⟨rfl, ⟨⟨rlRefs t.W t.ter.length, ?_, by simp [rlRefs], fun y hy => rng_get _ hy⟩, fun y hy => ?_, by simp [Tk.s0, Tk.H], fun y hy => by rw [hrow y hy]; simp [rlRow], fun y y' _ _ e => ?_, fun y hy => by show 3 + 2 * y ≠ 2; omega⟩, rlH_len t _, Nat.le_refl _, fun j o hj ho => ?_⟩
  · have : (rlH t t.ter.length)[2]? = some ⟨t.ter.length, nlN t.ter.length, 1, rlRefs t.W t.ter.length⟩ := rfl
    rw [this, hn]
  · rw [hrow y hy]; exact rlH_row t hy
  · have e' : 3 + 2 * y = 3 + 2 * y' := e
    omega
  · have hL := rlH_len t t.ter.length
    rw [hL] at hj ⊢
    by_cases h3 : j < 3
    · match j, h3 with
      | 0, _ => cases ho; simp [ltL, MV.lt, ltL_I, ltL_W]
      | 1, _ => cases ho; rfl
      | 2, _ =>
        cases ho
        refine ltL_iff'.2 fun m hm => ?_
        obtain ⟨i, hi, rfl⟩ := List.mem_map.1 hm
        have := List.mem_range.1 hi
        simp [MV.lt]; omega
    · by_cases he : (j - 3) % 2 = 0
      · have h4 := rlH_row t (j := (j - 3) / 2) (y := t.ter.length) (by omega)
        rw [show 3 + 2 * ((j - 3) / 2) = j by omega, ho] at h4
        cases h4
        exact ltL_I _ _
      · have h4 := rlH_tmp t (j := (j - 3) / 2) (y := t.ter.length) (by omega)
        rw [show 4 + 2 * ((j - 3) / 2) = j by omega, ho] at h4
        cases h4
        simp [ltL, MV.lt]; omega
theorem RlM.put {t : Tk} {g : List (List Int)} {h : MHeap} (m : RlM t g h) {y x : Nat} {v : Int} (hy : y < t.ter.length) : RlM t (set2 g y x v) (h.set (3 + 2 * y) ⟨0, false, 1, ((g.getD y []).map I64).set x (I64 v)⟩) := by
  have hl : ∀ n, ltL n (((g.getD y []).map I64).set x (I64 v)) = true := fun n => by
    rw [show ((g.getD y []).map I64).set x (I64 v) = ((g.getD y []).set x v).map I64 by rw [List.map_set]]; exact ltL_I n _
  exact ⟨by rw [List.getElem?_set_ne (by omega)]; exact m.b0, m.sf.put hy, by rw [List.length_set]; exact m.len, m.fu.set (hl _)⟩
theorem RlM.cut {t : Tk} {g : List (List Int)} {h X : MHeap} (m : RlM t g h) : (h ++ X).take (3 + 2 * t.ter.length) = h := List.take_left' m.len
/-- A sweep up to a node. -/
def swD (y x a b : Nat) : Prop := a < y ∨ (a = y ∧ b < x)

theorem nbR_len (t : Tk) (y x : Nat) : (nbR t y x).length ≤ 4 := by
  unfold nbR nbA
  simp only [List.length_append]
  repeat' split
  all_goals simp
theorem mf_rLowest : MT.mf 43 = some ⟨113, [(.tmp 2)], (.seq (.reg [⟨none, (some 1), (.box 5 (.s 0))⟩, ⟨none, (some 2), (.nil0 1)⟩]) (.seq (.reg [⟨none, (some 3), (.nil0 1)⟩]) (.seq (.seq (.reg [⟨none, (some 4), (.mv (.c (.lit (.int .i64 0))))⟩]) (.block 0 (.loop [4, 1, 3] (.seq (.seq (.reg [⟨none, (some 13), (.mv (.s 4))⟩, ⟨none, (some 14), (.fa 0 (.s 1))⟩, ⟨none, (some 15), (.ld none (.s 14))⟩, ⟨none, (some 16), (.len (.s 15))⟩, ⟨none, (some 17), (.bin .lss (.s 13) (.s 16))⟩]) (.cond (.s 17) .skip (.exit 0))) (.seq (.block 1 (.seq (.reg [⟨none, (some 20), (.fa 0 (.s 1))⟩, ⟨none, (some 21), (.ld none (.s 20))⟩, ⟨none, (some 22), (.ia 1 (.s 21) (.c (.lit (.int .i64 0))))⟩, ⟨none, (some 23), (.ld none (.s 22))⟩, ⟨none, (some 24), (.len (.s 23))⟩, ⟨none, (some 25), (.mks (.lit (.int .i64 0)) (.s 24))⟩, ⟨none, (some 5), (.mv (.s 25))⟩]) (.seq (.seq (.reg [⟨none, (some 6), (.mv (.c (.lit (.int .i64 0))))⟩]) (.block 2 (.loop [6, 5, 1, 4, 3] (.seq (.seq (.reg [⟨none, (some 26), (.mv (.s 6))⟩, ⟨none, (some 27), (.mv (.s 5))⟩, ⟨none, (some 28), (.len (.s 27))⟩, ⟨none, (some 29), (.bin .lss (.s 26) (.s 28))⟩]) (.cond (.s 29) .skip (.exit 2))) (.seq (.block 3 (.seq (.reg [⟨none, (some 32), (.ld (some 5) (.s 1))⟩, ⟨none, (some 33), (.mv (.s 6))⟩, ⟨none, (some 34), (.mv (.s 4))⟩, ⟨none, (some 35), (.call 47 [(.s 32), (.s 33), (.s 34)])⟩]) (.cond (.s 35) (.reg [⟨none, (some 36), (.mv (.s 5))⟩, ⟨none, (some 37), (.mv (.s 6))⟩, ⟨none, (some 38), (.ld (some 5) (.s 1))⟩, ⟨none, (some 39), (.mv (.s 6))⟩, ⟨none, (some 40), (.mv (.s 4))⟩, ⟨none, (some 41), (.call 51 [(.s 38), (.s 39), (.s 40)])⟩, ⟨none, (some 42), (.ia 1 (.s 36) (.s 37))⟩, ⟨none, none, (.st 1 (.s 42) (.s 41))⟩]) .skip))) (.reg [⟨none, (some 30), (.mv (.s 6))⟩, ⟨none, (some 31), (.bin .add (.s 30) (.c (.lit (.int .i64 1))))⟩, ⟨none, (some 6), (.mv (.s 31))⟩])))))) (.reg [⟨none, (some 43), (.mv (.s 3))⟩, ⟨none, (some 44), (.mv (.s 5))⟩, ⟨none, (some 45), (.bsl (.lit (.slice none 0 0)) 1 1 [(0, (.s 44))])⟩, ⟨none, (some 46), (.app 1 (.s 43) (.s 45))⟩, ⟨none, (some 3), (.mv (.s 46))⟩])))) (.reg [⟨none, (some 18), (.mv (.s 4))⟩, ⟨none, (some 19), (.bin .add (.s 18) (.c (.lit (.int .i64 1))))⟩, ⟨none, (some 4), (.mv (.s 19))⟩])))))) (.seq (.reg [⟨none, (some 7), (.mv (.c (.lit (.bool true))))⟩]) (.seq (.block 4 (.loop [7, 3, 1] (.seq (.seq (.reg [⟨none, (some 47), (.mv (.s 7))⟩]) (.cond (.s 47) .skip (.exit 4))) (.block 5 (.seq (.reg [⟨none, (some 7), (.mv (.c (.lit (.bool false))))⟩]) (.seq (.reg [⟨none, (some 8), (.mv (.c (.lit (.int .i64 0))))⟩]) (.block 6 (.loop [8, 3, 1, 7] (.seq (.seq (.reg [⟨none, (some 48), (.mv (.s 8))⟩, ⟨none, (some 49), (.mv (.s 3))⟩, ⟨none, (some 50), (.len (.s 49))⟩, ⟨none, (some 51), (.bin .lss (.s 48) (.s 50))⟩]) (.cond (.s 51) .skip (.exit 6))) (.seq (.block 7 (.seq (.reg [⟨none, (some 9), (.mv (.c (.lit (.int .i64 0))))⟩]) (.block 8 (.loop [9, 3, 8, 1, 7] (.seq (.seq (.reg [⟨none, (some 54), (.mv (.s 9))⟩, ⟨none, (some 55), (.mv (.s 3))⟩, ⟨none, (some 56), (.mv (.s 8))⟩, ⟨none, (some 57), (.ia 1 (.s 55) (.s 56))⟩, ⟨none, (some 58), (.ld none (.s 57))⟩, ⟨none, (some 59), (.len (.s 58))⟩, ⟨none, (some 60), (.bin .lss (.s 54) (.s 59))⟩]) (.cond (.s 60) .skip (.exit 8))) (.seq (.block 9 (.seq (.seq (.reg [⟨none, (some 63), (.ld (some 5) (.s 1))⟩, ⟨none, (some 64), (.mv (.s 9))⟩, ⟨none, (some 65), (.mv (.s 8))⟩, ⟨none, (some 66), (.call 47 [(.s 63), (.s 64), (.s 65)])⟩, ⟨none, (some 67), (.un .not (.s 66))⟩]) (.cond (.s 67) (.exit 9) .skip)) (.seq (.reg [⟨none, (some 68), (.ld (some 5) (.s 1))⟩, ⟨none, (some 69), (.mv (.s 9))⟩, ⟨none, (some 70), (.mv (.s 8))⟩, ⟨none, (some 71), (.call 119 [(.s 68), (.s 69), (.s 70)])⟩, ⟨none, (some 10), (.mv (.s 71))⟩]) (.seq (.reg [⟨none, (some 11), (.mv (.c (.lit (.int .i64 0))))⟩]) (.block 10 (.loop [11, 10, 3, 1, 8, 9, 7] (.seq (.seq (.reg [⟨none, (some 72), (.mv (.s 11))⟩, ⟨none, (some 73), (.mv (.s 10))⟩, ⟨none, (some 74), (.len (.s 73))⟩, ⟨none, (some 75), (.bin .lss (.s 72) (.s 74))⟩]) (.cond (.s 75) .skip (.exit 10))) (.seq (.block 11 (.seq (.reg [⟨none, (some 78), (.mv (.s 3))⟩, ⟨none, (some 79), (.mv (.s 10))⟩, ⟨none, (some 80), (.mv (.s 11))⟩, ⟨none, (some 81), (.ia 2 (.s 79) (.s 80))⟩, ⟨none, (some 82), (.fa 1 (.s 81))⟩, ⟨none, (some 83), (.ld none (.s 82))⟩, ⟨none, (some 84), (.ia 1 (.s 78) (.s 83))⟩, ⟨none, (some 85), (.ld none (.s 84))⟩, ⟨none, (some 86), (.mv (.s 10))⟩, ⟨none, (some 87), (.mv (.s 11))⟩, ⟨none, (some 88), (.ia 2 (.s 86) (.s 87))⟩, ⟨none, (some 89), (.fa 0 (.s 88))⟩, ⟨none, (some 90), (.ld none (.s 89))⟩, ⟨none, (some 91), (.ia 1 (.s 85) (.s 90))⟩, ⟨none, (some 92), (.ld none (.s 91))⟩, ⟨none, (some 93), (.fa 4 (.s 1))⟩, ⟨none, (some 94), (.ld none (.s 93))⟩, ⟨none, (some 95), (.bin .sub (.s 92) (.s 94))⟩, ⟨none, (some 12), (.mv (.s 95))⟩]) (.seq (.reg [⟨none, (some 96), (.mv (.s 12))⟩, ⟨none, (some 97), (.mv (.s 3))⟩, ⟨none, (some 98), (.mv (.s 8))⟩, ⟨none, (some 99), (.ia 1 (.s 97) (.s 98))⟩, ⟨none, (some 100), (.ld none (.s 99))⟩, ⟨none, (some 101), (.mv (.s 9))⟩, ⟨none, (some 102), (.ia 1 (.s 100) (.s 101))⟩, ⟨none, (some 103), (.ld none (.s 102))⟩, ⟨none, (some 104), (.bin .gtr (.s 96) (.s 103))⟩]) (.cond (.s 104) (.reg [⟨none, (some 105), (.mv (.s 3))⟩, ⟨none, (some 106), (.mv (.s 8))⟩, ⟨none, (some 107), (.ia 1 (.s 105) (.s 106))⟩, ⟨none, (some 108), (.ld none (.s 107))⟩, ⟨none, (some 109), (.mv (.s 9))⟩, ⟨none, (some 110), (.mv (.s 12))⟩, ⟨none, (some 111), (.ia 1 (.s 108) (.s 109))⟩, ⟨none, none, (.st 1 (.s 111) (.s 110))⟩, ⟨none, (some 7), (.mv (.c (.lit (.bool true))))⟩]) .skip)))) (.reg [⟨none, (some 76), (.mv (.s 11))⟩, ⟨none, (some 77), (.bin .add (.s 76) (.c (.lit (.int .i64 1))))⟩, ⟨none, (some 11), (.mv (.s 77))⟩]))))))))) (.reg [⟨none, (some 61), (.mv (.s 9))⟩, ⟨none, (some 62), (.bin .add (.s 61) (.c (.lit (.int .i64 1))))⟩, ⟨none, (some 9), (.mv (.s 62))⟩]))))))) (.reg [⟨none, (some 52), (.mv (.s 8))⟩, ⟨none, (some 53), (.bin .add (.s 52) (.c (.lit (.int .i64 1))))⟩, ⟨none, (some 8), (.mv (.s 53))⟩]))))))))))) (.seq (.reg [⟨none, (some 112), (.mv (.s 3))⟩, ⟨none, (some 2), (.mv (.s 112))⟩]) .ret))))))⟩ := by kernel_rfl
set_option maxHeartbeats 4000000 in
theorem rLowest_z (k : Nat) {t : Tk} (ok : OkT t) (hb : Bd t) {gg : List (List Int)} (hgg : Lea t gg) : runZ MT (orA (k + 2)) (itA (k + 2)) 4000000 43 [encT t] [] = some (.arr 0 0 t.ter.length 0, [⟨0, false, 1, gg.map encW⟩]) := by
  obtain ⟨h1, h2⟩ := ok.h1
  obtain ⟨w1, w2⟩ := ok.w1
  obtain ⟨cb1, cb2⟩ := ok.cb
  have hs1 : (MV.sl (t.ter.map encW)).slen = some t.ter.length := by simp [MV.slen]
  have e0 := Tk.head h1
  have hsw := Tk.headW t
  refine runZ_of mf_rLowest (by simp) ?_
  simp only [argsL]
  repeat (first | apply ef_seq | (apply ef_mv; exact rfl; exact rfl) | (apply ef_box; exact rfl; exact rfl; exact rfl; exact rfl) | (apply ef_nil0; exact rfl) | apply ef_nil | apply seqQ.normal | apply ef_block)
  refine ef_loopg (α := Nat) (fun y => y ≤ t.ter.length) (fun y => [(4, I64 (y : Int)), (3, .arr 2 0 y y)]) [(1, .ptr 0 0 0 0)] (fun y => rlH t y) (fun y => t.ter.length - y) 0 [4, 3] (fun _ => rfl) (by ((repeat (refine Hold.cons (by exact rfl) ?_)); exact Hold.nil)) (by ((repeat (refine Hold.cons (by exact rfl) ?_)); exact Hold.nil)) rfl rfl rfl (by simp) (by simp; omega) ?_
  intro y hy
  try simp only at hy ⊢
  by_cases hlt : y < t.ter.length
  · have b0 : (rlH t y)[0]? = some ⟨0, false, 5, [encT t]⟩ := rfl
    have b2 : (rlH t y)[2]? = some ⟨y, nlN y, 1, rlRefs t.W y⟩ := rfl
    have hlen := rlH_len t y
    have HS := Lib.hid (rlH_succ t y)
    generalize t.ter.getD 0 [] = r0 at e0 hsw
    generalize rlH t y = H0 at b0 b2 hlen HS ⊢
    repeat (first | apply ef_seq | (apply ef_mv; exact rfl; exact rfl) | (apply ef_bin; exact rfl; exact rfl; exact rfl; (exact cmp_t rfl (by first | exact rfl | (simp only [cmpP]; omega)))) | (apply ef_len; exact rfl; exact rfl; (assumption)) | (apply ef_ldr; exact rfl; exact rfl; (exact rfl)) | (apply ef_ldp; exact rfl; exact rfl; (assumption); exact rfl; (exact rfl); (exact rfl)) | (apply ef_ias; exact rfl; exact rfl; exact rfl; (omega); assumption; exact rfl) | (apply ef_fap; exact rfl; exact rfl) | (apply ef_mks; exact rfl; exact rfl; (omega); (omega)) | apply ef_nil | apply seqQ.normal | apply ef_block | apply ef_skip | (apply ef_condt; exact rfl; (exact (rfl : true = true))))
    refine ef_loopg (α := Nat) (fun x => x ≤ t.W) (fun x => [(6, I64 (x : Int))]) [(5, .arr H0.length 0 t.W 0), (1, .ptr 0 0 0 0), (4, I64 (y : Int)), (3, .arr 2 0 y y)] (fun x => H0 ++ [⟨0, false, 1, rowP t y x⟩]) (fun x => t.W - x) 0 [6] (fun _ => rfl) (by ((repeat (refine Hold.cons (by exact rfl) ?_)); exact Hold.nil)) (by ((repeat (refine Hold.cons (by exact rfl) ?_)); exact Hold.nil)) rfl rfl (by rw [rowP_zero, ← Int.toNat_natCast t.W]; rfl) (by simp) (by simp; omega) ?_
    intro x hx
    try simp only at hx ⊢
    by_cases hlt2 : x < t.W
    · have f0 := at_app b0 [(⟨0, false, 1, rowP t y x⟩ : MObj)]
      have fr : (H0 ++ [(⟨0, false, 1, rowP t y x⟩ : MObj)])[H0.length]? = some ⟨0, false, 1, rowP t y x⟩ := at_end _ _
      have hok : MHeap.ok (H0 ++ [(⟨0, false, 1, rowP t y x⟩ : MObj)]) H0.length 0 1 = true := ok_of fr rfl rfl
      have hcell : (rowP t y x)[0 + ((x : Nat) : Int).toNat]? = some (I64 0) := by rw [Nat.zero_add, Int.toNat_natCast, rowP_at hlt2, if_neg (by omega)]
      cases hf : t.fl y x
      · have hfl := fun h => rFlown_c k t hb h1 (x : Int) (y : Int) h ((t.flI_nat hlt hlt2).trans hf)
        repeat (first | apply ef_seq | (apply ef_mv; exact rfl; exact rfl) | (apply ef_bin; exact rfl; exact rfl; exact rfl; (first | exact cmp_t rfl (by first | exact rfl | (simp only [cmpP]; omega)) | ((with_reducible refine bin_add (wrap_of ?_ ?_)) <;> omega))) | (apply ef_len; exact rfl; exact rfl; (exact rfl)) | (apply ef_ldp; exact rfl; exact rfl; (assumption); exact rfl; (exact rfl); (exact rd_5 rfl rfl rfl rfl rfl)) | apply ef_nil | apply seqQ.normal | apply blockQ.normal | apply ef_block | apply ef_skip | (apply ef_condt; exact rfl; (exact (rfl : true = true))) | (apply ef_condf; exact rfl; (exact (rfl : false = false))) | (apply ef_call; exact rfl; ((repeat (apply XVs.cons; exact rfl)); exact XVs.nil); (with_reducible exact hfl _)))
        refine loopQ.normal _ _ ⟨x + 1, hlt2, by omega, ⟨by ((repeat (refine Hold.cons (by exact rfl) ?_)); exact Hold.nil), by ((repeat (refine Hold.cons (by exact rfl) ?_)); exact Hold.nil)⟩, ?_⟩
        rw [rowP_skip (y := y) hlt2 (by simp [Tk.base, hf])]
        exact .all (by simp)
      · have hfl := fun h => rFlown_c k t hb h1 (x : Int) (y : Int) h ((t.flI_nat hlt hlt2).trans hf)
        have hnd := fun h => rNeed_c (k + 1) t ok hlt hlt2 h
        have hbase : t.base y x = t.need y x := by simp [Tk.base, hf]
        repeat (first | apply ef_seq | (apply ef_mv; exact rfl; exact rfl) | (apply ef_bin; exact rfl; exact rfl; exact rfl; (exact cmp_t rfl (by first | exact rfl | (simp only [cmpP]; omega)))) | (apply ef_len; exact rfl; exact rfl; (exact rfl)) | (apply ef_ldp; exact rfl; exact rfl; (assumption); exact rfl; (exact rfl); (exact rd_5 rfl rfl rfl rfl rfl)) | (apply ef_iaa; exact rfl; exact rfl; exact rfl; (omega); (omega); (assumption)) | apply ef_nil | apply seqQ.normal | apply ef_block | apply ef_skip | (apply ef_condt; exact rfl; (exact (rfl : true = true))) | (apply ef_call; exact rfl; ((repeat (apply XVs.cons; exact rfl)); exact XVs.nil); (with_reducible first | exact hfl _ | exact hnd _)))
        refine ef_st (o := ⟨0, false, 1, rowP t y x⟩) (v := I64 (t.need y x)) (by exact rfl) rfl (by exact rfl) fr rfl rfl hcell rfl ?_
        rw [set_end, Nat.zero_add, Int.toNat_natCast]
        show Ef _ _ _ _ _ _ _ (H0 ++ [⟨0, false, 1, (rowP t y x).set x (I64 (t.need y x))⟩]) _
        rw [← hbase, rowP_set]
        repeat (first | (apply ef_mv; exact rfl; exact rfl) | (apply ef_bin; exact rfl; exact rfl; exact rfl; (((with_reducible refine bin_add (wrap_of ?_ ?_)) <;> omega))) | apply ef_nil | apply seqQ.normal | apply blockQ.normal)
        refine loopQ.normal _ _ ⟨x + 1, hlt2, by omega, ⟨by ((repeat (refine Hold.cons (by exact rfl) ?_)); exact Hold.nil), by ((repeat (refine Hold.cons (by exact rfl) ?_)); exact Hold.nil)⟩, .all (by simp)⟩
    · obtain rfl : x = t.W := by omega
      rw [rowP_full]
      have f2 := at_app b2 [(⟨0, false, 1, (rlRow t y).map I64⟩ : MObj)]
      repeat (first | apply ef_seq | (apply ef_mv; exact rfl; exact rfl) | (apply ef_bin; exact rfl; exact rfl; exact rfl; (exact cmp_f rfl (by simp only [cmpP]; omega))) | (apply ef_len; exact rfl; exact rfl; (exact rfl)) | (apply ef_bsl; exact rfl; (repeat (apply XVs.cons; exact rfl)); exact XVs.nil; exact rfl) | apply ef_nil | apply seqQ.normal | apply loopQ.exit | apply ef_exit | apply seqQ.exit | apply blockQ.here | (apply ef_condf; exact rfl; (exact (rfl : false = false))))
      refine ef_app (ht := by exact rfl) (o := ⟨y, nlN y, 1, rlRefs t.W y⟩) (v := .arr (H0 ++ [(⟨0, false, 1, (rlRow t y).map I64⟩ : MObj)]).length 0 1 0) (e := .arr H0.length 0 t.W 0) (xs := []) (by exact rfl) (by exact rfl) (elems_end rfl rfl rfl rfl) (at_app f2 _) rfl (by simp [rlRefs]) rfl (by simp [rlRefs]; omega) rfl rfl ?_
      show Ef _ _ _ _ _ _ _ (List.set ((H0 ++ [(⟨0, false, 1, (rlRow t y).map I64⟩ : MObj)]) ++ [(⟨0, false, 1, [.arr H0.length 0 t.W 0]⟩ : MObj)]) 2 (⟨y + 1, false, 1, (rlRefs t.W y).drop 0 ++ [.arr H0.length 0 t.W 0]⟩ : MObj)) _
      rw [hlen, HS.out]
      repeat (first | (apply ef_mv; exact rfl; exact rfl) | (apply ef_bin; exact rfl; exact rfl; exact rfl; (((with_reducible refine bin_add (wrap_of ?_ ?_)) <;> omega))) | apply ef_nil | apply seqQ.normal | apply blockQ.normal)
      refine loopQ.normal _ _ ⟨y + 1, hlt, by omega, ⟨by ((repeat (refine Hold.cons (by exact rfl) ?_)); exact Hold.nil), by ((repeat (refine Hold.cons (by exact rfl) ?_)); exact Hold.nil)⟩, .cell (hltL_no (m := 3) (j := 2) (o := ⟨y + 1, nlN (y + 1), 1, rlRefs t.W (y + 1)⟩) (by decide) rfl rlRefs_lt)⟩
  · obtain rfl : y = t.ter.length := by omega
    have hm0 := rlM0 ok
    clear e0 hsw
    have b0 := hm0.b0
    generalize rlH t t.ter.length = hh0 at hm0 b0 ⊢
    repeat (first | apply ef_seq | (apply ef_mv; exact rfl; exact rfl) | (apply ef_bin; exact rfl; exact rfl; exact rfl; (exact cmp_f rfl (by simp only [cmpP]; omega))) | (apply ef_len; exact rfl; exact rfl; (assumption)) | (apply ef_ldp; exact rfl; exact rfl; (assumption); exact rfl; (exact rfl); (exact rfl)) | (apply ef_fap; exact rfl; exact rfl) | apply ef_nil | apply seqQ.normal | apply loopQ.exit | apply ef_exit | apply seqQ.exit | apply blockQ.here | apply ef_block | (apply ef_condf; exact rfl; (exact (rfl : false = false))))
    clear b0
    refine ef_loopg (α := Bool × List (List Int) × MHeap) (fun s => Pre t s.2.1 ∧ RlM t s.2.1 s.2.2 ∧ (s.1 = false → Lea t s.2.1)) (fun s => [(7, Bo s.1)]) [(3, .arr 2 0 t.ter.length t.ter.length), (1, .ptr 0 0 0 0)] (fun s => s.2.2) (fun s => (2880000 - tot s.2.1).toNat + if s.1 then 1 else 0) (true, t.s0, hh0) [7] (fun _ => rfl) (by ((repeat (refine Hold.cons (by exact rfl) ?_)); exact Hold.nil)) (by ((repeat (refine Hold.cons (by exact rfl) ?_)); exact Hold.nil)) rfl rfl rfl ⟨s0_pre t, hm0, fun h => by cases h⟩ (by have := ok.tot (s0_pre t); simp only [if_true]; omega) ?_
    have hL0 := hm0.len
    rw [hL0]
    clear hm0 hL0
    rintro ⟨ag, s0, h0⟩ ⟨hp0, hm0, hd0⟩
    simp only at hp0 hm0 hd0 ⊢
    have hL0 := hm0.len
    cases ag
    · have hsg : s0 = gg := (hd0 rfl).uniq hgg
      obtain ⟨refs, k1, k2, k3⟩ := hm0.sf.top
      have hrow := hm0.sf.row
      have hwl := hm0.sf.wl
      have hgl := hm0.sf.gl
      have he : refs.mapM (frz 0 [2] h0 8) = some (gg.map encW) := by
        rw [← hsg]
        refine mapM_get (by rw [k2, List.length_map, hgl]) fun j a b ha hb => ?_
        have hj : j < t.ter.length := by have := (List.getElem?_eq_some_iff.1 ha).1; omega
        rw [k3 j hj] at ha
        cases ha
        have hr := hrow j hj
        have hw := hwl j hj
        have hb2 : b = encW (s0.getD j []) := by
          rw [List.getElem?_map, List.getElem?_eq_getElem (by omega)] at hb
          cases hb
          rw [List.getD_eq_getElem?_getD, List.getElem?_eq_getElem (by omega)]; rfl
        rw [hb2]
        clear hb hb2
        generalize s0.getD j [] = r at *
        have q1 : ([2] : List Nat).contains (3 + 2 * j) = false := by simp; omega
        have q2 : (r.map I64).take t.W = r.map I64 := List.take_of_length_le (by simp; omega)
        simp only [frz, MV.lt, Nat.not_lt_zero, decide_false, Bool.false_eq_true, if_false, q1, hr]
        simp only [ltL_I, if_true, List.drop_zero, q2]
        simp [hw]
      have hlf : ltL 0 refs = true → refs = gg.map encW := fun hl => by
        have := ltL_iff'.1 hl _ (List.mem_of_getElem? (k3 0 h1))
        simp [MV.lt] at this
      repeat (first | apply ef_seq | (apply ef_mv; exact rfl; exact rfl) | apply ef_nil | apply seqQ.normal | apply loopQ.exit | apply ef_ret | apply ef_exit | apply seqQ.exit | apply blockQ.here | (apply ef_condf; exact rfl; (exact (rfl : false = false))))
      (apply fin_arrF; (· exact rfl); (· exact rfl); (· exact k1); (· exact rfl); (· exact k2.symm); (· exact he); (· exact hlf); (· exact rfl); (· exact rfl))
    · have ht0 := ok.tot hp0
      repeat (first | apply ef_seq | (apply ef_mv; exact rfl; exact rfl) | apply ef_nil | apply seqQ.normal | apply ef_block | apply ef_skip | (apply ef_condt; exact rfl; (exact (rfl : true = true))))
      refine ef_loopg (α := Nat × Bool × List (List Int) × MHeap) (fun s => s.1 ≤ t.ter.length ∧ SI t s0 s.2.2.1 s.2.1 (fun a b => a < s.1) ∧ RlM t s.2.2.1 s.2.2.2) (fun s => [(8, I64 (s.1 : Int)), (7, Bo s.2.1)]) [(3, .arr 2 0 t.ter.length t.ter.length), (1, .ptr 0 0 0 0)] (fun s => s.2.2.2) (fun s => t.ter.length - s.1) (0, false, s0, h0) [8, 7] (fun _ => rfl) (by ((repeat (refine Hold.cons (by exact rfl) ?_)); exact Hold.nil)) (by ((repeat (refine Hold.cons (by exact rfl) ?_)); exact Hold.nil)) rfl rfl rfl ⟨by simp, ⟨hp0, fun _ => ⟨rfl, fun y x _ _ _ h => by simp at h⟩, fun h => by cases h⟩, hm0⟩ (by simp; omega) ?_
      rw [hL0]
      rintro ⟨y, ag, s, h⟩ ⟨hy, hsi, hm⟩
      simp only at hy hsi hm ⊢
      by_cases hlt : y < t.ter.length
      · repeat (first | apply ef_seq | (apply ef_mv; exact rfl; exact rfl) | (apply ef_bin; exact rfl; exact rfl; exact rfl; (exact cmp_t rfl (by first | exact rfl | (simp only [cmpP]; omega)))) | (apply ef_len; exact rfl; exact rfl; (exact rfl)) | apply ef_nil | apply seqQ.normal | apply ef_block | apply ef_skip | (apply ef_condt; exact rfl; (exact (rfl : true = true))))
        refine ef_loopg (α := Nat × Bool × List (List Int) × MHeap) (fun s => s.1 ≤ t.W ∧ SI t s0 s.2.2.1 s.2.1 (fun a b => swD y s.1 a b) ∧ RlM t s.2.2.1 s.2.2.2) (fun s => [(9, I64 (s.1 : Int)), (7, Bo s.2.1)]) [(3, .arr 2 0 t.ter.length t.ter.length), (8, I64 (y : Int)), (1, .ptr 0 0 0 0)] (fun s => s.2.2.2) (fun s => t.W - s.1) (0, ag, s, h) [9, 7] (fun _ => rfl) (by ((repeat (refine Hold.cons (by exact rfl) ?_)); exact Hold.nil)) (by ((repeat (refine Hold.cons (by exact rfl) ?_)); exact Hold.nil)) rfl rfl rfl ⟨by simp, ⟨hsi.pre, fun h => ⟨(hsi.no h).1, fun y' x' ha hb hf hd => (hsi.no h).2 y' x' ha hb hf (by rcases hd with hd | hd; exact hd; exact absurd hd.2 (by simp))⟩, hsi.yes⟩, hm⟩ (by simp; omega) ?_
        rw [hm.len]
        clear hsi hm ag s h
        rintro ⟨x, ag, s, h⟩ ⟨hx, hsi, hm⟩
        simp only at hx hsi hm ⊢
        obtain ⟨refs, r1, r2, r3, r4, r5, r6⟩ := hm.sf.rd hlt w1
        try simp only at r3 r4 r5
        by_cases hlt2 : x < t.W
        · have b0 := hm.b0
          cases hf : t.fl y x
          · have hfl := fun h => rFlown_c k t hb h1 (x : Int) (y : Int) h ((t.flI_nat hlt hlt2).trans hf)
            repeat (first | apply ef_seq | (apply ef_mv; exact rfl; exact rfl) | (apply ef_bin; exact rfl; exact rfl; exact rfl; (first | exact cmp_t rfl (by first | exact rfl | (simp only [cmpP]; omega)) | ((with_reducible refine bin_add (wrap_of ?_ ?_)) <;> omega))) | (apply ef_len; exact rfl; exact rfl; (exact rfl)) | (apply ef_ldp; exact rfl; exact rfl; (assumption); exact rfl; (first | exact rfl | assumption); (first | exact rd_5 rfl rfl rfl rfl rfl | exact rfl)) | (apply ef_iaa; exact rfl; exact rfl; exact rfl; (omega); (omega); (assumption)) | (apply ef_notF; exact rfl; exact rfl) | apply ef_nil | apply seqQ.normal | apply ef_exit | apply seqQ.exit | apply blockQ.here | apply ef_block | apply ef_skip | (apply ef_condt; exact rfl; (exact (rfl : true = true))) | (apply ef_call; exact rfl; ((repeat (apply XVs.cons; exact rfl)); exact XVs.nil); (with_reducible exact hfl _)))
            refine loopQ.normal _ _ ⟨(x + 1, ag, s, h), ⟨hlt2, ⟨hsi.pre, fun h => ⟨(hsi.no h).1, fun y' x' ha hb hf' hd => (hsi.no h).2 y' x' ha hb hf' ?_⟩, hsi.yes⟩, hm⟩, by simp only; omega, ⟨by ((repeat (refine Hold.cons (by exact rfl) ?_)); exact Hold.nil), by ((repeat (refine Hold.cons (by exact rfl) ?_)); exact Hold.nil)⟩, .all (by rw [hm.len]; exact Nat.le_refl _)⟩
            simp only [swD] at hd ⊢
            rcases hd with hd | ⟨rfl, hd⟩
            · exact .inl hd
            · refine .inr ⟨rfl, ?_⟩
              by_cases e : x' = x
              · subst e; rw [hf] at hf'; cases hf'
              · omega
          · have hfl := fun h => rFlown_c k t hb h1 (x : Int) (y : Int) h ((t.flI_nat hlt hlt2).trans hf)
            have hnb := fun h => rNeighbours_c k t ok hb hlt hlt2 h
            repeat (first | apply ef_seq | (apply ef_mv; exact rfl; exact rfl) | (apply ef_bin; exact rfl; exact rfl; exact rfl; (exact cmp_t rfl (by first | exact rfl | (simp only [cmpP]; omega)))) | (apply ef_len; exact rfl; exact rfl; (exact rfl)) | (apply ef_ldp; exact rfl; exact rfl; (assumption); exact rfl; (first | exact rfl | assumption); (first | exact rd_5 rfl rfl rfl rfl rfl | exact rfl)) | (apply ef_iaa; exact rfl; exact rfl; exact rfl; (omega); (omega); (assumption)) | (apply ef_notT; exact rfl; exact rfl) | apply ef_nil | apply seqQ.normal | apply ef_block | apply ef_skip | (apply ef_condt; exact rfl; (exact (rfl : true = true))) | (apply ef_condf; exact rfl; (exact (rfl : false = false))) | (apply ef_call; exact rfl; ((repeat (apply XVs.cons; exact rfl)); exact XVs.nil); (with_reducible first | exact hfl _ | exact hnb _)))
            have hln := hm.len
            refine ef_loopg (α := Nat × Bool × List (List Int) × MHeap) (fun s => s.1 ≤ (nbR t y x).length ∧ SI t s0 s.2.2.1 s.2.1 (fun a b => swD y x a b) ∧ (s.2.1 = false → ∀ p ∈ (nbR t y x).take s.1, at2 s.2.2.1 p.1 p.2 - t.cb ≤ at2 s.2.2.1 y x) ∧ RlM t s.2.2.1 s.2.2.2) (fun s => [(11, I64 (s.1 : Int)), (7, Bo s.2.1)]) [(10, .arr h.length 0 (nbR t y x).length 0), (3, .arr 2 0 t.ter.length t.ter.length), (1, .ptr 0 0 0 0), (8, I64 (y : Int)), (9, I64 (x : Int))] (fun s => s.2.2.2 ++ [⟨0, nlN (nbR t y x).length, 2, (nbR t y x).map posM⟩]) (fun s => (nbR t y x).length - s.1) (0, ag, s, h) [11, 7] (fun _ => rfl) (by ((repeat (refine Hold.cons (by exact rfl) ?_)); exact Hold.nil)) (by ((repeat (refine Hold.cons (by exact rfl) ?_)); exact Hold.nil)) rfl rfl rfl ⟨by simp, hsi, (fun _ => by simp), hm⟩ (by have := nbR_len t y x; simp only; omega) ?_
            rw [hln]
            have hLL : (h ++ [(⟨0, nlN (nbR t y x).length, 2, (nbR t y x).map posM⟩ : MObj)]).length = 4 + 2 * t.ter.length := by simp [hln]; omega
            rw [hLL]
            clear hsi hm ag s h hln hLL b0 r1 r2 r3 r4 r5 r6 refs
            rintro ⟨i, ag, s, h⟩ ⟨hi, hsi, hal, hm⟩
            simp only at hi hsi hal hm ⊢
            have hln := hm.len
            by_cases hlt3 : i < (nbR t y x).length
            · obtain ⟨⟨y1, x1⟩, hp⟩ : ∃ p, (nbR t y x)[i]? = some p := ⟨_, List.getElem?_eq_getElem hlt3⟩
              have hnb := (nbR_mem hlt hlt2).1 (List.mem_of_getElem? hp)
              simp only at hnb
              have htk : (nbR t y x).take (i + 1) = (nbR t y x).take i ++ [(y1, x1)] := by rw [List.take_add_one, hp]; rfl
              have hsf := hm.sf.app [(⟨0, nlN (nbR t y x).length, 2, (nbR t y x).map posM⟩ : MObj)]
              obtain ⟨refs, r1, r2, r3, r4, r5, r6⟩ := hsf.rd hlt hlt2
              obtain ⟨refs', p1, p2, p3, p4, p5, p6⟩ := hsf.rd (y := y1) (x := x1) hnb.1 hnb.2.1
              have hrr : refs' = refs := by rw [p1] at r1; cases r1; rfl
              subst hrr
              try simp only at r3 r4 r5 p3 p4 p5
              have f0 := at_app hm.b0 [(⟨0, nlN (nbR t y x).length, 2, (nbR t y x).map posM⟩ : MObj)]
              have fn : (h ++ [(⟨0, nlN (nbR t y x).length, 2, (nbR t y x).map posM⟩ : MObj)])[3 + 2 * t.ter.length]? = some ⟨0, nlN (nbR t y x).length, 2, (nbR t y x).map posM⟩ := by rw [← hln]; exact at_end _ _
              have fok : MHeap.ok (h ++ [(⟨0, nlN (nbR t y x).length, 2, (nbR t y x).map posM⟩ : MObj)]) (3 + 2 * t.ter.length) 0 2 = true := ok_of fn rfl rfl
              have fe : ((nbR t y x).map posM)[0 + ((i : Nat) : Int).toNat]? = some (posM (y1, x1)) := by rw [Nat.zero_add, Int.toNat_natCast, List.getElem?_map, hp]; rfl
              obtain ⟨a1, a2⟩ := ok.top hsi.pre y x hlt hlt2
              obtain ⟨a3, a4⟩ := ok.top hsi.pre y1 x1 hnb.1 hnb.2.1
              have hy1 : y1 < t.ter.length := hnb.1
              have hx1 := hnb.2.1
              have hnl := nbR_len t y x
              repeat (first | apply ef_seq | (apply ef_mv; exact rfl; exact rfl) | (apply ef_bin; exact rfl; exact rfl; exact rfl; (first | exact cmp_t rfl (by first | exact rfl | (simp only [cmpP]; omega)) | ((with_reducible refine bin_sub (wrap_of ?_ ?_)) <;> omega) | exact rfl)) | (apply ef_len; exact rfl; exact rfl; (exact rfl)) | (apply ef_ldp; exact rfl; exact rfl; (assumption); exact rfl; (first | exact rfl | assumption); (exact rfl)) | (apply ef_iaa; exact rfl; exact rfl; exact rfl; (omega); (omega); (assumption)) | (apply ef_fap; exact rfl; exact rfl) | apply ef_nil | apply seqQ.normal | apply ef_block | apply ef_skip | (apply ef_condt; exact rfl; (exact (rfl : true = true))))
              by_cases hr : at2 s y x < at2 s y1 x1 - t.cb
              · repeat (first | (apply ef_mv; exact rfl; exact rfl) | (apply ef_ldp; exact rfl; exact rfl; (assumption); exact rfl; (assumption); (exact rfl)) | (apply ef_iaa; exact rfl; exact rfl; exact rfl; (omega); (omega); (assumption)) | (apply ef_condt; exact rfl; (exact decide_eq_true (by omega))))
                refine ef_st (o := ⟨0, false, 1, (s.getD y []).map I64⟩) (v := I64 (at2 s y1 x1 - t.cb)) (by exact rfl) rfl (by exact rfl) r4 rfl rfl r6 rfl ?_
                have m2 := hm.put (x := x) (v := at2 s y1 x1 - t.cb) hlt
                rw [List.set_append_left _ _ (by omega)]
                show Ef _ _ _ _ _ _ _ (h.set (3 + 2 * y) ⟨0, false, 1, ((s.getD y []).map I64).set (0 + ((x : Nat) : Int).toNat) (I64 (at2 s y1 x1 - t.cb))⟩ ++ _) _
                rw [show 0 + ((x : Nat) : Int).toNat = x by simp]
                repeat (first | (apply ef_mv; exact rfl; exact rfl) | (apply ef_bin; exact rfl; exact rfl; exact rfl; (((with_reducible refine bin_add (wrap_of ?_ ?_)) <;> omega))) | apply ef_nil | apply seqQ.normal | apply blockQ.normal)
                have hl2 := m2.len
                refine loopQ.normal _ _ ⟨(i + 1, true, set2 s y x (at2 s y1 x1 - t.cb), h.set (3 + 2 * y) ⟨0, false, 1, ((s.getD y []).map I64).set x (I64 (at2 s y1 x1 - t.cb))⟩), ⟨hlt3, ⟨hsi.pre.raise hnb.1 hnb.2.1 hnb.fl (hnb.symm hlt hlt2) hr, (fun h => by cases h), fun _ => ?_⟩, (fun h => by cases h), m2⟩, by simp only; omega, ⟨by ((repeat (refine Hold.cons (by exact rfl) ?_)); exact Hold.nil), by ((repeat (refine Hold.cons (by exact rfl) ?_)); exact Hold.nil)⟩, .all (by rw [List.length_append, hl2]; simp; omega)⟩
                have q1 := tot_le_up (s0 := s) hsi.pre.sh hlt hlt2 hr
                show tot s0 < tot (set2 s y x (at2 s y1 x1 - t.cb))
                cases ag
                · rw [← (hsi.no rfl).1]; exact q1
                · have := hsi.yes rfl; omega
              · repeat (first | (apply ef_mv; exact rfl; exact rfl) | (apply ef_bin; exact rfl; exact rfl; exact rfl; (((with_reducible refine bin_add (wrap_of ?_ ?_)) <;> omega))) | apply ef_nil | apply seqQ.normal | apply blockQ.normal | apply ef_skip | (apply ef_condf; exact rfl; (exact decide_eq_false (by omega))))
                refine loopQ.normal _ _ ⟨(i + 1, ag, s, h), ⟨hlt3, hsi, fun e p hp => ?_, hm⟩, by simp only; omega, ⟨by ((repeat (refine Hold.cons (by exact rfl) ?_)); exact Hold.nil), by ((repeat (refine Hold.cons (by exact rfl) ?_)); exact Hold.nil)⟩, .all (by rw [List.length_append, hln]; simp; omega)⟩
                simp only at hp ⊢
                rw [htk, List.mem_append] at hp
                rcases hp with hp | hp
                · exact hal e p hp
                · rw [List.mem_singleton] at hp
                  subst hp
                  simp only
                  omega
            · rw [List.take_of_length_le (by omega)] at hal
              repeat (first | apply ef_seq | (apply ef_mv; exact rfl; exact rfl) | (apply ef_bin; exact rfl; exact rfl; exact rfl; (first | exact cmp_f rfl (by simp only [cmpP]; omega) | ((with_reducible refine bin_add (wrap_of ?_ ?_)) <;> omega))) | (apply ef_len; exact rfl; exact rfl; (exact rfl)) | apply ef_nil | apply seqQ.normal | apply loopQ.exit | apply ef_exit | apply seqQ.exit | apply blockQ.normal | apply blockQ.here | (apply ef_condf; exact rfl; (exact (rfl : false = false))))
              refine loopQ.normal _ _ ⟨(x + 1, ag, s, h), ⟨hlt2, ⟨hsi.pre, fun e => ⟨(hsi.no e).1, fun y' x' ha hb hf' hd => ?_⟩, hsi.yes⟩, hm⟩, by simp only; omega, ⟨by ((repeat (refine Hold.cons (by exact rfl) ?_)); exact Hold.nil), by ((repeat (refine Hold.cons (by exact rfl) ?_)); exact Hold.nil)⟩, HeadIs.tkE _ rfl hln (hm.cl.app _) fun u hu => ?_⟩
              · simp only [swD] at hd
                rcases hd with hd | ⟨rfl, hd⟩
                · exact (hsi.no e).2 y' x' ha hb hf' (.inl hd)
                · by_cases e2 : x' = x
                  · subst e2
                    exact fun y2 x2 hn2 => hal e (y2, x2) ((nbR_mem hlt hlt2).2 hn2)
                  · exact (hsi.no e).2 y' x' ha hb hf' (.inr ⟨rfl, by omega⟩)
              · simp only [List.mem_cons, List.not_mem_nil, or_false] at hu
                rcases hu with rfl | rfl | rfl | rfl | rfl
                · exact ⟨_, by exact rfl, rfl⟩
                · exact ⟨.arr 2 0 t.ter.length t.ter.length, by exact rfl, by simp [MV.lt]; omega⟩
                · exact ⟨_, by exact rfl, rfl⟩
                · exact ⟨.ptr 0 0 0 0, by exact rfl, by simp [MV.lt]; omega⟩
                · exact ⟨_, by exact rfl, rfl⟩
        · repeat (first | apply ef_seq | (apply ef_mv; exact rfl; exact rfl) | (apply ef_bin; exact rfl; exact rfl; exact rfl; (first | exact cmp_f rfl (by simp only [cmpP]; omega) | ((with_reducible refine bin_add (wrap_of ?_ ?_)) <;> omega))) | (apply ef_len; exact rfl; exact rfl; (exact rfl)) | (apply ef_ldp; exact rfl; exact rfl; (assumption); exact rfl; (assumption); (exact rfl)) | (apply ef_iaa; exact rfl; exact rfl; exact rfl; (omega); (omega); (assumption)) | apply ef_nil | apply seqQ.normal | apply loopQ.exit | apply ef_exit | apply seqQ.exit | apply blockQ.normal | apply blockQ.here | (apply ef_condf; exact rfl; (exact (rfl : false = false))))
          refine loopQ.normal _ _ ⟨(y + 1, ag, s, h), ⟨hlt, ⟨hsi.pre, fun h => ⟨(hsi.no h).1, fun y' x' ha hb hf hd => (hsi.no h).2 y' x' ha hb hf ?_⟩, hsi.yes⟩, hm⟩, by simp only; omega, ⟨by ((repeat (refine Hold.cons (by exact rfl) ?_)); exact Hold.nil), by ((repeat (refine Hold.cons (by exact rfl) ?_)); exact Hold.nil)⟩, .all (by rw [hm.len]; exact Nat.le_refl _)⟩
          simp only [swD] at hd ⊢
          by_cases e : y' = y
          · exact .inr ⟨e, by omega⟩
          · exact .inl (by omega)
      · repeat (first | apply ef_seq | (apply ef_mv; exact rfl; exact rfl) | (apply ef_bin; exact rfl; exact rfl; exact rfl; (exact cmp_f rfl (by simp only [cmpP]; omega))) | (apply ef_len; exact rfl; exact rfl; (exact rfl)) | apply ef_nil | apply seqQ.normal | apply loopQ.exit | apply ef_exit | apply seqQ.exit | apply blockQ.normal | apply blockQ.here | (apply ef_condf; exact rfl; (exact (rfl : false = false))))
        refine loopQ.normal _ _ ⟨(ag, s, h), ⟨hsi.pre, hm, fun e => ?_⟩, ?_, ⟨by ((repeat (refine Hold.cons (by exact rfl) ?_)); exact Hold.nil), by ((repeat (refine Hold.cons (by exact rfl) ?_)); exact Hold.nil)⟩, .all (by rw [hm.len]; exact Nat.le_refl _)⟩
        · simp only at e
          subst e
          exact hsi.done fun y' x' ha hb => by show y' < y; have : y' < t.ter.length := ha; omega
        · have ht1 := ok.tot hsi.pre
          cases ag
          · rw [(hsi.no rfl).1]; simp
          · have := hsi.yes rfl
            simp only [if_true]; omega
theorem rLowest_c (k : Nat) {t : Tk} (ok : OkT t) (hb : Bd t) {g : List (List Int)} (hg : Lea t g) (h : MHeap) : orA (k + 3) 43 [encT t] h = some (.arr h.length 0 t.ter.length 0, h ++ [⟨0, false, 1, g.map encW⟩]) := by
  have := callA (k := k + 2) (h := h) (frzL_lt (ms := [encT t]) (by simp [ltL, encT_lt])) rfl (rLowest_z k ok hb hg) rfl (by simp [okH, ltL_W, ltL, MV.lt, ltL_I, ltL_B])
  simpa [shV, sh1] using this
end Go.Proofs.Ytgjpdjihjphbdaa

/- The contract of the reference's excess; errors of tasks. -/
namespace Go.Proofs.Ytgjpdjihjphbdaa
open Go.RowKit
set_option linter.unusedVariables false

theorem nodesP_part (y x W : Nat) : nodesP y W ++ (List.range (x + 1)).map (fun x => (y, x)) = (nodesP y W ++ (List.range x).map fun x => (y, x)) ++ [(y, x)] := by
  rw [List.range_succ, List.map_append, List.append_assoc]; rfl
theorem mf_rExcess : MT.mf 44 = some ⟨43, [(.tmp 2)], (.seq (.reg [⟨none, (some 1), (.box 5 (.s 0))⟩, ⟨none, (some 2), (.mv (.c (.lit (.int .i64 0))))⟩]) (.seq (.reg [⟨none, (some 7), (.ld (some 5) (.s 1))⟩, ⟨none, (some 8), (.call 43 [(.s 7)])⟩, ⟨none, (some 3), (.mv (.s 8))⟩]) (.seq (.reg [⟨none, (some 4), (.mv (.c (.lit (.int .i64 0))))⟩]) (.seq (.seq (.reg [⟨none, (some 5), (.mv (.c (.lit (.int .i64 0))))⟩]) (.block 0 (.loop [5, 3, 1, 4] (.seq (.seq (.reg [⟨none, (some 9), (.mv (.s 5))⟩, ⟨none, (some 10), (.mv (.s 3))⟩, ⟨none, (some 11), (.len (.s 10))⟩, ⟨none, (some 12), (.bin .lss (.s 9) (.s 11))⟩]) (.cond (.s 12) .skip (.exit 0))) (.seq (.block 1 (.seq (.reg [⟨none, (some 6), (.mv (.c (.lit (.int .i64 0))))⟩]) (.block 2 (.loop [6, 3, 5, 1, 4] (.seq (.seq (.reg [⟨none, (some 15), (.mv (.s 6))⟩, ⟨none, (some 16), (.mv (.s 3))⟩, ⟨none, (some 17), (.mv (.s 5))⟩, ⟨none, (some 18), (.ia 1 (.s 16) (.s 17))⟩, ⟨none, (some 19), (.ld none (.s 18))⟩, ⟨none, (some 20), (.len (.s 19))⟩, ⟨none, (some 21), (.bin .lss (.s 15) (.s 20))⟩]) (.cond (.s 21) .skip (.exit 2))) (.seq (.block 3 (.seq (.reg [⟨none, (some 24), (.ld (some 5) (.s 1))⟩, ⟨none, (some 25), (.mv (.s 6))⟩, ⟨none, (some 26), (.mv (.s 5))⟩, ⟨none, (some 27), (.call 47 [(.s 24), (.s 25), (.s 26)])⟩]) (.cond (.s 27) (.reg [⟨none, (some 28), (.mv (.s 4))⟩, ⟨none, (some 29), (.mv (.s 3))⟩, ⟨none, (some 30), (.mv (.s 5))⟩, ⟨none, (some 31), (.ia 1 (.s 29) (.s 30))⟩, ⟨none, (some 32), (.ld none (.s 31))⟩, ⟨none, (some 33), (.mv (.s 6))⟩, ⟨none, (some 34), (.ia 1 (.s 32) (.s 33))⟩, ⟨none, (some 35), (.ld none (.s 34))⟩, ⟨none, (some 36), (.bin .add (.s 28) (.s 35))⟩, ⟨none, (some 37), (.ld (some 5) (.s 1))⟩, ⟨none, (some 38), (.mv (.s 6))⟩, ⟨none, (some 39), (.mv (.s 5))⟩, ⟨none, (some 40), (.call 51 [(.s 37), (.s 38), (.s 39)])⟩, ⟨none, (some 41), (.bin .sub (.s 36) (.s 40))⟩, ⟨none, (some 4), (.mv (.s 41))⟩]) .skip))) (.reg [⟨none, (some 22), (.mv (.s 6))⟩, ⟨none, (some 23), (.bin .add (.s 22) (.c (.lit (.int .i64 1))))⟩, ⟨none, (some 6), (.mv (.s 23))⟩]))))))) (.reg [⟨none, (some 13), (.mv (.s 5))⟩, ⟨none, (some 14), (.bin .add (.s 13) (.c (.lit (.int .i64 1))))⟩, ⟨none, (some 5), (.mv (.s 14))⟩])))))) (.seq (.reg [⟨none, (some 42), (.mv (.s 4))⟩, ⟨none, (some 2), (.mv (.s 42))⟩]) .ret)))))⟩ := by kernel_rfl
set_option maxHeartbeats 1000000 in
theorem rExcess_z (k : Nat) {t : Tk} (ok : OkT t) (hb : Bd t) {g : List (List Int)} (hg : Lea t g) : runZ MT (orA (k + 3)) (itA (k + 3)) 4000000 44 [encT t] [] = some (I64 (exF t g (nodesP t.ter.length t.W)), []) := by
  obtain ⟨h1, h2⟩ := ok.h1
  obtain ⟨w1, w2⟩ := ok.w1
  have hlo := fun h => rLowest_c k ok hb hg h
  have hgl := hg.1.sh.hl
  have hsg : (MV.arr 1 0 t.ter.length 0).slen = some t.ter.length := rfl
  refine runZ_of mf_rExcess (by simp) ?_
  simp only [argsL]
  repeat (first | apply ef_seq | (apply ef_mv; exact rfl; exact rfl) | (apply ef_ldp; exact rfl; exact rfl; (exact rfl); exact rfl; (exact rfl); (exact rd_5 rfl rfl rfl rfl rfl)) | (apply ef_box; exact rfl; exact rfl; exact rfl; exact rfl) | apply ef_nil | apply seqQ.normal | apply ef_block | (apply ef_call; exact rfl; ((repeat (apply XVs.cons; exact rfl)); exact XVs.nil); (with_reducible exact hlo _)))
  refine ef_loopg (α := Nat × Int) (fun s => s.1 ≤ t.ter.length ∧ s.2 = exF t g (nodesP s.1 t.W) ∧ -(240000 * (s.1 : Int)) ≤ s.2 ∧ s.2 ≤ 240000 * (s.1 : Int)) (fun s => [(5, I64 (s.1 : Int)), (4, I64 s.2)]) [(3, .arr 1 0 t.ter.length 0), (1, .ptr 0 0 0 0)] (fun _ => [⟨0, false, 5, [encT t]⟩, ⟨0, false, 1, g.map encW⟩]) (fun s => t.ter.length - s.1) (0, 0) [5, 4] (fun _ => rfl) (by ((repeat (refine Hold.cons (by exact rfl) ?_)); exact Hold.nil)) (by ((repeat (refine Hold.cons (by exact rfl) ?_)); exact Hold.nil)) rfl rfl rfl ⟨by simp, rfl, by simp, by simp⟩ (by simp; omega) ?_
  rintro ⟨y, v⟩ ⟨hy, hv, v1, v2⟩
  simp only at hy hv v1 v2 ⊢
  by_cases hlt : y < t.ter.length
  · have hyg : y < g.length := by rw [hgl]; exact hlt
    have e1 : (g.map encW)[0 + ((y : Nat) : Int).toNat]? = some (encW (g.getD y [])) := by
      rw [Nat.zero_add, Int.toNat_natCast, List.getElem?_map, List.getD_eq_getElem?_getD, List.getElem?_eq_getElem hyg]; rfl
    have hrw := hg.1.sh.row hlt
    have hsr : (encW (g.getD y [])).slen = some t.W := by simp [MV.slen]; exact hrw
    repeat (first | apply ef_seq | (apply ef_mv; exact rfl; exact rfl) | (apply ef_bin; exact rfl; exact rfl; exact rfl; (exact cmp_t rfl (by first | exact rfl | (simp only [cmpP]; omega)))) | (apply ef_len; exact rfl; exact rfl; (assumption)) | apply ef_nil | apply seqQ.normal | apply ef_block | apply ef_skip | (apply ef_condt; exact rfl; (exact (rfl : true = true))))
    refine ef_loopg (α := Nat × Int) (fun s => s.1 ≤ t.W ∧ s.2 = exF t g (nodesP y t.W ++ (List.range s.1).map fun x => (y, x)) ∧ -(240000 * (y : Int) + 20000 * (s.1 : Int)) ≤ s.2 ∧ s.2 ≤ 240000 * (y : Int) + 20000 * (s.1 : Int)) (fun s => [(6, I64 (s.1 : Int)), (4, I64 s.2)]) [(3, .arr 1 0 t.ter.length 0), (1, .ptr 0 0 0 0), (5, I64 (y : Int))] (fun _ => [⟨0, false, 5, [encT t]⟩, ⟨0, false, 1, g.map encW⟩]) (fun s => t.W - s.1) (0, v) [6, 4] (fun _ => rfl) (by ((repeat (refine Hold.cons (by exact rfl) ?_)); exact Hold.nil)) (by ((repeat (refine Hold.cons (by exact rfl) ?_)); exact Hold.nil)) rfl rfl rfl ⟨by simp, by simp [hv], by simp only; omega, by simp only; omega⟩ (by simp; omega) ?_
    clear hv v1 v2 v
    rintro ⟨x, v⟩ ⟨hx, hv, v1, v2⟩
    simp only at hx hv v1 v2 ⊢
    by_cases hlt2 : x < t.W
    · have hE := exF_app t g (nodesP y t.W ++ (List.range x).map fun x => (y, x)) (y, x)
      rw [← nodesP_part, ← hv] at hE
      obtain ⟨a1, a2⟩ := ok.top hg.pre y x hlt hlt2
      obtain ⟨n1, n2⟩ := ok.need hlt hlt2
      have e2 : ((g.getD y []).map I64)[((x : Nat) : Int).toNat]? = some (I64 (at2 g y x)) := cell_at (by omega)
      clear hv
      cases hf : t.fl y x
      · have hfl := fun h => rFlown_c (k + 1) t hb h1 (x : Int) (y : Int) h ((t.flI_nat hlt hlt2).trans hf)
        simp only [hf] at hE
        repeat (first | apply ef_seq | (apply ef_mv; exact rfl; exact rfl) | (apply ef_bin; exact rfl; exact rfl; exact rfl; (first | exact cmp_t rfl (by first | exact rfl | (simp only [cmpP]; omega)) | ((with_reducible refine bin_add (wrap_of ?_ ?_)) <;> omega))) | (apply ef_len; exact rfl; exact rfl; (assumption)) | (apply ef_ldp; exact rfl; exact rfl; (exact rfl); exact rfl; (first | exact rfl | assumption); (first | exact rd_5 rfl rfl rfl rfl rfl | exact rfl)) | (apply ef_iaa; exact rfl; exact rfl; exact rfl; (omega); (omega); (exact rfl)) | apply ef_nil | apply seqQ.normal | apply blockQ.normal | apply ef_block | apply ef_skip | (apply ef_condt; exact rfl; (exact (rfl : true = true))) | (apply ef_condf; exact rfl; (exact (rfl : false = false))) | (apply ef_call; exact rfl; ((repeat (apply XVs.cons; exact rfl)); exact XVs.nil); (with_reducible exact hfl _)))
        (refine loopQ.normal _ _ ⟨(x + 1, v), ⟨hlt2, by rw [hE]; simp, by simp only; omega, by simp only; omega⟩, (by first | (simp only; omega) | omega), ⟨by ((repeat (refine Hold.cons (by exact rfl) ?_)); exact Hold.nil), by ((repeat (refine Hold.cons (by exact rfl) ?_)); exact Hold.nil)⟩, .all (by first | exact Nat.le_refl _ | (simp; done) | (simp; omega))⟩)
      · have hfl := fun h => rFlown_c (k + 1) t hb h1 (x : Int) (y : Int) h ((t.flI_nat hlt hlt2).trans hf)
        have hnd := fun h => rNeed_c (k + 2) t ok hlt hlt2 h
        simp only [hf, if_true] at hE
        generalize g.getD y [] = row at *
        generalize at2 g y x = a at *
        generalize t.need y x = nn at *
        repeat (first | apply ef_seq | (apply ef_mv; exact rfl; exact rfl) | (apply ef_bin; exact rfl; exact rfl; exact rfl; (first | exact cmp_t rfl (by first | exact rfl | (simp only [cmpP]; omega)) | ((with_reducible refine bin_add (wrap_of ?_ ?_)) <;> omega) | ((with_reducible refine bin_sub (wrap_of ?_ ?_)) <;> omega))) | (apply ef_len; exact rfl; exact rfl; (assumption)) | (apply ef_ldr; exact rfl; exact rfl; (exact rfl)) | (apply ef_ldp; exact rfl; exact rfl; (exact rfl); exact rfl; (first | exact rfl | assumption); (first | exact rd_5 rfl rfl rfl rfl rfl | exact rfl)) | (apply ef_ias; exact rfl; exact rfl; exact rfl; (omega); assumption; exact rfl) | (apply ef_iaa; exact rfl; exact rfl; exact rfl; (omega); (omega); (exact rfl)) | apply ef_nil | apply seqQ.normal | apply blockQ.normal | apply ef_block | apply ef_skip | (apply ef_condt; exact rfl; (exact (rfl : true = true))) | (apply ef_call; exact rfl; ((repeat (apply XVs.cons; exact rfl)); exact XVs.nil); (with_reducible first | exact hfl _ | exact hnd _)))
        (refine loopQ.normal _ _ ⟨(x + 1, v + a - nn), ⟨hlt2, by rw [hE]; simp only; omega, by simp only; omega, by simp only; omega⟩, (by first | (simp only; omega) | omega), ⟨by ((repeat (refine Hold.cons (by exact rfl) ?_)); exact Hold.nil), by ((repeat (refine Hold.cons (by exact rfl) ?_)); exact Hold.nil)⟩, .all (by first | exact Nat.le_refl _ | (simp; done) | (simp; omega))⟩)
    · obtain rfl : x = t.W := by omega
      repeat (first | apply ef_seq | (apply ef_mv; exact rfl; exact rfl) | (apply ef_bin; exact rfl; exact rfl; exact rfl; (first | exact cmp_f rfl (by simp only [cmpP]; omega) | ((with_reducible refine bin_add (wrap_of ?_ ?_)) <;> omega))) | (apply ef_len; exact rfl; exact rfl; (assumption)) | (apply ef_ldp; exact rfl; exact rfl; (exact rfl); exact rfl; (assumption); (exact rfl)) | (apply ef_iaa; exact rfl; exact rfl; exact rfl; (omega); (omega); (exact rfl)) | apply ef_nil | apply seqQ.normal | apply loopQ.exit | apply ef_exit | apply seqQ.exit | apply blockQ.normal | apply blockQ.here | (apply ef_condf; exact rfl; (exact (rfl : false = false))))
      (refine loopQ.normal _ _ ⟨(y + 1, v), ⟨hlt, by simp only; rw [hv, nodesP_succ], by simp only; omega, by simp only; omega⟩, (by first | (simp only; omega) | omega), ⟨by ((repeat (refine Hold.cons (by exact rfl) ?_)); exact Hold.nil), by ((repeat (refine Hold.cons (by exact rfl) ?_)); exact Hold.nil)⟩, .all (by first | exact Nat.le_refl _ | (simp; done) | (simp; omega))⟩)
  · obtain rfl : y = t.ter.length := by omega
    repeat (first | apply ef_seq | (apply ef_mv; exact rfl; exact rfl) | (apply ef_bin; exact rfl; exact rfl; exact rfl; (exact cmp_f rfl (by simp only [cmpP]; omega))) | (apply ef_len; exact rfl; exact rfl; (assumption)) | apply ef_nil | apply seqQ.normal | apply loopQ.exit | apply ef_ret | apply ef_exit | apply seqQ.exit | apply blockQ.here | (apply ef_condf; exact rfl; (exact (rfl : false = false))))
    (refine fin1 rfl (by exact rfl) rfl ?_)
    rw [hv]
theorem rExcess_c (k : Nat) {t : Tk} (ok : OkT t) (hb : Bd t) {g : List (List Int)} (hg : Lea t g) (h : MHeap) : orA (k + 4) 44 [encT t] h = some (I64 (exF t g (nodesP t.ter.length t.W)), h) :=
  callL (args' := [encT t]) (frzL_lt (by simp [ltL, MV.lt, ltL_I, ltL_W])) rfl (rExcess_z k ok hb hg)

theorem lns_val {cnt : Int} : ∀ {ns : List Int} {last : Int} {i : Nat}, (lnsE cnt last i ns).2 = 0 ∨ (lnsE cnt last i ns).2 = 6 ∨ (lnsE cnt last i ns).2 = 9
  | [], _, _ => .inl rfl
  | n :: ns, last, i => by
    simp only [lnsE]
    split
    · exact lns_val
    · simp only [lnE, firstE, unl]
      cases inB n 0 (cnt - 1) <;> cases decide (last < n) <;> simp
theorem taskF_rel (t : Tk) : (taskF (fun _ => 0) t).2 = (taskF id t).2 ∧ ((taskF id t).2 ≠ 0 → (taskF id t).1 = (taskF (fun _ => 0) t).1 ∨ (taskF id t).2 = 6 ∨ (taskF id t).2 = 9) := by
  unfold taskF
  split
  · split
    · split
      · split
        · exact ⟨rfl, fun h => .inr ((lns_val).resolve_left h)⟩
        · exact ⟨rfl, fun h => .inr ((lns_val).resolve_left h)⟩
      · exact ⟨rfl, fun _ => .inl rfl⟩
    · exact ⟨rfl, fun _ => .inl rfl⟩
  · exact ⟨rfl, fun _ => .inl rfl⟩
end Go.Proofs.Ytgjpdjihjphbdaa

/- The examples that every law begins with. -/
namespace Go.Proofs.Ytgjpdjihjphbdaa
open Go.RowKit

theorem awake_z : runZ MT (orA 11) (itA 11) 4000000 15 [] [] = some (.lit (.bool true), []) := by kernel_rfl
end Go.Proofs.Ytgjpdjihjphbdaa

/- The law of groups: the walk. -/
namespace Go.Proofs.Ytgjpdjihjphbdaa
open Go.RowKit

theorem awake_c (h : MHeap) : orA 12 15 [] h = some (Bo true, h) := callL (args' := []) rfl rfl awake_z

end Go.Proofs.Ytgjpdjihjphbdaa

/- The law of surfaces: the walk. -/
namespace Go.Proofs.Ytgjpdjihjphbdaa
open Go.RowKit
set_option linter.unusedVariables false

theorem mf_DrapeSurfaces : MT.mf 5 = some ⟨122, [(.tmp 2)], (.seq (.reg [⟨none, (some 1), (.box 5 (.s 0))⟩, ⟨none, (some 2), (.mv (.c (.lit (.bool false))))⟩]) (.seq (.seq (.reg [⟨none, (some 13), (.call 15 [])⟩, ⟨none, (some 14), (.un .not (.s 13))⟩]) (.cond (.s 14) (.seq (.reg [⟨none, (some 2), (.mv (.c (.lit (.bool false))))⟩]) .ret) .skip)) (.seq (.seq (.reg [⟨none, (some 15), (.ld (some 5) (.s 1))⟩, ⟨none, (some 16), (.call 33 [(.s 15)])⟩, ⟨none, (some 17), (.un .not (.s 16))⟩]) (.cond (.s 17) (.seq (.reg [⟨none, (some 2), (.mv (.c (.lit (.bool true))))⟩]) .ret) .skip)) (.seq (.reg [⟨none, (some 19), (.ld (some 5) (.s 1))⟩, ⟨none, (some 20), (.call 35 [(.s 19)])⟩, ⟨none, (some 21), (.call 34 [(.s 20)])⟩, ⟨none, (some 18), (.mv (.s 21))⟩, ⟨none, (some 22), (.ext (.s 18) 0)⟩, ⟨none, (some 23), (.ext (.s 18) 1)⟩, ⟨none, (some 3), (.mv (.s 22))⟩, ⟨none, (some 4), (.mv (.s 23))⟩]) (.seq (.reg [⟨none, (some 25), (.ld (some 5) (.s 1))⟩, ⟨none, (some 26), (.call 35 [(.s 25)])⟩, ⟨none, (some 27), (.call 36 [(.s 26)])⟩, ⟨none, (some 24), (.mv (.s 27))⟩, ⟨none, (some 28), (.ext (.s 24) 0)⟩, ⟨none, (some 29), (.ext (.s 24) 1)⟩, ⟨none, (some 5), (.mv (.s 28))⟩, ⟨none, (some 6), (.mv (.s 29))⟩]) (.seq (.reg [⟨none, (some 31), (.ld (some 5) (.s 1))⟩, ⟨none, (some 32), (.call 35 [(.s 31)])⟩, ⟨none, (some 33), (.call 37 [(.s 32)])⟩, ⟨none, (some 30), (.mv (.s 33))⟩, ⟨none, (some 34), (.ext (.s 30) 0)⟩, ⟨none, (some 35), (.ext (.s 30) 1)⟩, ⟨none, (some 7), (.mv (.s 34))⟩, ⟨none, (some 8), (.mv (.s 35))⟩]) (.seq (.reg [⟨none, (some 37), (.ld (some 5) (.s 1))⟩, ⟨none, (some 38), (.call 35 [(.s 37)])⟩, ⟨none, (some 39), (.call 38 [(.s 38)])⟩, ⟨none, (some 36), (.mv (.s 39))⟩, ⟨none, (some 40), (.ext (.s 36) 0)⟩, ⟨none, (some 41), (.ext (.s 36) 1)⟩, ⟨none, (some 9), (.mv (.s 40))⟩, ⟨none, (some 10), (.mv (.s 41))⟩]) (.seq (.reg [⟨none, (some 43), (.ld (some 5) (.s 1))⟩, ⟨none, (some 44), (.call 39 [(.s 43)])⟩, ⟨none, (some 42), (.mv (.s 44))⟩, ⟨none, (some 45), (.ext (.s 42) 0)⟩, ⟨none, (some 46), (.ext (.s 42) 1)⟩, ⟨none, (some 11), (.mv (.s 45))⟩, ⟨none, (some 12), (.mv (.s 46))⟩]) (.seq (.seq (.reg [⟨none, (some 47), (.mv (.s 4))⟩, ⟨none, (some 48), (.mv (.s 12))⟩, ⟨none, (some 49), (.bin .neq (.s 47) (.s 48))⟩]) (.cond (.s 49) (.seq (.reg [⟨none, (some 2), (.mv (.c (.lit (.bool false))))⟩]) .ret) .skip)) (.seq (.seq (.reg [⟨none, (some 50), (.mv (.s 12))⟩, ⟨none, (some 51), (.bin .neq (.s 50) (.c (.lit (.int .i64 0))))⟩]) (.cond (.s 51) (.seq (.reg [⟨none, (some 52), (.mv (.s 3))⟩, ⟨none, (some 53), (.mv (.s 11))⟩, ⟨none, (some 54), (.bin .eql (.s 52) (.s 53))⟩, ⟨none, (some 55), (.mv (.s 54))⟩, ⟨(some (55, false)), (some 56), (.mv (.s 12))⟩, ⟨(some (55, false)), (some 57), (.bin .eql (.s 56) (.c (.lit (.int .i64 6))))⟩, ⟨none, (some 58), (.pick (.s 55) (.c (.lit (.bool true))) (.s 57))⟩, ⟨none, (some 59), (.mv (.s 58))⟩, ⟨(some (59, false)), (some 60), (.mv (.s 12))⟩, ⟨(some (59, false)), (some 61), (.bin .eql (.s 60) (.c (.lit (.int .i64 9))))⟩, ⟨none, (some 62), (.pick (.s 59) (.c (.lit (.bool true))) (.s 61))⟩, ⟨none, (some 63), (.mv (.s 62))⟩, ⟨(some (63, true)), (some 64), (.mv (.s 6))⟩, ⟨(some (63, true)), (some 65), (.mv (.s 12))⟩, ⟨(some (63, true)), (some 66), (.bin .eql (.s 64) (.s 65))⟩, ⟨none, (some 67), (.pick (.s 63) (.s 66) (.c (.lit (.bool false))))⟩, ⟨none, (some 68), (.mv (.s 67))⟩, ⟨(some (68, true)), (some 69), (.mv (.s 8))⟩, ⟨(some (68, true)), (some 70), (.mv (.s 12))⟩, ⟨(some (68, true)), (some 71), (.bin .eql (.s 69) (.s 70))⟩, ⟨none, (some 72), (.pick (.s 68) (.s 71) (.c (.lit (.bool false))))⟩, ⟨none, (some 73), (.mv (.s 72))⟩, ⟨(some (73, true)), (some 74), (.mv (.s 10))⟩, ⟨(some (73, true)), (some 75), (.mv (.s 12))⟩, ⟨(some (73, true)), (some 76), (.bin .eql (.s 74) (.s 75))⟩, ⟨none, (some 77), (.pick (.s 73) (.s 76) (.c (.lit (.bool false))))⟩, ⟨none, (some 78), (.mv (.s 77))⟩, ⟨(some (78, true)), (some 79), (.mv (.s 5))⟩, ⟨(some (78, true)), (some 80), (.len (.s 79))⟩, ⟨(some (78, true)), (some 81), (.mv (.s 7))⟩, ⟨(some (78, true)), (some 82), (.len (.s 81))⟩, ⟨(some (78, true)), (some 83), (.bin .add (.s 80) (.s 82))⟩, ⟨(some (78, true)), (some 84), (.bin .eql (.s 83) (.c (.lit (.int .i64 0))))⟩, ⟨none, (some 85), (.pick (.s 78) (.s 84) (.c (.lit (.bool false))))⟩, ⟨none, (some 86), (.mv (.s 85))⟩, ⟨(some (86, true)), (some 87), (.mv (.s 9))⟩, ⟨(some (86, true)), (some 88), (.bin .eql (.s 87) (.c (.lit (.int .i64 0))))⟩, ⟨none, (some 89), (.pick (.s 86) (.s 88) (.c (.lit (.bool false))))⟩, ⟨none, (some 2), (.mv (.s 89))⟩]) .ret) .skip)) (.seq (.reg [⟨none, (some 90), (.mv (.s 3))⟩, ⟨none, (some 91), (.bin .eql (.s 90) (.c (.lit (.int .i64 0))))⟩, ⟨none, (some 92), (.mv (.s 91))⟩, ⟨(some (92, true)), (some 93), (.mv (.s 6))⟩, ⟨(some (92, true)), (some 94), (.bin .eql (.s 93) (.c (.lit (.int .i64 0))))⟩, ⟨none, (some 95), (.pick (.s 92) (.s 94) (.c (.lit (.bool false))))⟩, ⟨none, (some 96), (.mv (.s 95))⟩, ⟨(some (96, true)), (some 97), (.mv (.s 5))⟩, ⟨(some (96, true)), (some 98), (.ld (some 5) (.s 1))⟩, ⟨(some (96, true)), (some 99), (.call 41 [(.s 98)])⟩, ⟨(some (96, true)), (some 100), (.call 40 [(.s 97), (.s 99)])⟩, ⟨none, (some 101), (.pick (.s 96) (.s 100) (.c (.lit (.bool false))))⟩, ⟨none, (some 102), (.mv (.s 101))⟩, ⟨(some (102, true)), (some 103), (.mv (.s 8))⟩, ⟨(some (102, true)), (some 104), (.bin .eql (.s 103) (.c (.lit (.int .i64 0))))⟩, ⟨none, (some 105), (.pick (.s 102) (.s 104) (.c (.lit (.bool false))))⟩, ⟨none, (some 106), (.mv (.s 105))⟩, ⟨(some (106, true)), (some 107), (.mv (.s 7))⟩, ⟨(some (106, true)), (some 108), (.ld (some 5) (.s 1))⟩, ⟨(some (106, true)), (some 109), (.call 43 [(.s 108)])⟩, ⟨(some (106, true)), (some 110), (.call 42 [(.s 107), (.s 109)])⟩, ⟨none, (some 111), (.pick (.s 106) (.s 110) (.c (.lit (.bool false))))⟩, ⟨none, (some 112), (.mv (.s 111))⟩, ⟨(some (112, true)), (some 113), (.mv (.s 10))⟩, ⟨(some (112, true)), (some 114), (.bin .eql (.s 113) (.c (.lit (.int .i64 0))))⟩, ⟨none, (some 115), (.pick (.s 112) (.s 114) (.c (.lit (.bool false))))⟩, ⟨none, (some 116), (.mv (.s 115))⟩, ⟨(some (116, true)), (some 117), (.mv (.s 9))⟩, ⟨(some (116, true)), (some 118), (.ld (some 5) (.s 1))⟩, ⟨(some (116, true)), (some 119), (.call 44 [(.s 118)])⟩, ⟨(some (116, true)), (some 120), (.bin .eql (.s 117) (.s 119))⟩, ⟨none, (some 121), (.pick (.s 116) (.s 120) (.c (.lit (.bool false))))⟩, ⟨none, (some 2), (.mv (.s 121))⟩]) .ret)))))))))))⟩ := by kernel_rfl
set_option maxHeartbeats 4000000 in
theorem DrapeSurfaces_z (t : Tk) (m1 : t.ter.length ≤ 9223372036854775807) (m2 : t.rows.length ≤ 9223372036854775807) (m3 : t.ties.length ≤ 9223372036854775807) (m4 : ∀ r ∈ t.ter, r.length ≤ 9223372036854775807) :
    runZ MT (orA 12) (itA 12) 4000000 5 [encT t] [] = some (Bo true, []) := by
  refine runZ_of mf_DrapeSurfaces (by simp) ?_
  simp only [argsL]
  cases hf : fewT t
  · have hfw := fun h => Few_c 11 t m1 m2 m3 m4 h hf
    repeat (first | apply ef_seq | (apply ef_mv; exact rfl; exact rfl) | (apply ef_ldp; exact rfl; exact rfl; (exact rfl); exact rfl; (exact rfl); (exact rd_5 rfl rfl rfl rfl rfl)) | (apply ef_notT; exact rfl; exact rfl) | (apply ef_notF; exact rfl; exact rfl) | (apply ef_box; exact rfl; exact rfl; exact rfl; exact rfl) | apply ef_nil | apply seqQ.normal | apply ef_ret | apply seqQ.ret | apply ef_skip | (apply ef_condt; exact rfl; (exact (rfl : true = true))) | (apply ef_condf; exact rfl; (exact (rfl : false = false))) | (apply ef_call; exact rfl; ((repeat (apply XVs.cons; exact rfl)); exact XVs.nil); (with_reducible first | exact awake_c _ | exact hfw _)))
    (refine fin1 rfl (by exact rfl) rfl ?_)
    rfl
  · have hfw := fun h => Few_c 11 t m1 m2 m3 m4 h hf
    obtain ⟨bd, -⟩ := fewT_bd hf
    have hcp := fun h => CopyTask_c 9 t bd h
    have hck := fun h => CheckTask_c 6 t bd h
    have hrc := fun h => rCheckTask_c 9 t bd h
    obtain ⟨hR1, hR2⟩ := taskF_rel t
    by_cases h0 : (taskF id t).2 = 0
    · obtain ⟨ok, hT⟩ := task_ok h0
      have hT2 := (task_ok (f := fun _ => 0) (t := t) (by rw [hR1]; exact h0)).2
      simp only [hT, id] at hck
      simp only [hT2] at hrc
      obtain ⟨g, hg⟩ := ok.lea
      obtain ⟨v, X, hc, hfz⟩ := CrossingsOf_ok 4 bd h0 [⟨0, false, 5, [encT t]⟩]
      have hgl : g.length = t.ter.length := hg.1.sh.hl
      have hgr : ∀ r ∈ g, r.length < 1000000 := fun r hr => by
        obtain ⟨y, hy, rfl⟩ := List.getElem_of_mem hr
        have := hg.1.sh.wl y hy
        have := ok.w1
        omega
      have hlo := Lowest_ok 4 bd h0 hg ([⟨0, false, 5, [encT t]⟩] ++ X)
      have hex := fun h => ExcessOf_ok 4 bd h0 hg h
      have hcr := rCrossings_c 11 ok bd ([⟨0, false, 5, [encT t]⟩] ++ X ++ [⟨0, false, 1, g.map encW⟩])
      obtain ⟨u, hu1, hu2⟩ := hfz ([⟨0, false, 1, g.map encW⟩] ++ [⟨0, nlN t.crL.length, 2, t.crL.map posM⟩])
      have hsp := SamePositions_c 11 (Q := t.crL) (by have := crs_len ok; omega) ([⟨0, false, 5, [encT t]⟩] ++ X ++ [⟨0, false, 1, g.map encW⟩] ++ [⟨0, nlN t.crL.length, 2, t.crL.map posM⟩]) (v := v) (w := .arr ([⟨0, false, 5, [encT t]⟩] ++ X ++ [⟨0, false, 1, g.map encW⟩] : MHeap).length 0 t.crL.length 0) (u := u) (by rw [← List.append_assoc] at hu1; exact hu1) hu2 (fz_arr (at_end _ _) rfl (by simp) (ltL_P 0 _) rfl).now
      have hrl := rLowest_c 9 ok bd hg ([⟨0, false, 5, [encT t]⟩] ++ X ++ [⟨0, false, 1, g.map encW⟩] ++ [⟨0, nlN t.crL.length, 2, t.crL.map posM⟩])
      have hli := bLists_c 10 g (by have := ok.h1; omega) hgr ([⟨0, false, 5, [encT t]⟩] ++ X ++ [⟨0, false, 1, g.map encW⟩] ++ [⟨0, nlN t.crL.length, 2, t.crL.map posM⟩] ++ [⟨0, false, 1, g.map encW⟩]) (v := .arr ([⟨0, false, 5, [encT t]⟩] ++ X : MHeap).length 0 t.ter.length 0) (w := .arr ([⟨0, false, 5, [encT t]⟩] ++ X ++ [⟨0, false, 1, g.map encW⟩] ++ [⟨0, nlN t.crL.length, 2, t.crL.map posM⟩] : MHeap).length 0 t.ter.length 0)
        (fz_arr (at_app (at_app (at_end _ _) _) _) rfl (by simp [hgl]) (ltL_W 0 g) rfl).now (fz_arr (at_end _ _) rfl (by simp [hgl]) (ltL_W 0 g) rfl).now
      have hre := fun h => rExcess_c 8 ok bd hg h
      have f0 : ([⟨0, false, 5, [encT t]⟩] ++ X : MHeap)[0]? = some ⟨0, false, 5, [encT t]⟩ := rfl
      have f1 := at_app f0 [(⟨0, false, 1, g.map encW⟩ : MObj)]
      have f2 := at_app f1 [(⟨0, nlN t.crL.length, 2, t.crL.map posM⟩ : MObj)]
      have f3 := at_app f2 [(⟨0, false, 1, g.map encW⟩ : MObj)]
      generalize exF t g (nodesP t.ter.length t.W) = ex at hex hre
      clear hu1 hu2 hfz hR1 hR2 hT hT2 m1 m2 m3 m4
      repeat (first | apply ef_seq | (apply ef_mv; exact rfl; exact rfl) | (apply ef_ldp; exact rfl; exact rfl; (exact rfl); exact rfl; (exact rfl); (exact rd_5 rfl rfl rfl rfl rfl)) | (apply ef_notT; exact rfl; exact rfl) | (apply ef_ext; exact rfl; exact rfl; exact rfl) | (apply ef_box; exact rfl; exact rfl; exact rfl; exact rfl) | apply ef_nil | apply seqQ.normal | apply ef_skip | (apply ef_condf; exact rfl; (exact (rfl : false = false))) | (apply ef_call; exact rfl; ((repeat (apply XVs.cons; exact rfl)); exact XVs.nil); (with_reducible first | exact awake_c _ | exact hfw _ | exact hcp _ | exact hck _)))
      (apply ef_call; (· exact rfl); (· ((repeat (apply XVs.cons; exact rfl)); exact XVs.nil)); · exact hc)
      repeat (first | apply ef_seq | (apply ef_mv; exact rfl; exact rfl) | (apply ef_ldp; exact rfl; exact rfl; (exact rfl); exact rfl; (exact rfl); (exact rd_5 rfl rfl rfl rfl rfl)) | (apply ef_ext; exact rfl; exact rfl; exact rfl) | apply ef_nil | apply seqQ.normal | (apply ef_call; exact rfl; ((repeat (apply XVs.cons; exact rfl)); exact XVs.nil); (with_reducible exact hcp _)))
      (apply ef_call; (· exact rfl); (· ((repeat (apply XVs.cons; exact rfl)); exact XVs.nil)); · exact hlo)
      repeat (first | apply ef_seq | (apply ef_mv; exact rfl; exact rfl) | (apply ef_bin; exact rfl; exact rfl; exact rfl; (first | exact cmp_t rfl (by first | exact rfl | (simp only [cmpP]; omega)) | exact cmp_f rfl (by simp only [cmpP]; omega))) | (apply ef_gy; exact rfl; (exact (rfl : true = true))) | (apply ef_pick; exact rfl; exact rfl; exact rfl) | (apply ef_ldp; exact rfl; exact rfl; (exact rfl); exact rfl; (exact rfl); (exact rd_5 rfl rfl rfl rfl rfl)) | (apply ef_ext; exact rfl; exact rfl; exact rfl) | apply ef_nil | apply seqQ.normal | apply ef_skip | (apply ef_condf; exact rfl; (exact (rfl : false = false))) | (apply ef_call; exact rfl; ((repeat (apply XVs.cons; exact rfl)); exact XVs.nil); (with_reducible first | exact hcp _ | exact hex _ | exact hrc _)))
      (apply ef_call; (· exact rfl); (· ((repeat (apply XVs.cons; exact rfl)); exact XVs.nil)); · exact hcr)
      repeat (first | (apply ef_gy; exact rfl; (exact (rfl : true = true))))
      (apply ef_call; (· exact rfl); (· ((repeat (apply XVs.cons; exact rfl)); exact XVs.nil)); · exact hsp)
      repeat (first | (apply ef_mv; exact rfl; exact rfl) | (apply ef_bin; exact rfl; exact rfl; exact rfl; (exact cmp_t rfl (by first | exact rfl | (simp only [cmpP]; omega)))) | (apply ef_gy; exact rfl; (exact (rfl : true = true))) | (apply ef_pick; exact rfl; exact rfl; exact rfl) | (apply ef_ldp; exact rfl; exact rfl; (exact rfl); exact rfl; (exact rfl); (exact rd_5 rfl rfl rfl rfl rfl)))
      (apply ef_call; (· exact rfl); (· ((repeat (apply XVs.cons; exact rfl)); exact XVs.nil)); · exact hrl)
      repeat (first | (apply ef_gy; exact rfl; (exact (rfl : true = true))))
      (apply ef_call; (· exact rfl); (· ((repeat (apply XVs.cons; exact rfl)); exact XVs.nil)); · exact hli)
      repeat (first | (apply ef_mv; exact rfl; exact rfl) | (apply ef_bin; exact rfl; exact rfl; exact rfl; (exact cmp_t rfl (by first | exact rfl | (simp only [cmpP]; omega)))) | (apply ef_gy; exact rfl; (exact (rfl : true = true))) | (apply ef_pick; exact rfl; exact rfl; exact rfl) | (apply ef_ldp; exact rfl; exact rfl; (exact rfl); exact rfl; (exact rfl); (exact rd_5 rfl rfl rfl rfl rfl)) | apply ef_nil | apply seqQ.normal | apply ef_ret | (apply ef_call; exact rfl; ((repeat (apply XVs.cons; exact rfl)); exact XVs.nil); (with_reducible exact hre _)))
      (refine fin1 rfl (by exact rfl) rfl ?_)
      rfl
    · obtain ⟨X, hc⟩ := CrossingsOf_bad 4 bd h0 [⟨0, false, 5, [encT t]⟩]
      have hlo := Lowest_bad 4 bd h0 ([⟨0, false, 5, [encT t]⟩] ++ X)
      have hex := fun h => ExcessOf_bad 4 bd h0 h
      have hR3 := hR2 h0
      rw [hR1] at hrc
      generalize (taskF id t).2 = e at *
      generalize (taskF id t).1 = i at *
      generalize (taskF (fun _ => 0) t).1 = j at *
      have f0 : ([⟨0, false, 5, [encT t]⟩] ++ X : MHeap)[0]? = some ⟨0, false, 5, [encT t]⟩ := rfl
      have f1 := at_app f0 [(⟨0, true, 1, []⟩ : MObj)]
      clear hR1 hR2 m1 m2 m3 m4
      by_cases hij : i = j
      · repeat (first | apply ef_seq | (apply ef_mv; exact rfl; exact rfl) | (apply ef_ldp; exact rfl; exact rfl; (exact rfl); exact rfl; (exact rfl); (exact rd_5 rfl rfl rfl rfl rfl)) | (apply ef_notT; exact rfl; exact rfl) | (apply ef_ext; exact rfl; exact rfl; exact rfl) | (apply ef_box; exact rfl; exact rfl; exact rfl; exact rfl) | apply ef_nil | apply seqQ.normal | apply ef_skip | (apply ef_condf; exact rfl; (exact (rfl : false = false))) | (apply ef_call; exact rfl; ((repeat (apply XVs.cons; exact rfl)); exact XVs.nil); (with_reducible first | exact awake_c _ | exact hfw _ | exact hcp _ | exact hck _)))
        (apply ef_call; (· exact rfl); (· ((repeat (apply XVs.cons; exact rfl)); exact XVs.nil)); · exact hc)
        repeat (first | apply ef_seq | (apply ef_mv; exact rfl; exact rfl) | (apply ef_ldp; exact rfl; exact rfl; (exact rfl); exact rfl; (exact rfl); (exact rd_5 rfl rfl rfl rfl rfl)) | (apply ef_ext; exact rfl; exact rfl; exact rfl) | apply ef_nil | apply seqQ.normal | (apply ef_call; exact rfl; ((repeat (apply XVs.cons; exact rfl)); exact XVs.nil); (with_reducible exact hcp _)))
        (apply ef_call; (· exact rfl); (· ((repeat (apply XVs.cons; exact rfl)); exact XVs.nil)); · exact hlo)
        repeat (first | apply ef_seq | (apply ef_mv; exact rfl; exact rfl) | (apply ef_bin; exact rfl; exact rfl; exact rfl; (first | exact cmp_t rfl (by first | exact rfl | (simp only [cmpP]; omega)) | exact cmp_f rfl (by simp only [cmpP]; omega) | ((with_reducible refine bin_add (wrap_of ?_ ?_)) <;> omega))) | (apply ef_gy; exact rfl; (exact (rfl : true = true))) | (apply ef_gn; exact rfl; (exact (rfl : true = true)); exact rfl) | (apply ef_pick; exact rfl; exact rfl; exact rfl) | (apply ef_len; exact rfl; exact rfl; (exact rfl)) | (apply ef_ldp; exact rfl; exact rfl; (exact rfl); exact rfl; (exact rfl); (exact rd_5 rfl rfl rfl rfl rfl)) | (apply ef_ext; exact rfl; exact rfl; exact rfl) | apply ef_nil | apply seqQ.normal | apply ef_ret | apply seqQ.ret | apply ef_skip | (apply ef_condt; exact rfl; (exact (rfl : true = true))) | (apply ef_condf; exact rfl; (exact (rfl : false = false))) | (apply ef_call; exact rfl; ((repeat (apply XVs.cons; exact rfl)); exact XVs.nil); (with_reducible first | exact hcp _ | exact hex _ | exact hrc _)))
        (refine fin1 rfl (by exact rfl) rfl ?_)
        rfl
      · by_cases h6 : e = 6
        · repeat (first | apply ef_seq | (apply ef_mv; exact rfl; exact rfl) | (apply ef_ldp; exact rfl; exact rfl; (exact rfl); exact rfl; (exact rfl); (exact rd_5 rfl rfl rfl rfl rfl)) | (apply ef_notT; exact rfl; exact rfl) | (apply ef_ext; exact rfl; exact rfl; exact rfl) | (apply ef_box; exact rfl; exact rfl; exact rfl; exact rfl) | apply ef_nil | apply seqQ.normal | apply ef_skip | (apply ef_condf; exact rfl; (exact (rfl : false = false))) | (apply ef_call; exact rfl; ((repeat (apply XVs.cons; exact rfl)); exact XVs.nil); (with_reducible first | exact awake_c _ | exact hfw _ | exact hcp _ | exact hck _)))
          (apply ef_call; (· exact rfl); (· ((repeat (apply XVs.cons; exact rfl)); exact XVs.nil)); · exact hc)
          repeat (first | apply ef_seq | (apply ef_mv; exact rfl; exact rfl) | (apply ef_ldp; exact rfl; exact rfl; (exact rfl); exact rfl; (exact rfl); (exact rd_5 rfl rfl rfl rfl rfl)) | (apply ef_ext; exact rfl; exact rfl; exact rfl) | apply ef_nil | apply seqQ.normal | (apply ef_call; exact rfl; ((repeat (apply XVs.cons; exact rfl)); exact XVs.nil); (with_reducible exact hcp _)))
          (apply ef_call; (· exact rfl); (· ((repeat (apply XVs.cons; exact rfl)); exact XVs.nil)); · exact hlo)
          repeat (first | apply ef_seq | (apply ef_mv; exact rfl; exact rfl) | (apply ef_bin; exact rfl; exact rfl; exact rfl; (first | exact cmp_t rfl (by first | exact rfl | (simp only [cmpP]; omega)) | exact cmp_f rfl (by simp only [cmpP]; omega) | ((with_reducible refine bin_add (wrap_of ?_ ?_)) <;> omega))) | (apply ef_gy; exact rfl; (first | exact (rfl : true = true) | exact (rfl : false = false))) | (apply ef_gn; exact rfl; (exact (rfl : true = true)); exact rfl) | (apply ef_pick; exact rfl; exact rfl; exact rfl) | (apply ef_len; exact rfl; exact rfl; (exact rfl)) | (apply ef_ldp; exact rfl; exact rfl; (exact rfl); exact rfl; (exact rfl); (exact rd_5 rfl rfl rfl rfl rfl)) | (apply ef_ext; exact rfl; exact rfl; exact rfl) | apply ef_nil | apply seqQ.normal | apply ef_ret | apply seqQ.ret | apply ef_skip | (apply ef_condt; exact rfl; (exact (rfl : true = true))) | (apply ef_condf; exact rfl; (exact (rfl : false = false))) | (apply ef_call; exact rfl; ((repeat (apply XVs.cons; exact rfl)); exact XVs.nil); (with_reducible first | exact hcp _ | exact hex _ | exact hrc _)))
          (refine fin1 rfl (by exact rfl) rfl ?_)
          rfl
        · have h9 : e = 9 := by
            rcases hR3 with h | h | h
            · exact absurd h hij
            · exact absurd h h6
            · exact h
          repeat (first | apply ef_seq | (apply ef_mv; exact rfl; exact rfl) | (apply ef_ldp; exact rfl; exact rfl; (exact rfl); exact rfl; (exact rfl); (exact rd_5 rfl rfl rfl rfl rfl)) | (apply ef_notT; exact rfl; exact rfl) | (apply ef_ext; exact rfl; exact rfl; exact rfl) | (apply ef_box; exact rfl; exact rfl; exact rfl; exact rfl) | apply ef_nil | apply seqQ.normal | apply ef_skip | (apply ef_condf; exact rfl; (exact (rfl : false = false))) | (apply ef_call; exact rfl; ((repeat (apply XVs.cons; exact rfl)); exact XVs.nil); (with_reducible first | exact awake_c _ | exact hfw _ | exact hcp _ | exact hck _)))
          (apply ef_call; (· exact rfl); (· ((repeat (apply XVs.cons; exact rfl)); exact XVs.nil)); · exact hc)
          repeat (first | apply ef_seq | (apply ef_mv; exact rfl; exact rfl) | (apply ef_ldp; exact rfl; exact rfl; (exact rfl); exact rfl; (exact rfl); (exact rd_5 rfl rfl rfl rfl rfl)) | (apply ef_ext; exact rfl; exact rfl; exact rfl) | apply ef_nil | apply seqQ.normal | (apply ef_call; exact rfl; ((repeat (apply XVs.cons; exact rfl)); exact XVs.nil); (with_reducible exact hcp _)))
          (apply ef_call; (· exact rfl); (· ((repeat (apply XVs.cons; exact rfl)); exact XVs.nil)); · exact hlo)
          repeat (first | apply ef_seq | (apply ef_mv; exact rfl; exact rfl) | (apply ef_bin; exact rfl; exact rfl; exact rfl; (first | exact cmp_t rfl (by first | exact rfl | (simp only [cmpP]; omega)) | exact cmp_f rfl (by simp only [cmpP]; omega) | ((with_reducible refine bin_add (wrap_of ?_ ?_)) <;> omega))) | (apply ef_gy; exact rfl; (first | exact (rfl : true = true) | exact (rfl : false = false))) | (apply ef_pick; exact rfl; exact rfl; exact rfl) | (apply ef_len; exact rfl; exact rfl; (exact rfl)) | (apply ef_ldp; exact rfl; exact rfl; (exact rfl); exact rfl; (exact rfl); (exact rd_5 rfl rfl rfl rfl rfl)) | (apply ef_ext; exact rfl; exact rfl; exact rfl) | apply ef_nil | apply seqQ.normal | apply ef_ret | apply seqQ.ret | apply ef_skip | (apply ef_condt; exact rfl; (exact (rfl : true = true))) | (apply ef_condf; exact rfl; (exact (rfl : false = false))) | (apply ef_call; exact rfl; ((repeat (apply XVs.cons; exact rfl)); exact XVs.nil); (with_reducible first | exact hcp _ | exact hex _ | exact hrc _)))
          (refine fin1 rfl (by exact rfl) rfl ?_)
          rfl
end Go.Proofs.Ytgjpdjihjphbdaa
