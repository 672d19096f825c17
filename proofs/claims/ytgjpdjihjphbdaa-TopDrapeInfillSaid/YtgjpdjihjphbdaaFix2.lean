/- Contracts of the program: the reasons of fixes. -/
import Derived.Test.YtgjpdjihjphbdaaFix0
import Derived.Test.YtgjpdjihjphbdaaTx
namespace Go.Proofs.Ytgjpdjihjphbdaa
open Go.RowKit

/-- What reasons are made of. -/
def fixE (r : Ru) (fs : List Fx) : Int := firstE [rulesE r, fixesE fs]
theorem unl_range {b : Bool} {n : Int} (hn : n ≠ 0) (h : unl b n = 0) : b = true := by
  cases b
  · exact absurd h hn
  · rfl
theorem inB_out {a b c : Int} (h : inB a b c = true) : b ≤ a ∧ a ≤ c := by simpa [inB] using h
theorem fixE_ok {r : Ru} {fs : List Fx} (h : fixE r fs = 0) : rulesE r = 0 ∧ fixesE fs = 0 := by
  unfold fixE at h
  by_cases h1 : rulesE r = 0
  · rw [h1] at h
    refine ⟨h1, ?_⟩
    by_cases h2 : fixesE fs = 0
    · exact h2
    · simp [firstE, h2] at h
  · simp [firstE, h1] at h
theorem rulesE_ok {r : Ru} (h : rulesE r = 0) : (0 ≤ r.drift ∧ r.drift ≤ 10000) ∧ (0 ≤ r.over ∧ r.over ≤ 200) ∧ (0 ≤ r.low ∧ r.low ≤ 10000) ∧ (0 ≤ r.high ∧ r.high ≤ 10000) ∧ (0 ≤ r.noise ∧ r.noise ≤ 10000) ∧ r.low ≤ r.high := by
  unfold rulesE at h
  cases hb : (inB r.drift 0 10000 && inB r.low 0 10000 && inB r.high 0 10000 && inB r.noise 0 10000 && inB r.over 0 200)
  · rw [hb] at h; simp [unl, firstE] at h
  · rw [hb] at h
    simp only [Bool.and_eq_true] at hb
    obtain ⟨⟨⟨⟨h1, h2⟩, h3⟩, h4⟩, h5⟩ := hb
    refine ⟨inB_out h1, inB_out h5, inB_out h2, inB_out h3, inB_out h4, ?_⟩
    by_cases h6 : r.low ≤ r.high
    · exact h6
    · simp [unl, firstE, h6] at h
theorem fixesE_ok {fs : List Fx} (h : fixesE fs = 0) : fs.length ≤ 200 ∧ ∀ f ∈ fs, strangeX f = false := by
  unfold fixesE at h
  by_cases hl : (fs.length : Int) ≤ 200
  · cases hs : fs.any strangeX
    · exact ⟨by omega, fun f hf => by have := List.any_eq_false.1 hs f hf; simpa using this⟩
    · simp [unl, firstE, hl, hs] at h
  · simp [unl, firstE, hl] at h
theorem offA_at (d : Int) (fs : List Fx) (i : Nat) (h : i < fs.length) : offA d fs i = offB d fs[i] := by
  simp [offA, List.getElem?_eq_getElem h]

theorem mf_ReasonsOf : MT.mf 78 = some ⟨121, [(.tmp 4), (.tmp 5)], (.seq (.reg [⟨none, (some 2), (.box 5 (.s 0))⟩, ⟨none, (some 4), (.nil0 1)⟩, ⟨none, (some 5), (.mv (.c (.lit (.int .i64 0))))⟩]) (.seq (.seq (.reg [⟨none, (some 15), (.ld (some 5) (.s 2))⟩, ⟨none, (some 16), (.call 82 [(.s 15)])⟩, ⟨none, (some 17), (.mv (.s 1))⟩, ⟨none, (some 18), (.call 145 [(.s 17)])⟩, ⟨none, (some 19), (.bsl (.lit (.int .i64 0)) 1 2 [(0, (.s 16)), (1, (.s 18))])⟩, ⟨none, (some 20), (.call 92 [(.s 19)])⟩, ⟨none, (some 6), (.mv (.s 20))⟩]) (.seq (.reg [⟨none, (some 21), (.mv (.s 6))⟩, ⟨none, (some 22), (.bin .neq (.s 21) (.c (.lit (.int .i64 0))))⟩]) (.cond (.s 22) (.seq (.reg [⟨none, (some 23), (.mv (.s 6))⟩, ⟨none, (some 4), (.nil0 1)⟩, ⟨none, (some 5), (.mv (.s 23))⟩]) .ret) .skip))) (.seq (.reg [⟨none, (some 24), (.mv (.s 1))⟩, ⟨none, (some 25), (.len (.s 24))⟩, ⟨none, (some 26), (.mks (.lit (.int .i64 0)) (.s 25))⟩, ⟨none, (some 7), (.mv (.s 26))⟩]) (.seq (.seq (.reg [⟨none, (some 27), (.mv (.s 1))⟩, ⟨none, (some 28), (.len (.s 27))⟩, ⟨none, (some 29), (.mv (.c (.lit (.int .i64 0))))⟩]) (.block 0 (.loop [29, 28, 27, 2, 7, 1] (.seq (.reg [⟨none, (some 30), (.bin .lss (.s 29) (.s 28))⟩]) (.seq (.cond (.s 30) .skip (.exit 0)) (.seq (.block 1 (.seq (.reg [⟨none, (some 31), (.mv (.s 29))⟩, ⟨none, (some 32), (.ia 3 (.s 27) (.s 29))⟩, ⟨none, (some 33), (.ld (some 3) (.s 32))⟩, ⟨none, (some 9), (.new (.agg [(.lit (.int .i64 0)), (.lit (.int .i64 0)), (.lit (.int .i64 0))]))⟩, ⟨none, (some 8), (.mv (.s 31))⟩, ⟨none, none, (.st 3 (.s 9) (.s 33))⟩]) (.seq (.reg [⟨none, (some 34), (.fa 0 (.s 9))⟩, ⟨none, (some 35), (.ld none (.s 34))⟩, ⟨none, (some 36), (.fa 0 (.s 2))⟩, ⟨none, (some 37), (.ld none (.s 36))⟩, ⟨none, (some 38), (.call 146 [(.s 35), (.s 37)])⟩, ⟨none, (some 39), (.un .not (.s 38))⟩]) (.cond (.s 39) (.seq (.reg [⟨none, (some 40), (.mv (.s 7))⟩, ⟨none, (some 41), (.mv (.s 8))⟩, ⟨none, (some 42), (.ia 1 (.s 40) (.s 41))⟩, ⟨none, none, (.st 1 (.s 42) (.c (.lit (.int .i64 1))))⟩]) (.seq (.reg [⟨none, (some 43), (.mv (.s 8))⟩, ⟨none, (some 44), (.bin .gtr (.s 43) (.c (.lit (.int .i64 0))))⟩]) (.cond (.s 44) (.reg [⟨none, (some 45), (.mv (.s 7))⟩, ⟨none, (some 46), (.mv (.s 8))⟩, ⟨none, (some 47), (.ia 1 (.s 45) (.s 46))⟩, ⟨none, (some 48), (.ld none (.s 47))⟩, ⟨none, (some 49), (.mv (.s 7))⟩, ⟨none, (some 50), (.mv (.s 8))⟩, ⟨none, (some 51), (.bin .sub (.s 50) (.c (.lit (.int .i64 1))))⟩, ⟨none, (some 52), (.ia 1 (.s 49) (.s 51))⟩, ⟨none, (some 53), (.ld none (.s 52))⟩, ⟨none, (some 54), (.bin .add (.s 48) (.s 53))⟩, ⟨none, (some 55), (.ia 1 (.s 45) (.s 46))⟩, ⟨none, none, (.st 1 (.s 55) (.s 54))⟩]) .skip))) .skip)))) (.reg [⟨none, (some 56), (.bin .add (.s 29) (.c (.lit (.int .i64 1))))⟩, ⟨none, (some 29), (.mv (.s 56))⟩]))))))) (.seq (.seq (.reg [⟨none, (some 57), (.mv (.s 1))⟩, ⟨none, (some 58), (.len (.s 57))⟩, ⟨none, (some 59), (.bin .sub (.s 58) (.c (.lit (.int .i64 2))))⟩, ⟨none, (some 10), (.mv (.s 59))⟩]) (.block 2 (.loop [10, 7, 1, 2] (.seq (.seq (.reg [⟨none, (some 60), (.mv (.s 10))⟩, ⟨none, (some 61), (.bin .geq (.s 60) (.c (.lit (.int .i64 0))))⟩]) (.cond (.s 61) .skip (.exit 2))) (.seq (.block 3 (.seq (.reg [⟨none, (some 64), (.mv (.s 7))⟩, ⟨none, (some 65), (.mv (.s 10))⟩, ⟨none, (some 66), (.ia 1 (.s 64) (.s 65))⟩, ⟨none, (some 67), (.ld none (.s 66))⟩, ⟨none, (some 68), (.bin .gtr (.s 67) (.c (.lit (.int .i64 0))))⟩]) (.cond (.s 68) (.reg [⟨none, (some 69), (.mv (.s 7))⟩, ⟨none, (some 70), (.mv (.s 10))⟩, ⟨none, (some 71), (.mv (.s 7))⟩, ⟨none, (some 72), (.mv (.s 10))⟩, ⟨none, (some 73), (.ia 1 (.s 71) (.s 72))⟩, ⟨none, (some 74), (.ld none (.s 73))⟩, ⟨none, (some 75), (.mv (.s 7))⟩, ⟨none, (some 76), (.mv (.s 10))⟩, ⟨none, (some 77), (.bin .add (.s 76) (.c (.lit (.int .i64 1))))⟩, ⟨none, (some 78), (.ia 1 (.s 75) (.s 77))⟩, ⟨none, (some 79), (.ld none (.s 78))⟩, ⟨none, (some 80), (.mx (.s 74) (.s 79))⟩, ⟨none, (some 81), (.ia 1 (.s 69) (.s 70))⟩, ⟨none, none, (.st 1 (.s 81) (.s 80))⟩]) .skip))) (.reg [⟨none, (some 62), (.mv (.s 10))⟩, ⟨none, (some 63), (.bin .sub (.s 62) (.c (.lit (.int .i64 1))))⟩, ⟨none, (some 10), (.mv (.s 63))⟩])))))) (.seq (.reg [⟨none, (some 11), (.nil0 1)⟩]) (.seq (.seq (.reg [⟨none, (some 82), (.mv (.s 1))⟩, ⟨none, (some 83), (.len (.s 82))⟩, ⟨none, (some 84), (.mv (.c (.lit (.int .i64 0))))⟩]) (.block 4 (.loop [84, 83, 82, 2, 11, 7] (.seq (.reg [⟨none, (some 85), (.bin .lss (.s 84) (.s 83))⟩]) (.seq (.cond (.s 85) .skip (.exit 4)) (.seq (.block 5 (.seq (.reg [⟨none, (some 86), (.mv (.s 84))⟩, ⟨none, (some 87), (.ia 3 (.s 82) (.s 84))⟩, ⟨none, (some 88), (.ld (some 3) (.s 87))⟩, ⟨none, (some 13), (.new (.agg [(.lit (.int .i64 0)), (.lit (.int .i64 0)), (.lit (.int .i64 0))]))⟩, ⟨none, (some 12), (.mv (.s 86))⟩, ⟨none, none, (.st 3 (.s 13) (.s 88))⟩]) (.seq (.reg [⟨none, (some 14), (.mv (.c (.lit (.int .i64 0))))⟩]) (.seq (.block 6 (.seq (.reg [⟨none, (some 90), (.fa 1 (.s 13))⟩, ⟨none, (some 91), (.ld none (.s 90))⟩, ⟨none, (some 92), (.fa 2 (.s 2))⟩, ⟨none, (some 93), (.ld none (.s 92))⟩, ⟨none, (some 94), (.bin .lss (.s 91) (.s 93))⟩, ⟨none, (some 89), (.mv (.s 94))⟩]) (.cond (.s 89) (.reg [⟨none, (some 14), (.mv (.c (.lit (.int .i64 1))))⟩]) (.seq (.reg [⟨none, (some 96), (.fa 1 (.s 13))⟩, ⟨none, (some 97), (.ld none (.s 96))⟩, ⟨none, (some 98), (.fa 3 (.s 2))⟩, ⟨none, (some 99), (.ld none (.s 98))⟩, ⟨none, (some 100), (.bin .gtr (.s 97) (.s 99))⟩, ⟨none, (some 95), (.mv (.s 100))⟩]) (.cond (.s 95) (.reg [⟨none, (some 14), (.mv (.c (.lit (.int .i64 2))))⟩]) (.seq (.reg [⟨none, (some 102), (.fa 2 (.s 13))⟩, ⟨none, (some 103), (.ld none (.s 102))⟩, ⟨none, (some 104), (.fa 4 (.s 2))⟩, ⟨none, (some 105), (.ld none (.s 104))⟩, ⟨none, (some 106), (.bin .gtr (.s 103) (.s 105))⟩, ⟨none, (some 101), (.mv (.s 106))⟩]) (.cond (.s 101) (.reg [⟨none, (some 14), (.mv (.c (.lit (.int .i64 3))))⟩]) (.seq (.reg [⟨none, (some 108), (.mv (.s 7))⟩, ⟨none, (some 109), (.mv (.s 12))⟩, ⟨none, (some 110), (.ia 1 (.s 108) (.s 109))⟩, ⟨none, (some 111), (.ld none (.s 110))⟩, ⟨none, (some 112), (.fa 1 (.s 2))⟩, ⟨none, (some 113), (.ld none (.s 112))⟩, ⟨none, (some 114), (.bin .gtr (.s 111) (.s 113))⟩, ⟨none, (some 107), (.mv (.s 114))⟩]) (.cond (.s 107) (.reg [⟨none, (some 14), (.mv (.c (.lit (.int .i64 4))))⟩]) .skip))))))))) (.reg [⟨none, (some 115), (.mv (.s 11))⟩, ⟨none, (some 116), (.mv (.s 14))⟩, ⟨none, (some 117), (.bsl (.lit (.int .i64 0)) 1 1 [(0, (.s 116))])⟩, ⟨none, (some 118), (.app 1 (.s 115) (.s 117))⟩, ⟨none, (some 11), (.mv (.s 118))⟩]))))) (.reg [⟨none, (some 119), (.bin .add (.s 84) (.c (.lit (.int .i64 1))))⟩, ⟨none, (some 84), (.mv (.s 119))⟩]))))))) (.seq (.reg [⟨none, (some 120), (.mv (.s 11))⟩, ⟨none, (some 4), (.mv (.s 120))⟩, ⟨none, (some 5), (.mv (.c (.lit (.int .i64 0))))⟩]) .ret))))))))⟩ := by kernel_rfl
theorem ReasonsOf_bad (k : Nat) (a b c d e x : Int) (fs : List Fx) (hx : fs.length ≤ 1000) (he : fixE ⟨a, b, c, d, e⟩ fs = x) (h0 : x ≠ 0) : runZ MT (orA (k + 6)) (itA (k + 6)) 1000000 78 [.agg [I64 a, I64 b, I64 c, I64 d, I64 e], .sl (fs.map encX)] [] = some (.tup [.arr 0 0 0 0, I64 x], [⟨0, true, 1, []⟩]) := by
  have hl : (MV.sl (fs.map encX)).slen = some fs.length := by simp [MV.slen]
  refine runZ_of mf_ReasonsOf (by simp) ?_
  simp only [argsL]
  unfold fixE at he
  have hc := fun h => fixesErr_c k fs h (v := .sl (fs.map encX)) hx (frz_sl (ltL_X 0 fs)) rfl
  have hr := fun h => CheckRules_c (k + 3) a b c d e h rfl
  repeat (first | apply ef_seq | (apply ef_mv; exact rfl; exact rfl) | (apply ef_bin; exact rfl; exact rfl; exact rfl; (exact cmp_t rfl (by first | exact rfl | (simp only [cmpP]; omega)))) | (apply ef_ldp; exact rfl; exact rfl; exact rfl; exact rfl; (exact rfl); (exact rd_5 rfl rfl rfl rfl rfl)) | (apply ef_box; exact rfl; exact rfl; exact rfl; exact rfl) | (apply ef_nil0; exact rfl) | (apply ef_bsl; exact rfl; (repeat (apply XVs.cons; exact rfl)); exact XVs.nil; exact rfl) | apply ef_nil | apply seqQ.normal | apply ef_ret | apply seqQ.ret | (apply ef_condt; exact rfl; (exact (rfl : true = true))) | (apply ef_call; exact rfl; ((repeat (apply XVs.cons; exact rfl)); exact XVs.nil); (with_reducible first | exact hr _ | exact hc _)) | (apply ef_call; exact rfl; ((repeat (apply XVs.cons; exact rfl)); exact XVs.nil); (with_reducible apply first2_c); exact rfl; exact rfl; exact rfl; (assumption)))
  (apply fin_al; exact rfl; exact rfl; exact rfl; exact rfl; exact rfl; exact rfl; exact rfl; exact rfl; exact rfl; exact rfl)

set_option maxHeartbeats 4000000 in
theorem ReasonsOf_z (k : Nat) (a b c d e : Int) (fs : List Fx) (hx : fs.length ≤ 1000) (he : fixE ⟨a, b, c, d, e⟩ fs = 0) : runZ MT (orA (k + 6)) (itA (k + 6)) 1000000 78 [.agg [I64 a, I64 b, I64 c, I64 d, I64 e], .sl (fs.map encX)] [] =
    some (.tup [.arr 0 0 fs.length 0, I64 0], [⟨0, nlN fs.length, 1, (reasonsL ⟨a, b, c, d, e⟩ fs).map I64⟩]) := by
  have hl : (MV.sl (fs.map encX)).slen = some fs.length := by simp [MV.slen]
  refine runZ_of mf_ReasonsOf (by simp) ?_
  simp only [argsL]
  obtain ⟨hr1, hr2⟩ := fixE_ok he
  obtain ⟨⟨q1, q2⟩, -⟩ := rulesE_ok hr1
  simp only at q1 q2
  have hc := fun h => fixesErr_c k fs h (v := .sl (fs.map encX)) hx (frz_sl (ltL_X 0 fs)) hr2
  have hr := fun h => CheckRules_c (k + 3) a b c d e h hr1
  have hsz := Lib.hid (fun (z : Int) (t : Bool) (ht : inB z (0 - a) a = t) h => isSized_c (k + 4) z a h q1 q2 ht)
  have HO : ∀ i (h : i < fs.length), offA a fs i = offB a fs[i] := fun i h => offA_at a fs i h
  generalize ho : offA a fs = o at HO
  have f0 : firstE [(0 : Int), 0] = 0 := rfl
  repeat (first | apply ef_seq | (apply ef_mv; exact rfl; exact rfl) | (apply ef_bin; exact rfl; exact rfl; exact rfl; (exact cmp_f rfl (by simp only [cmpP]; omega))) | (apply ef_len; exact rfl; exact rfl; (assumption)) | (apply ef_ldp; exact rfl; exact rfl; exact rfl; exact rfl; (exact rfl); (exact rd_5 rfl rfl rfl rfl rfl)) | (apply ef_box; exact rfl; exact rfl; exact rfl; exact rfl) | (apply ef_nil0; exact rfl) | (apply ef_bsl; exact rfl; (repeat (apply XVs.cons; exact rfl)); exact XVs.nil; exact rfl) | (apply ef_mks; exact rfl; exact rfl; (omega); (omega)) | apply ef_nil | apply seqQ.normal | apply ef_block | apply ef_skip | (apply ef_condf; exact rfl; (exact (rfl : false = false))) | (apply ef_call; exact rfl; ((repeat (apply XVs.cons; exact rfl)); exact XVs.nil); (with_reducible first | exact hr _ | exact hc _)) | (apply ef_call; exact rfl; ((repeat (apply XVs.cons; exact rfl)); exact XVs.nil); (with_reducible apply first2_c); exact rfl; exact rfl; exact rfl; (assumption)))
  -- how many are off, up to each one
  refine ef_loop (α := Nat × List Int) (fun s => s.1 ≤ fs.length ∧ s.2 = (List.range fs.length).map fun j => if j < s.1 then (upN o j : Int) else 0)
    (fun s => [(29, I64 (s.1 : Int)), (28, I64 (fs.length : Int)), (27, .sl (fs.map encX)), (2, .ptr 0 0 0 0), (7, .arr 3 0 fs.length 0), (1, .sl (fs.map encX))])
    (fun s => [⟨0, false, 5, [.agg [I64 a, I64 b, I64 c, I64 d, I64 e]]⟩, ⟨0, true, 1, []⟩, ⟨0, false, 1, [I64 0, I64 0]⟩, ⟨0, false, 1, s.2.map I64⟩]) (fun s => fs.length - s.1)
    (0, List.replicate fs.length 0) [29, 28, 27, 2, 7, 1] (fun _ => rfl) rfl ⟨by omega, ?_⟩ (by simp; omega) (by ((repeat (refine Hold.cons (by exact rfl) ?_)); exact Hold.nil)) ?_ ?_
  · simp only [Nat.not_lt_zero, if_false]
    exact (List.eq_replicate_iff.2 ⟨by simp, by simp⟩).symm
  · simp; rfl
  rintro ⟨i, xs⟩ ⟨hi, hz⟩
  simp only at hi hz ⊢
  by_cases hlt : i < fs.length
  · have e1 := at_map encX fs i hlt
    have HOi := HO i hlt
    have hxl : xs.length = fs.length := by rw [hz]; simp
    have hi0 : xs[i]? = some 0 := by rw [hz, rng_get _ hlt]; simp
    have g1 := at_I hi0 (j := (i : Int)) rfl
    have HZ := Lib.hid hz
    clear hz
    generalize fs[i] = z at e1 HOi
    obtain ⟨za, zb, zc⟩ := z
    have hoz : offB a ⟨za, zb, zc⟩ = !inB za (0 - a) a := rfl
    rw [hoz] at HOi
    cases ht : inB za (0 - a) a
    · have hsz1 := hsz.out za _ ht
      rw [ht] at HOi
      have g2 := at_I (xs := xs.set (0 + ((i : Nat) : Int).toNat) 1) (k := i) (v := 1) (j := (i : Int)) (by simp [hxl, hlt]) rfl
      rw [← set_mapI] at g2
      by_cases h0 : i = 0
      · subst h0
        repeat (first | apply ef_seq | (apply ef_mv; exact rfl; exact rfl) | (apply ef_bin; exact rfl; exact rfl; exact rfl; (first | exact cmp_t rfl (by first | exact rfl | (simp only [cmpP]; omega)) | exact cmp_f rfl (by simp only [cmpP]; omega) | ((with_reducible refine bin_add (wrap_of ?_ ?_)) <;> omega))) | (apply ef_ldr; exact rfl; exact rfl; (exact rd_3 rfl rfl rfl)) | (apply ef_ldp; exact rfl; exact rfl; exact rfl; exact rfl; (exact rfl); (exact rfl)) | (apply ef_ias; exact rfl; exact rfl; exact rfl; (omega); assumption; exact rfl) | (apply ef_iaa; exact rfl; exact rfl; exact rfl; (omega); (omega); (exact rfl)) | (apply ef_fap; exact rfl; exact rfl) | (apply ef_notF; exact rfl; exact rfl) | (apply ef_new; exact rfl) | (apply ef_st; exact rfl; exact rfl; exact rfl; exact rfl; exact rfl; exact rfl; (first | exact rfl | assumption); exact rfl) | apply ef_nil | apply seqQ.normal | apply blockQ.normal | apply ef_block | apply ef_skip | (apply ef_condt; exact rfl; (exact (rfl : true = true))) | (apply ef_condf; exact rfl; (exact (rfl : false = false))) | (apply ef_call; exact rfl; ((repeat (apply XVs.cons; exact rfl)); exact XVs.nil); (with_reducible exact hsz1 _)))
        simp only [set_mapI]
        (refine loopQ.normal _ _ ⟨(0 + 1, xs.set (0 + (((0 : Nat) : Nat) : Int).toNat) 1), ⟨hlt, by rw [HZ.out]; simp only [rng_set]; apply rng_congr; intro j hj; by_cases hj0 : j = 0; subst hj0; simp [upN, HOi]; simp [hj0]⟩, (by first | (simp only; omega) | omega), by ((repeat (refine Hold.cons (by exact rfl) ?_)); exact Hold.nil), .inr ⟨by ((repeat (refine hdl_cons rfl (by first | rfl | (simp [MV.lt, ltL_X, ltL_I, set_mapI, -List.map_set])) ?_)); exact hdl_nil), by first | rfl | (simp [hltL, ltL, MV.lt, ltL_X, ltL_I, set_mapI, -List.map_set])⟩, by first | exact rfl | (simp only [List.map_append, List.map_set]; exact rfl)⟩)
      · obtain ⟨u, hu⟩ : ∃ u : Nat, i = u + 1 := ⟨i - 1, by omega⟩
        have hu0 : xs[u]? = some (upN o u : Int) := by rw [HZ.out, rng_get _ (by omega), if_pos (by omega)]
        have g3 := at_I (xs := xs.set (0 + ((i : Nat) : Int).toNat) 1) (k := u) (v := (upN o u : Int)) (j := (i : Int) - 1) (by rw [List.getElem?_set_ne (by simp; omega)]; exact hu0) (by omega)
        rw [← set_mapI] at g3
        have hup := upN_le o u
        repeat (first | apply ef_seq | (apply ef_mv; exact rfl; exact rfl) | (apply ef_bin; exact rfl; exact rfl; exact rfl; (first | exact cmp_t rfl (by first | exact rfl | (simp only [cmpP]; omega)) | ((with_reducible refine bin_add (wrap_of ?_ ?_)) <;> omega) | ((with_reducible refine bin_sub (wrap_of ?_ ?_)) <;> omega))) | (apply ef_ldr; exact rfl; exact rfl; (exact rd_3 rfl rfl rfl)) | (apply ef_ldp; exact rfl; exact rfl; exact rfl; exact rfl; (first | exact rfl | assumption); (exact rfl)) | (apply ef_ias; exact rfl; exact rfl; exact rfl; (omega); assumption; exact rfl) | (apply ef_iaa; exact rfl; exact rfl; exact rfl; (omega); (omega); (exact rfl)) | (apply ef_fap; exact rfl; exact rfl) | (apply ef_notF; exact rfl; exact rfl) | (apply ef_new; exact rfl) | (apply ef_st; exact rfl; exact rfl; exact rfl; exact rfl; exact rfl; exact rfl; (first | exact rfl | assumption); exact rfl) | apply ef_nil | apply seqQ.normal | apply blockQ.normal | apply ef_block | apply ef_skip | (apply ef_condt; exact rfl; (exact (rfl : true = true))) | (apply ef_call; exact rfl; ((repeat (apply XVs.cons; exact rfl)); exact XVs.nil); (with_reducible exact hsz1 _)))
        simp only [set_mapI]
        (refine loopQ.normal _ _ ⟨(i + 1, (xs.set (0 + ((i : Nat) : Int).toNat) 1).set (0 + ((i : Nat) : Int).toNat) (1 + (upN o u : Int))), ⟨hlt, by rw [HZ.out]; simp only [rng_set]; apply rng_congr; intro j hj; by_cases hj0 : j = i; subst hj0; simp [hu, upN] at HOi ⊢; simp [HOi]; omega; simp [hj0]; exact lt_succ_ne hj0 _ _⟩, (by first | (simp only; omega) | omega), by ((repeat (refine Hold.cons (by exact rfl) ?_)); exact Hold.nil), .inr ⟨by ((repeat (refine hdl_cons rfl (by first | rfl | (simp [MV.lt, ltL_X, ltL_I, set_mapI, -List.map_set])) ?_)); exact hdl_nil), by first | rfl | (simp [hltL, ltL, MV.lt, ltL_X, ltL_I, set_mapI, -List.map_set])⟩, by first | exact rfl | (simp only [List.map_append, List.map_set]; exact rfl)⟩)
    · have hsz1 := hsz.out za _ ht
      rw [ht] at HOi
      repeat (first | apply ef_seq | (apply ef_mv; exact rfl; exact rfl) | (apply ef_bin; exact rfl; exact rfl; exact rfl; (first | exact cmp_t rfl (by first | exact rfl | (simp only [cmpP]; omega)) | ((with_reducible refine bin_add (wrap_of ?_ ?_)) <;> omega))) | (apply ef_ldr; exact rfl; exact rfl; (exact rd_3 rfl rfl rfl)) | (apply ef_ldp; exact rfl; exact rfl; exact rfl; exact rfl; (exact rfl); (exact rfl)) | (apply ef_ias; exact rfl; exact rfl; exact rfl; (omega); assumption; exact rfl) | (apply ef_fap; exact rfl; exact rfl) | (apply ef_notT; exact rfl; exact rfl) | (apply ef_new; exact rfl) | (apply ef_st; exact rfl; exact rfl; exact rfl; exact rfl; exact rfl; exact rfl; (exact rfl); exact rfl) | apply ef_nil | apply seqQ.normal | apply blockQ.normal | apply ef_block | apply ef_skip | (apply ef_condt; exact rfl; (exact (rfl : true = true))) | (apply ef_condf; exact rfl; (exact (rfl : false = false))) | (apply ef_call; exact rfl; ((repeat (apply XVs.cons; exact rfl)); exact XVs.nil); (with_reducible exact hsz1 _)))
      (refine loopQ.normal _ _ ⟨(i + 1, xs), ⟨hlt, by rw [HZ.out]; apply rng_congr; intro j hj; by_cases hj0 : j = i; subst hj0; simp [upN_zero HOi]; exact lt_succ_ne hj0 _ _⟩, (by first | (simp only; omega) | omega), by ((repeat (refine Hold.cons (by exact rfl) ?_)); exact Hold.nil), .inr ⟨by ((repeat (refine hdl_cons rfl (by first | rfl | (simp [MV.lt, ltL_X, ltL_I, set_mapI, -List.map_set])) ?_)); exact hdl_nil), by first | rfl | (simp [hltL, ltL, MV.lt, ltL_X, ltL_I, set_mapI, -List.map_set])⟩, by first | exact rfl | (simp only [List.map_append, List.map_set]; exact rfl)⟩)
  · have hz : xs = (List.range fs.length).map fun j => (upN o j : Int) := hz.trans (rng_congr fun j hj => if_pos (by omega))
    have hxl : xs.length = fs.length := by rw [hz]; simp
    repeat (first | apply ef_seq | (apply ef_mv; exact rfl; exact rfl) | (apply ef_bin; exact rfl; exact rfl; exact rfl; (first | exact cmp_f rfl (by simp only [cmpP]; omega) | ((with_reducible refine bin_sub (wrap_of ?_ ?_)) <;> omega))) | (apply ef_len; exact rfl; exact rfl; (assumption)) | apply ef_nil | apply seqQ.normal | apply loopQ.exit | apply ef_exit | apply seqQ.exit | apply blockQ.here | apply ef_block | (apply ef_condf; exact rfl; (exact (rfl : false = false))))
    -- how many in all, from the last one on
    refine ef_loop (α := Int × List Int) (fun s => -2 ≤ s.1 ∧ s.1 ≤ (fs.length : Int) - 2 ∧ s.2 = (List.range fs.length).map fun (j : Nat) => if s.1 < (j : Int) then (runR o fs.length j : Int) else (upN o j : Int))
      (fun s => [(10, I64 s.1), (7, .arr 3 0 fs.length 0), (1, .sl (fs.map encX)), (2, .ptr 0 0 0 0)])
      (fun s => [⟨0, false, 5, [.agg [I64 a, I64 b, I64 c, I64 d, I64 e]]⟩, ⟨0, true, 1, []⟩, ⟨0, false, 1, [I64 0, I64 0]⟩, ⟨0, false, 1, s.2.map I64⟩]) (fun s => (s.1 + 2).toNat)
      ((fs.length : Int) - 2, xs) [10, 7, 1, 2] (fun _ => rfl) rfl ⟨by simp only; omega, by simp only; omega, ?_⟩ (by simp only; omega) (by ((repeat (refine Hold.cons (by exact rfl) ?_)); exact Hold.nil)) rfl ?_
    · rw [hz]
      apply rng_congr
      intro j hj
      simp only
      by_cases hjn : j + 1 = fs.length
      · rw [if_pos (by omega), runR_last hjn]
      · rw [if_neg (by omega)]
    clear hz hxl
    rintro ⟨i, xs⟩ ⟨hi, hi2, hz⟩
    simp only at hi hi2 hz ⊢
    by_cases hge : 0 ≤ i
    · obtain ⟨u, rfl⟩ : ∃ u : Nat, i = u := ⟨i.toNat, by omega⟩
      have hxl : xs.length = fs.length := by rw [hz]; simp
      have hu0 : xs[u]? = some (upN o u : Int) := by rw [hz, rng_get _ (by omega), if_neg (by omega)]
      have hu1 : xs[u + 1]? = some (runR o fs.length (u + 1) : Int) := by rw [hz, rng_get _ (by omega), if_pos (by omega)]
      have g1 := at_I hu0 (j := (u : Int)) rfl
      have g2 := at_I hu1 (j := (u : Int) + 1) (by omega)
      have HZ := Lib.hid hz
      clear hz
      by_cases hou : o u = true
      · have hpos := upN_pos hou
        have hst := Lib.hid (runR_step (n := fs.length) (i := u) (by omega) hou)
        repeat (first | apply ef_seq | (apply ef_mv; exact rfl; exact rfl) | (apply ef_bin; exact rfl; exact rfl; exact rfl; (first | exact cmp_t rfl (by first | exact rfl | (simp only [cmpP]; omega)) | ((with_reducible refine bin_add (wrap_of ?_ ?_)) <;> omega) | ((with_reducible refine bin_sub (wrap_of ?_ ?_)) <;> omega))) | (apply ef_ldp; exact rfl; exact rfl; exact rfl; exact rfl; (assumption); (exact rfl)) | (apply ef_iaa; exact rfl; exact rfl; exact rfl; (omega); (omega); (exact rfl)) | (apply ef_mx; exact rfl; exact rfl; exact rfl) | (apply ef_st; exact rfl; exact rfl; exact rfl; exact rfl; exact rfl; exact rfl; (assumption); exact rfl) | apply ef_nil | apply seqQ.normal | apply blockQ.normal | apply ef_block | apply ef_skip | (apply ef_condt; exact rfl; (exact (rfl : true = true))))
        simp only [set_mapI]
        (refine loopQ.normal _ _ ⟨((u : Int) - 1, xs.set (0 + ((u : Nat) : Int).toNat) (mx (upN o u : Int) (runR o fs.length (u + 1) : Int))), ⟨by simp only; omega, by simp only; omega, by rw [HZ.out]; simp only [rng_set]; apply rng_congr; intro j hj; by_cases hj0 : j = u; subst hj0; rw [if_pos (by simp), if_pos (by omega), hst.out]; rw [if_neg (by simpa using hj0)]; exact le_pred_ne (by omega) _ _⟩, (by simp only; omega), by ((repeat (refine Hold.cons (by exact rfl) ?_)); exact Hold.nil), .inr ⟨by ((repeat (refine hdl_cons rfl (by first | rfl | (simp [MV.lt, ltL_X, ltL_I, set_mapI, -List.map_set])) ?_)); exact hdl_nil), by first | rfl | (simp [hltL, ltL, MV.lt, ltL_X, ltL_I, set_mapI, -List.map_set])⟩, by first | exact rfl | (simp only [List.map_append, List.map_set]; exact rfl)⟩)
      · have hzero := upN_zero (o := o) (i := u) (by simpa using hou)
        repeat (first | apply ef_seq | (apply ef_mv; exact rfl; exact rfl) | (apply ef_bin; exact rfl; exact rfl; exact rfl; (first | exact cmp_t rfl (by first | exact rfl | (simp only [cmpP]; omega)) | exact cmp_f rfl (by simp only [cmpP]; omega) | ((with_reducible refine bin_sub (wrap_of ?_ ?_)) <;> omega))) | (apply ef_ldp; exact rfl; exact rfl; exact rfl; exact rfl; (assumption); (exact rfl)) | (apply ef_iaa; exact rfl; exact rfl; exact rfl; (omega); (omega); (exact rfl)) | apply ef_nil | apply seqQ.normal | apply blockQ.normal | apply ef_block | apply ef_skip | (apply ef_condt; exact rfl; (exact (rfl : true = true))) | (apply ef_condf; exact rfl; (exact (rfl : false = false))))
        (refine loopQ.normal _ _ ⟨((u : Int) - 1, xs), ⟨by simp only; omega, by simp only; omega, by rw [HZ.out]; apply rng_congr; intro j hj; by_cases hj0 : j = u; subst hj0; simp [hzero, runR, hou]; exact le_pred_ne (by omega) _ _⟩, (by simp only; omega), by ((repeat (refine Hold.cons (by exact rfl) ?_)); exact Hold.nil), .inr ⟨by ((repeat (refine hdl_cons rfl (by first | rfl | (simp [MV.lt, ltL_X, ltL_I, set_mapI, -List.map_set])) ?_)); exact hdl_nil), by first | rfl | (simp [hltL, ltL, MV.lt, ltL_X, ltL_I, set_mapI, -List.map_set])⟩, by first | exact rfl | (simp only [List.map_append, List.map_set]; exact rfl)⟩)
    · have hz : xs = (List.range fs.length).map fun j => (runR o fs.length j : Int) := hz.trans (rng_congr fun j hj => if_pos (by omega))
      repeat (first | apply ef_seq | (apply ef_mv; exact rfl; exact rfl) | (apply ef_bin; exact rfl; exact rfl; exact rfl; (exact cmp_f rfl (by simp only [cmpP]; omega))) | (apply ef_len; exact rfl; exact rfl; (assumption)) | (apply ef_nil0; exact rfl) | apply ef_nil | apply seqQ.normal | apply loopQ.exit | apply ef_exit | apply seqQ.exit | apply blockQ.here | apply ef_block | (apply ef_condf; exact rfl; (exact (rfl : false = false))))
      -- the reasons
      refine ef_loop (α := Nat × List Int) (fun s => s.1 ≤ fs.length ∧ s.2 = (List.range s.1).map (reasonOf ⟨a, b, c, d, e⟩ fs))
        (fun s => [(84, I64 (s.1 : Int)), (83, I64 (fs.length : Int)), (82, .sl (fs.map encX)), (2, .ptr 0 0 0 0), (11, .arr 4 0 s.1 s.1), (7, .arr 3 0 fs.length 0)])
        (fun s => [⟨0, false, 5, [.agg [I64 a, I64 b, I64 c, I64 d, I64 e]]⟩, ⟨0, true, 1, []⟩, ⟨0, false, 1, [I64 0, I64 0]⟩, ⟨0, false, 1, xs.map I64⟩, ⟨s.1, nlN s.1, 1, s.2.map I64⟩]) (fun s => fs.length - s.1)
        (0, []) [84, 83, 82, 2, 11, 7] (fun _ => rfl) rfl ⟨by omega, rfl⟩ (by simp; omega) (by ((repeat (refine Hold.cons (by exact rfl) ?_)); exact Hold.nil)) rfl ?_
      rintro ⟨i, ys⟩ ⟨hi3, hy⟩
      simp only at hi3 hy ⊢
      have hyl : ys.length = i := by rw [hy]; simp
      by_cases hlt : i < fs.length
      · have e1 := at_map encX fs i hlt
        have hu0 : xs[i]? = some (runR o fs.length i : Int) := by rw [hz, rng_get _ hlt]
        have g1 := at_I hu0 (j := (i : Int)) rfl
        have HS := Lib.hid (fun v (hv : reasonOf ⟨a, b, c, d, e⟩ fs i = v) => (show ys ++ [v] = (List.range (i + 1)).map (reasonOf ⟨a, b, c, d, e⟩ fs) by rw [hy, List.range_succ, List.map_append, ← hv]; rfl))
        have HR := Lib.hid (show reasonOf ⟨a, b, c, d, e⟩ fs i = if fs[i].h < c then 1 else if d < fs[i].h then 2 else if e < fs[i].n then 3 else if b < (runR o fs.length i : Int) then 4 else 0 by unfold reasonOf; rw [List.getElem?_eq_getElem hlt]; simp only [ho])
        clear hy hz
        generalize fs[i] = z at e1 HR
        generalize runR o fs.length i = rr at g1 HR
        obtain ⟨za, zb, zc⟩ := z
        simp only at HR
        by_cases h1 : zb < c
        · repeat (first | apply ef_seq | (apply ef_mv; exact rfl; exact rfl) | (apply ef_bin; exact rfl; exact rfl; exact rfl; (exact cmp_t rfl (by first | exact rfl | (simp only [cmpP]; omega)))) | (apply ef_ldr; exact rfl; exact rfl; (exact rd_3 rfl rfl rfl)) | (apply ef_ldp; exact rfl; exact rfl; exact rfl; exact rfl; (exact rfl); (exact rfl)) | (apply ef_ias; exact rfl; exact rfl; exact rfl; (omega); assumption; exact rfl) | (apply ef_fap; exact rfl; exact rfl) | (apply ef_new; exact rfl) | (apply ef_bsl; exact rfl; (repeat (apply XVs.cons; exact rfl)); exact XVs.nil; exact rfl) | (apply ef_st; exact rfl; exact rfl; exact rfl; exact rfl; exact rfl; exact rfl; (exact rfl); exact rfl) | apply ef_nil | apply seqQ.normal | apply blockQ.normal | apply ef_block | apply ef_skip | (apply ef_condt; exact rfl; (exact (rfl : true = true))))
          (apply ef_app; (· exact rfl); (· exact rfl); (· exact rfl); (· exact rfl); (· exact rfl); (· exact rfl); (· (simp only [List.length_map]; omega)); (· exact rfl); (· ((show (ys.map I64).length + 1 ≤ 1000000); rw [List.length_map]; omega)); (· exact rfl); (· exact rfl))
          repeat (first | (apply ef_mv; exact rfl; exact rfl) | (apply ef_bin; exact rfl; exact rfl; exact rfl; (((with_reducible refine bin_add (wrap_of ?_ ?_)) <;> omega))) | apply ef_nil | apply seqQ.normal | apply blockQ.normal)
          (refine loopQ.normal _ _ ⟨(i + 1, ys ++ [1]), ⟨hlt, HS.out 1 (by rw [HR.out]; simp [h1])⟩, (by first | (simp only; omega) | omega), by ((repeat (refine Hold.cons (by exact rfl) ?_)); exact Hold.nil), .inr ⟨by ((repeat (refine hdl_cons rfl (by first | rfl | (simp [MV.lt, ltL_X, ltL_I, ltL_appI])) ?_)); exact hdl_nil), by first | rfl | (simp [hltL, ltL, MV.lt, ltL_X, ltL_I, ltL_appI])⟩, by first | exact rfl | (simp only [List.map_append, List.map_set]; exact rfl)⟩)
        · by_cases h2 : d < zb
          · repeat (first | apply ef_seq | (apply ef_mv; exact rfl; exact rfl) | (apply ef_bin; exact rfl; exact rfl; exact rfl; (first | exact cmp_t rfl (by first | exact rfl | (simp only [cmpP]; omega)) | exact cmp_f rfl (by simp only [cmpP]; omega))) | (apply ef_ldr; exact rfl; exact rfl; (exact rd_3 rfl rfl rfl)) | (apply ef_ldp; exact rfl; exact rfl; exact rfl; exact rfl; (exact rfl); (exact rfl)) | (apply ef_ias; exact rfl; exact rfl; exact rfl; (omega); assumption; exact rfl) | (apply ef_fap; exact rfl; exact rfl) | (apply ef_new; exact rfl) | (apply ef_bsl; exact rfl; (repeat (apply XVs.cons; exact rfl)); exact XVs.nil; exact rfl) | (apply ef_st; exact rfl; exact rfl; exact rfl; exact rfl; exact rfl; exact rfl; (exact rfl); exact rfl) | apply ef_nil | apply seqQ.normal | apply blockQ.normal | apply ef_block | apply ef_skip | (apply ef_condt; exact rfl; (exact (rfl : true = true))) | (apply ef_condf; exact rfl; (exact (rfl : false = false))))
            (apply ef_app; (· exact rfl); (· exact rfl); (· exact rfl); (· exact rfl); (· exact rfl); (· exact rfl); (· (simp only [List.length_map]; omega)); (· exact rfl); (· ((show (ys.map I64).length + 1 ≤ 1000000); rw [List.length_map]; omega)); (· exact rfl); (· exact rfl))
            repeat (first | (apply ef_mv; exact rfl; exact rfl) | (apply ef_bin; exact rfl; exact rfl; exact rfl; (((with_reducible refine bin_add (wrap_of ?_ ?_)) <;> omega))) | apply ef_nil | apply seqQ.normal | apply blockQ.normal)
            (refine loopQ.normal _ _ ⟨(i + 1, ys ++ [2]), ⟨hlt, HS.out 2 (by rw [HR.out]; simp [h1, h2])⟩, (by first | (simp only; omega) | omega), by ((repeat (refine Hold.cons (by exact rfl) ?_)); exact Hold.nil), .inr ⟨by ((repeat (refine hdl_cons rfl (by first | rfl | (simp [MV.lt, ltL_X, ltL_I, ltL_appI])) ?_)); exact hdl_nil), by first | rfl | (simp [hltL, ltL, MV.lt, ltL_X, ltL_I, ltL_appI])⟩, by first | exact rfl | (simp only [List.map_append, List.map_set]; exact rfl)⟩)
          · by_cases h3 : e < zc
            · repeat (first | apply ef_seq | (apply ef_mv; exact rfl; exact rfl) | (apply ef_bin; exact rfl; exact rfl; exact rfl; (first | exact cmp_t rfl (by first | exact rfl | (simp only [cmpP]; omega)) | exact cmp_f rfl (by simp only [cmpP]; omega))) | (apply ef_ldr; exact rfl; exact rfl; (exact rd_3 rfl rfl rfl)) | (apply ef_ldp; exact rfl; exact rfl; exact rfl; exact rfl; (exact rfl); (exact rfl)) | (apply ef_ias; exact rfl; exact rfl; exact rfl; (omega); assumption; exact rfl) | (apply ef_fap; exact rfl; exact rfl) | (apply ef_new; exact rfl) | (apply ef_bsl; exact rfl; (repeat (apply XVs.cons; exact rfl)); exact XVs.nil; exact rfl) | (apply ef_st; exact rfl; exact rfl; exact rfl; exact rfl; exact rfl; exact rfl; (exact rfl); exact rfl) | apply ef_nil | apply seqQ.normal | apply blockQ.normal | apply ef_block | apply ef_skip | (apply ef_condt; exact rfl; (exact (rfl : true = true))) | (apply ef_condf; exact rfl; (exact (rfl : false = false))))
              (apply ef_app; (· exact rfl); (· exact rfl); (· exact rfl); (· exact rfl); (· exact rfl); (· exact rfl); (· (simp only [List.length_map]; omega)); (· exact rfl); (· ((show (ys.map I64).length + 1 ≤ 1000000); rw [List.length_map]; omega)); (· exact rfl); (· exact rfl))
              repeat (first | (apply ef_mv; exact rfl; exact rfl) | (apply ef_bin; exact rfl; exact rfl; exact rfl; (((with_reducible refine bin_add (wrap_of ?_ ?_)) <;> omega))) | apply ef_nil | apply seqQ.normal | apply blockQ.normal)
              (refine loopQ.normal _ _ ⟨(i + 1, ys ++ [3]), ⟨hlt, HS.out 3 (by rw [HR.out]; simp [h1, h2, h3])⟩, (by first | (simp only; omega) | omega), by ((repeat (refine Hold.cons (by exact rfl) ?_)); exact Hold.nil), .inr ⟨by ((repeat (refine hdl_cons rfl (by first | rfl | (simp [MV.lt, ltL_X, ltL_I, ltL_appI])) ?_)); exact hdl_nil), by first | rfl | (simp [hltL, ltL, MV.lt, ltL_X, ltL_I, ltL_appI])⟩, by first | exact rfl | (simp only [List.map_append, List.map_set]; exact rfl)⟩)
            · by_cases h4 : b < (rr : Int)
              · repeat (first | apply ef_seq | (apply ef_mv; exact rfl; exact rfl) | (apply ef_bin; exact rfl; exact rfl; exact rfl; (first | exact cmp_t rfl (by first | exact rfl | (simp only [cmpP]; omega)) | exact cmp_f rfl (by simp only [cmpP]; omega))) | (apply ef_ldr; exact rfl; exact rfl; (exact rd_3 rfl rfl rfl)) | (apply ef_ldp; exact rfl; exact rfl; exact rfl; exact rfl; (first | exact rfl | assumption); (exact rfl)) | (apply ef_ias; exact rfl; exact rfl; exact rfl; (omega); assumption; exact rfl) | (apply ef_iaa; exact rfl; exact rfl; exact rfl; (omega); (omega); (exact rfl)) | (apply ef_fap; exact rfl; exact rfl) | (apply ef_new; exact rfl) | (apply ef_bsl; exact rfl; (repeat (apply XVs.cons; exact rfl)); exact XVs.nil; exact rfl) | (apply ef_st; exact rfl; exact rfl; exact rfl; exact rfl; exact rfl; exact rfl; (exact rfl); exact rfl) | apply ef_nil | apply seqQ.normal | apply blockQ.normal | apply ef_block | apply ef_skip | (apply ef_condt; exact rfl; (exact (rfl : true = true))) | (apply ef_condf; exact rfl; (exact (rfl : false = false))))
                (apply ef_app; (· exact rfl); (· exact rfl); (· exact rfl); (· exact rfl); (· exact rfl); (· exact rfl); (· (simp only [List.length_map]; omega)); (· exact rfl); (· ((show (ys.map I64).length + 1 ≤ 1000000); rw [List.length_map]; omega)); (· exact rfl); (· exact rfl))
                repeat (first | (apply ef_mv; exact rfl; exact rfl) | (apply ef_bin; exact rfl; exact rfl; exact rfl; (((with_reducible refine bin_add (wrap_of ?_ ?_)) <;> omega))) | apply ef_nil | apply seqQ.normal | apply blockQ.normal)
                (refine loopQ.normal _ _ ⟨(i + 1, ys ++ [4]), ⟨hlt, HS.out 4 (by rw [HR.out]; simp [h1, h2, h3, h4])⟩, (by first | (simp only; omega) | omega), by ((repeat (refine Hold.cons (by exact rfl) ?_)); exact Hold.nil), .inr ⟨by ((repeat (refine hdl_cons rfl (by first | rfl | (simp [MV.lt, ltL_X, ltL_I, ltL_appI])) ?_)); exact hdl_nil), by first | rfl | (simp [hltL, ltL, MV.lt, ltL_X, ltL_I, ltL_appI])⟩, by first | exact rfl | (simp only [List.map_append, List.map_set]; exact rfl)⟩)
              · repeat (first | apply ef_seq | (apply ef_mv; exact rfl; exact rfl) | (apply ef_bin; exact rfl; exact rfl; exact rfl; (first | exact cmp_t rfl (by first | exact rfl | (simp only [cmpP]; omega)) | exact cmp_f rfl (by simp only [cmpP]; omega))) | (apply ef_ldr; exact rfl; exact rfl; (exact rd_3 rfl rfl rfl)) | (apply ef_ldp; exact rfl; exact rfl; exact rfl; exact rfl; (first | exact rfl | assumption); (exact rfl)) | (apply ef_ias; exact rfl; exact rfl; exact rfl; (omega); assumption; exact rfl) | (apply ef_iaa; exact rfl; exact rfl; exact rfl; (omega); (omega); (exact rfl)) | (apply ef_fap; exact rfl; exact rfl) | (apply ef_new; exact rfl) | (apply ef_bsl; exact rfl; (repeat (apply XVs.cons; exact rfl)); exact XVs.nil; exact rfl) | (apply ef_st; exact rfl; exact rfl; exact rfl; exact rfl; exact rfl; exact rfl; (exact rfl); exact rfl) | apply ef_nil | apply seqQ.normal | apply blockQ.normal | apply ef_block | apply ef_skip | (apply ef_condt; exact rfl; (exact (rfl : true = true))) | (apply ef_condf; exact rfl; (exact (rfl : false = false))))
                (apply ef_app; (· exact rfl); (· exact rfl); (· exact rfl); (· exact rfl); (· exact rfl); (· exact rfl); (· (simp only [List.length_map]; omega)); (· exact rfl); (· ((show (ys.map I64).length + 1 ≤ 1000000); rw [List.length_map]; omega)); (· exact rfl); (· exact rfl))
                repeat (first | (apply ef_mv; exact rfl; exact rfl) | (apply ef_bin; exact rfl; exact rfl; exact rfl; (((with_reducible refine bin_add (wrap_of ?_ ?_)) <;> omega))) | apply ef_nil | apply seqQ.normal | apply blockQ.normal)
                (refine loopQ.normal _ _ ⟨(i + 1, ys ++ [0]), ⟨hlt, HS.out 0 (by rw [HR.out]; simp [h1, h2, h3, h4])⟩, (by first | (simp only; omega) | omega), by ((repeat (refine Hold.cons (by exact rfl) ?_)); exact Hold.nil), .inr ⟨by ((repeat (refine hdl_cons rfl (by first | rfl | (simp [MV.lt, ltL_X, ltL_I, ltL_appI])) ?_)); exact hdl_nil), by first | rfl | (simp [hltL, ltL, MV.lt, ltL_X, ltL_I, ltL_appI])⟩, by first | exact rfl | (simp only [List.map_append, List.map_set]; exact rfl)⟩)
      · have hin : i = fs.length := by omega
        subst hin
        repeat (first | apply ef_seq | (apply ef_mv; exact rfl; exact rfl) | (apply ef_bin; exact rfl; exact rfl; exact rfl; (exact cmp_f rfl (by simp only [cmpP]; omega))) | apply ef_nil | apply seqQ.normal | apply loopQ.exit | apply ef_ret | apply ef_exit | apply seqQ.exit | apply blockQ.here | (apply ef_condf; exact rfl; (exact (rfl : false = false))))
        (apply fin_al; (· exact rfl); (· exact rfl); (· exact rfl); (· exact rfl); (· exact rfl); (· simp [reasonsL]); (· exact ltL_I 0 _); (· simp only; rw [hy]; rfl); (· exact rfl); (· exact rfl))
end Go.Proofs.Ytgjpdjihjphbdaa
