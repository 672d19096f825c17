/- Contracts of the reference, of groups: by open evaluation. -/
import Derived.Test.YtgjpdjihjphbdaaTa
namespace Go.Proofs.Ytgjpdjihjphbdaa
open Go.RowKit

theorem callL {k f : Nat} {args args' : List MV} {h : MHeap} {v : Value} (h1 : args.mapM (frz 0 [] h 8) = some args') (hT : tA f args' [] = none) (h2 : runZ MT (orA k) (itA k) 1000000 f args' [] = some (.lit v, [])) : orA (k + 1) f args h = some (.lit v, h) := by
  have := callA h1 hT h2 (by simp [okV, ok1, MV.lt, MV.pure]) rfl
  simpa [shV, sh1] using this
theorem frz_lits {h : MHeap} : ∀ vs : List Value, (vs.map MV.lit).mapM (frz 0 [] h 8) = some (vs.map .lit)
  | [] => rfl
  | v :: vs => by
    rw [List.map_cons, List.mapM_cons, frz_lits vs]
    simp [frz, MV.lt]

theorem at_map {α β : Type} (f : α → β) (xs : List α) (i : Nat) (h : i < xs.length) : (xs.map f)[((i : Nat) : Int).toNat]? = some (f xs[i]) := by
  rw [Int.toNat_natCast, List.getElem?_map, List.getElem?_eq_getElem h]; rfl

theorem mf_Within : MT.mf 22 = some ⟨15, [(.tmp 6)], (.seq (.reg [⟨none, (some 6), (.mv (.c (.lit (.bool false))))⟩]) (.seq (.reg [⟨none, (some 7), (.mv (.s 1))⟩, ⟨none, (some 8), (.mv (.s 0))⟩, ⟨none, (some 9), (.bin .leq (.s 7) (.s 8))⟩, ⟨none, (some 10), (.mv (.s 9))⟩, ⟨(some (10, true)), (some 11), (.mv (.s 0))⟩, ⟨(some (10, true)), (some 12), (.mv (.s 2))⟩, ⟨(some (10, true)), (some 13), (.bin .leq (.s 11) (.s 12))⟩, ⟨none, (some 14), (.pick (.s 10) (.s 13) (.c (.lit (.bool false))))⟩, ⟨none, (some 6), (.mv (.s 14))⟩]) .ret))⟩ := by kernel_rfl
theorem Within_c (k : Nat) (a b c : Int) (h : MHeap) {t : Bool} (ht : inB a b c = t) : orA (k + 1) 22 [I64 a, I64 b, I64 c] h = some (Bo t, h) := by
  refine callL (frz_lits [.int .i64 a, .int .i64 b, .int .i64 c]) rfl (runZ_of mf_Within (by simp) ?_)
  simp only [argsL, List.map_cons, List.map_nil]
  repeat (first | apply ef_seq | (apply ef_mv; exact rfl; exact rfl) | (apply ef_bin; exact rfl; exact rfl; exact rfl; (exact rfl)) | apply ef_nil | apply seqQ.normal)
  cases h1 : decide (b ≤ a)
  all_goals repeat (first | (apply ef_mv; exact rfl; exact rfl) | (apply ef_bin; exact rfl; exact rfl; exact rfl; (exact rfl)) | (apply ef_gy; exact rfl; (exact (rfl : true = true))) | (apply ef_gn; exact rfl; (exact (rfl : false = false)); exact rfl) | (apply ef_pick; exact rfl; exact rfl; exact rfl) | apply ef_nil | apply seqQ.normal | apply ef_ret)
  · (refine fin1 rfl (by exact rfl) rfl ?_)
    simp at h1; simp [inB] at ht; simp; rw [← ht]; simp; omega
  · (refine fin1 rfl (by exact rfl) rfl ?_)
    simp at h1; simp [inB, h1] at ht; simp [← ht]

theorem mf_CostErr : MT.mf 18 = some ⟨13, [(.tmp 2)], (.seq (.reg [⟨none, (some 1), (.box 2 (.s 0))⟩, ⟨none, (some 2), (.mv (.c (.lit (.int .i64 0))))⟩]) (.seq (.seq (.reg [⟨none, (some 3), (.fa 0 (.s 1))⟩, ⟨none, (some 4), (.ld none (.s 3))⟩, ⟨none, (some 5), (.call 22 [(.s 4), (.c (.lit (.int .i64 0))), (.c (.lit (.int .i64 10000)))])⟩, ⟨none, (some 6), (.un .not (.s 5))⟩, ⟨none, (some 7), (.mv (.s 6))⟩, ⟨(some (7, false)), (some 8), (.fa 1 (.s 1))⟩, ⟨(some (7, false)), (some 9), (.ld none (.s 8))⟩, ⟨(some (7, false)), (some 10), (.call 22 [(.s 9), (.c (.lit (.int .i64 0))), (.c (.lit (.int .i64 10000)))])⟩, ⟨(some (7, false)), (some 11), (.un .not (.s 10))⟩, ⟨none, (some 12), (.pick (.s 7) (.c (.lit (.bool true))) (.s 11))⟩]) (.cond (.s 12) (.seq (.reg [⟨none, (some 2), (.mv (.c (.lit (.int .i64 2))))⟩]) .ret) .skip)) (.seq (.reg [⟨none, (some 2), (.mv (.c (.lit (.int .i64 0))))⟩]) .ret)))⟩ := by kernel_rfl
theorem rCostErr_z (k : Nat) (a b : Int) : runZ MT (orA (k + 1)) (itA (k + 1)) 1000000 18 [.agg [I64 a, I64 b]] [] = some (I64 (unl (inB a 0 10000 && inB b 0 10000) 2), []) := by
  refine runZ_of mf_CostErr (by simp) ?_
  simp only [argsL]
  cases h1 : inB a 0 10000
  · repeat (first | apply ef_seq | (apply ef_mv; exact rfl; exact rfl) | (apply ef_gn; exact rfl; (exact (rfl : true = true)); exact rfl) | (apply ef_pick; exact rfl; exact rfl; exact rfl) | (apply ef_ldp; exact rfl; exact rfl; exact rfl; exact rfl; (exact rfl); (exact rfl)) | (apply ef_fap; exact rfl; exact rfl) | (apply ef_notF; exact rfl; exact rfl) | (apply ef_box; exact rfl; exact rfl; exact rfl; exact rfl) | apply ef_nil | apply seqQ.normal | apply ef_ret | apply seqQ.ret | (apply ef_condt; exact rfl; (exact (rfl : true = true))) | (apply ef_call; exact rfl; ((repeat (apply XVs.cons; exact rfl)); exact XVs.nil); (with_reducible exact Within_c _ _ _ _ _ (by assumption))))
    (refine fin1 rfl (by exact rfl) rfl ?_)
    rfl
  · cases h2 : inB b 0 10000
    all_goals repeat (first | apply ef_seq | (apply ef_mv; exact rfl; exact rfl) | (apply ef_gy; exact rfl; (exact (rfl : false = false))) | (apply ef_pick; exact rfl; exact rfl; exact rfl) | (apply ef_ldp; exact rfl; exact rfl; exact rfl; exact rfl; (exact rfl); (exact rfl)) | (apply ef_fap; exact rfl; exact rfl) | (apply ef_notT; exact rfl; exact rfl) | (apply ef_notF; exact rfl; exact rfl) | (apply ef_box; exact rfl; exact rfl; exact rfl; exact rfl) | apply ef_nil | apply seqQ.normal | apply ef_ret | apply seqQ.ret | apply ef_skip | (apply ef_condt; exact rfl; (exact (rfl : true = true))) | (apply ef_condf; exact rfl; (exact (rfl : false = false))) | (apply ef_call; exact rfl; ((repeat (apply XVs.cons; exact rfl)); exact XVs.nil); (with_reducible exact Within_c _ _ _ _ _ (by assumption))))
    all_goals (refine fin1 rfl (by exact rfl) rfl ?_)
    all_goals rfl
theorem rCostErr_c (k : Nat) (a b : Int) (h : MHeap) {e : Int} (he : unl (inB a 0 10000 && inB b 0 10000) 2 = e) : orA (k + 2) 18 [.agg [I64 a, I64 b]] h = some (I64 e, h) :=
  callL (args' := [.agg [I64 a, I64 b]]) rfl rfl (by rw [← he]; exact rCostErr_z k a b)

/-- The cost of a group. -/
theorem mf_Cost : MT.mf 23 = some ⟨24, [(.tmp 4)], (.seq (.reg [⟨none, (some 2), (.box 2 (.s 0))⟩, ⟨none, (some 4), (.mv (.c (.lit (.int .i64 0))))⟩]) (.seq (.reg [⟨none, (some 5), (.fa 0 (.s 2))⟩, ⟨none, (some 6), (.ld none (.s 5))⟩, ⟨none, (some 7), (.fa 1 (.s 2))⟩, ⟨none, (some 8), (.ld none (.s 7))⟩, ⟨none, (some 9), (.bin .mul (.c (.lit (.int .i64 2))) (.s 8))⟩, ⟨none, (some 10), (.bin .add (.s 6) (.s 9))⟩, ⟨none, (some 11), (.mv (.s 1))⟩, ⟨none, (some 12), (.mv (.s 1))⟩, ⟨none, (some 13), (.len (.s 12))⟩, ⟨none, (some 14), (.bin .sub (.s 13) (.c (.lit (.int .i64 1))))⟩, ⟨none, (some 15), (.ia 2 (.s 11) (.s 14))⟩, ⟨none, (some 16), (.fa 1 (.s 15))⟩, ⟨none, (some 17), (.ld none (.s 16))⟩, ⟨none, (some 18), (.bin .add (.s 10) (.s 17))⟩, ⟨none, (some 19), (.mv (.s 1))⟩, ⟨none, (some 20), (.ia 2 (.s 19) (.c (.lit (.int .i64 0))))⟩, ⟨none, (some 21), (.fa 0 (.s 20))⟩, ⟨none, (some 22), (.ld none (.s 21))⟩, ⟨none, (some 23), (.bin .sub (.s 18) (.s 22))⟩, ⟨none, (some 4), (.mv (.s 23))⟩]) .ret))⟩ := by kernel_rfl
theorem rCost_z (k : Nat) (fixed lead : Int) (xs : List (Int × Int)) (hf : 0 ≤ fixed ∧ fixed ≤ 10000) (hl : 0 ≤ lead ∧ lead ≤ 10000) (hbd : ∀ p ∈ xs, 0 ≤ p.1 ∧ p.1 ≤ 200 ∧ 0 ≤ p.2 ∧ p.2 ≤ 200)
    (h0 : 0 < xs.length) (h1 : xs.length ≤ 1000000) : runZ MT (orA k) (itA k) 1000000 23 [.agg [I64 fixed, I64 lead], .sl (xs.map encR)] [] = some (I64 (grpCost fixed lead xs), []) := by
  obtain ⟨f1, f2⟩ := hf
  obtain ⟨l1, l2⟩ := hl
  have d1 := hbd xs[xs.length - 1] (List.getElem_mem _)
  have d2 := hbd xs[0] (List.getElem_mem _)
  have e1 : (xs.map encR)[(((xs.map encR).length : Int) - 1).toNat]? = some (encR xs[xs.length - 1]) := by
    rw [List.length_map, show ((xs.length : Int) - 1).toNat = xs.length - 1 by omega, List.getElem?_map, List.getElem?_eq_getElem (by omega)]; rfl
  have e2 : (xs.map encR)[(0 : Int).toNat]? = some (encR xs[0]) := by rw [Int.toNat_zero, List.getElem?_map, List.getElem?_eq_getElem (by omega)]; rfl
  have HG := Lib.hid (show fixed + 2 * lead + (xs[xs.length - 1]).2 - (xs[0]).1 = grpCost fixed lead xs by unfold grpCost; simp [h0, show xs.length - 1 < xs.length by omega])
  generalize xs[xs.length - 1] = p at *
  generalize xs[0] = q at *
  obtain ⟨p1, p2⟩ := p
  obtain ⟨q1, q2⟩ := q
  obtain ⟨_, _, d3, d4⟩ := d1
  obtain ⟨d5, d6, _, _⟩ := d2
  dsimp only at d3 d4 d5 d6
  have hlen : (xs.map encR).length = xs.length := by simp
  refine runZ_of mf_Cost (by simp) ?_
  simp only [argsL]
  repeat (first | apply ef_seq | (apply ef_mv; exact rfl; exact rfl) | (apply ef_bin; exact rfl; exact rfl; exact rfl; (first | ((with_reducible refine bin_add (wrap_of ?_ ?_)) <;> omega) | ((with_reducible refine bin_sub (wrap_of ?_ ?_)) <;> omega) | ((with_reducible refine bin_mul (wrap_of ?_ ?_)) <;> omega))) | (apply ef_len; exact rfl; exact rfl; (exact rfl)) | (apply ef_ldr; exact rfl; exact rfl; (exact rfl)) | (apply ef_ldp; exact rfl; exact rfl; exact rfl; exact rfl; (exact rfl); (exact rfl)) | (apply ef_ias; exact rfl; exact rfl; exact rfl; (omega); assumption; exact rfl) | (apply ef_fap; exact rfl; exact rfl) | (apply ef_far; exact rfl; exact rfl) | (apply ef_box; exact rfl; exact rfl; exact rfl; exact rfl) | apply ef_nil | apply seqQ.normal | apply ef_ret)
  (refine fin1 rfl (by exact rfl) rfl ?_)
  exact congrArg I64 HG.out
theorem rCost_c (k : Nat) (fixed lead : Int) (xs : List (Int × Int)) (h : MHeap) {v : MV} (hf : 0 ≤ fixed ∧ fixed ≤ 10000) (hl : 0 ≤ lead ∧ lead ≤ 10000) (hbd : ∀ p ∈ xs, 0 ≤ p.1 ∧ p.1 ≤ 200 ∧ 0 ≤ p.2 ∧ p.2 ≤ 200)
    (h0 : 0 < xs.length) (h1 : xs.length ≤ 1000000) (hv : frz 0 [] h 8 v = some (.sl (xs.map encR))) : orA (k + 1) 23 [.agg [I64 fixed, I64 lead], v] h = some (I64 (grpCost fixed lead xs), h) :=
  callL (args' := [.agg [I64 fixed, I64 lead], .sl (xs.map encR)]) (by simp [List.mapM_cons, hv]; simp [frz, MV.lt, ltL]) rfl (rCost_z k fixed lead xs hf hl hbd h0 h1)

/-- Errors of pieces. -/
theorem mf_PiecesErr : MT.mf 19 = some ⟨59, [(.tmp 2)], (.seq (.reg [⟨none, (some 2), (.mv (.c (.lit (.int .i64 0))))⟩]) (.seq (.seq (.reg [⟨none, (some 4), (.mv (.s 0))⟩, ⟨none, (some 5), (.len (.s 4))⟩, ⟨none, (some 6), (.bin .gtr (.s 5) (.c (.lit (.int .i64 30))))⟩]) (.cond (.s 6) (.seq (.reg [⟨none, (some 2), (.mv (.c (.lit (.int .i64 8))))⟩]) .ret) .skip)) (.seq (.seq (.reg [⟨none, (some 3), (.mv (.c (.lit (.int .i64 0))))⟩]) (.block 0 (.loop [3, 0] (.seq (.seq (.reg [⟨none, (some 7), (.mv (.s 3))⟩, ⟨none, (some 8), (.mv (.s 0))⟩, ⟨none, (some 9), (.len (.s 8))⟩, ⟨none, (some 10), (.bin .lss (.s 7) (.s 9))⟩]) (.cond (.s 10) .skip (.exit 0))) (.seq (.block 1 (.seq (.seq (.reg [⟨none, (some 13), (.mv (.s 0))⟩, ⟨none, (some 14), (.mv (.s 3))⟩, ⟨none, (some 15), (.ia 2 (.s 13) (.s 14))⟩, ⟨none, (some 16), (.fa 0 (.s 15))⟩, ⟨none, (some 17), (.ld none (.s 16))⟩, ⟨none, (some 18), (.call 22 [(.s 17), (.c (.lit (.int .i64 0))), (.c (.lit (.int .i64 200)))])⟩, ⟨none, (some 19), (.un .not (.s 18))⟩, ⟨none, (some 20), (.mv (.s 19))⟩, ⟨(some (20, false)), (some 21), (.mv (.s 0))⟩, ⟨(some (20, false)), (some 22), (.mv (.s 3))⟩, ⟨(some (20, false)), (some 23), (.ia 2 (.s 21) (.s 22))⟩, ⟨(some (20, false)), (some 24), (.fa 1 (.s 23))⟩, ⟨(some (20, false)), (some 25), (.ld none (.s 24))⟩, ⟨(some (20, false)), (some 26), (.call 22 [(.s 25), (.c (.lit (.int .i64 0))), (.c (.lit (.int .i64 200)))])⟩, ⟨(some (20, false)), (some 27), (.un .not (.s 26))⟩, ⟨none, (some 28), (.pick (.s 20) (.c (.lit (.bool true))) (.s 27))⟩]) (.cond (.s 28) (.seq (.reg [⟨none, (some 2), (.mv (.c (.lit (.int .i64 2))))⟩]) .ret) .skip)) (.seq (.reg [⟨none, (some 29), (.mv (.s 0))⟩, ⟨none, (some 30), (.mv (.s 3))⟩, ⟨none, (some 31), (.ia 2 (.s 29) (.s 30))⟩, ⟨none, (some 32), (.fa 0 (.s 31))⟩, ⟨none, (some 33), (.ld none (.s 32))⟩, ⟨none, (some 34), (.mv (.s 0))⟩, ⟨none, (some 35), (.mv (.s 3))⟩, ⟨none, (some 36), (.ia 2 (.s 34) (.s 35))⟩, ⟨none, (some 37), (.fa 1 (.s 36))⟩, ⟨none, (some 38), (.ld none (.s 37))⟩, ⟨none, (some 39), (.bin .gtr (.s 33) (.s 38))⟩, ⟨none, (some 40), (.mv (.s 39))⟩, ⟨(some (40, false)), (some 41), (.mv (.s 3))⟩, ⟨(some (40, false)), (some 42), (.bin .gtr (.s 41) (.c (.lit (.int .i64 0))))⟩, ⟨(some (40, false)), (some 43), (.mv (.s 42))⟩, ⟨(some (43, true)), (some 44), (.mv (.s 0))⟩, ⟨(some (43, true)), (some 45), (.mv (.s 3))⟩, ⟨(some (43, true)), (some 46), (.ia 2 (.s 44) (.s 45))⟩, ⟨(some (43, true)), (some 47), (.fa 0 (.s 46))⟩, ⟨(some (43, true)), (some 48), (.ld none (.s 47))⟩, ⟨(some (43, true)), (some 49), (.mv (.s 0))⟩, ⟨(some (43, true)), (some 50), (.mv (.s 3))⟩, ⟨(some (43, true)), (some 51), (.bin .sub (.s 50) (.c (.lit (.int .i64 1))))⟩, ⟨(some (43, true)), (some 52), (.ia 2 (.s 49) (.s 51))⟩, ⟨(some (43, true)), (some 53), (.fa 1 (.s 52))⟩, ⟨(some (43, true)), (some 54), (.ld none (.s 53))⟩, ⟨(some (43, true)), (some 55), (.bin .add (.s 54) (.c (.lit (.int .i64 1))))⟩, ⟨(some (43, true)), (some 56), (.bin .leq (.s 48) (.s 55))⟩, ⟨(some (40, false)), (some 57), (.pick (.s 43) (.s 56) (.c (.lit (.bool false))))⟩, ⟨none, (some 58), (.pick (.s 40) (.c (.lit (.bool true))) (.s 57))⟩]) (.cond (.s 58) (.seq (.reg [⟨none, (some 2), (.mv (.c (.lit (.int .i64 9))))⟩]) .ret) .skip)))) (.reg [⟨none, (some 11), (.mv (.s 3))⟩, ⟨none, (some 12), (.bin .add (.s 11) (.c (.lit (.int .i64 1))))⟩, ⟨none, (some 3), (.mv (.s 12))⟩])))))) (.seq (.reg [⟨none, (some 2), (.mv (.c (.lit (.int .i64 0))))⟩]) .ret))))⟩ := by kernel_rfl
theorem rPiecesErr_z (k : Nat) (xs : List (Int × Int)) (hx : xs.length ≤ 9223372036854775807) : runZ MT (orA (k + 1)) (itA (k + 1)) 1000000 19 [.sl (xs.map encR)] [] = some (I64 (piecesAll xs), []) := by
  have hlen : (xs.map encR).length = xs.length := by simp
  refine runZ_of mf_PiecesErr (by simp) ?_
  simp only [argsL]
  by_cases hlong : 30 < xs.length
  · repeat (first | apply ef_seq | (apply ef_mv; exact rfl; exact rfl) | (apply ef_bin; exact rfl; exact rfl; exact rfl; (exact cmp_t rfl (by first | exact rfl | (simp only [cmpP]; omega)))) | (apply ef_len; exact rfl; exact rfl; (exact rfl)) | apply ef_nil | apply seqQ.normal | apply ef_ret | apply seqQ.ret | (apply ef_condt; exact rfl; (exact (rfl : true = true))))
    (refine fin1 rfl (by exact rfl) rfl ?_)
    simp [piecesAll, hlong]
  · repeat (first | apply ef_seq | (apply ef_mv; exact rfl; exact rfl) | (apply ef_bin; exact rfl; exact rfl; exact rfl; (exact cmp_f rfl (by simp only [cmpP]; omega))) | (apply ef_len; exact rfl; exact rfl; (exact rfl)) | apply ef_nil | apply seqQ.normal | apply ef_block | apply ef_skip | (apply ef_condf; exact rfl; (exact (rfl : false = false))))
    refine ef_loop (α := Nat × Int) (fun a => a.1 ≤ xs.length ∧ LastOf xs a.1 a.2 ∧ -2 ≤ a.2 ∧ a.2 ≤ 200 ∧ piecesE (-2) xs = piecesE a.2 (xs.drop a.1)) (fun a => [(3, I64 (a.1 : Int)), (0, .sl (xs.map encR))]) (fun _ => []) (fun a => xs.length - a.1) (0, -2) [3, 0] (fun _ => rfl) rfl ⟨by omega, ⟨fun _ => rfl, fun h => absurd h (by simp)⟩, by simp, by simp, rfl⟩ (by simp; omega) (by ((repeat (refine Hold.cons (by exact rfl) ?_)); exact Hold.nil)) rfl ?_
    rintro ⟨i, last⟩ ⟨hi, hla, hl1, hl2, hz⟩
    dsimp only at hi hla hl1 hl2 hz ⊢
    by_cases hlt : i < xs.length
    · have e1 := at_map encR xs i hlt
      have HD := Lib.hid (drop_at xs i hlt)
      have HX := Lib.hid (show xs.getD i (0, 0) = xs[i] by simp [hlt])
      have e2 : 0 < i → ∃ a, (xs.map encR)[((i : Int) - 1).toNat]? = some (encR (a, last)) := fun h0 => by
        rw [show ((i : Int) - 1).toNat = i - 1 by omega, List.getElem?_map, List.getElem?_eq_getElem (by omega), Option.map_some]
        have := hla.2 h0
        rw [List.getD_eq_getElem?_getD, List.getElem?_eq_getElem (by omega), Option.getD_some] at this
        exact ⟨(xs[i - 1]).1, by rw [this]⟩
      have HLA := Lib.hid hla
      have HZ := Lib.hid hz
      clear hla hz
      generalize xs[i] = p at e1 HD HX
      obtain ⟨lo, hi'⟩ := p
      cases h1 : inB lo 0 200
      · repeat (first | apply ef_seq | (apply ef_mv; exact rfl; exact rfl) | (apply ef_bin; exact rfl; exact rfl; exact rfl; (exact cmp_t rfl (by first | exact rfl | (simp only [cmpP]; omega)))) | (apply ef_gn; exact rfl; (exact (rfl : true = true)); exact rfl) | (apply ef_pick; exact rfl; exact rfl; exact rfl) | (apply ef_len; exact rfl; exact rfl; (exact rfl)) | (apply ef_ldr; exact rfl; exact rfl; (exact rfl)) | (apply ef_ias; exact rfl; exact rfl; exact rfl; (omega); assumption; exact rfl) | (apply ef_far; exact rfl; exact rfl) | (apply ef_notF; exact rfl; exact rfl) | apply ef_nil | apply seqQ.normal | apply loopQ.ret | apply ef_ret | apply seqQ.ret | apply blockQ.ret | apply ef_block | apply ef_skip | (apply ef_condt; exact rfl; (exact (rfl : true = true))) | (apply ef_call; exact rfl; ((repeat (apply XVs.cons; exact rfl)); exact XVs.nil); (with_reducible exact Within_c _ _ _ _ _ (by assumption))))
        (refine fin1 rfl (by exact rfl) rfl ?_)
        rw [piecesAll, if_neg hlong, HZ.out, HD.out, piecesE_bad (pieceE_a (by simp [h1])) (by omega)]
      · cases h2 : inB hi' 0 200
        · repeat (first | apply ef_seq | (apply ef_mv; exact rfl; exact rfl) | (apply ef_bin; exact rfl; exact rfl; exact rfl; (exact cmp_t rfl (by first | exact rfl | (simp only [cmpP]; omega)))) | (apply ef_gy; exact rfl; (exact (rfl : false = false))) | (apply ef_pick; exact rfl; exact rfl; exact rfl) | (apply ef_len; exact rfl; exact rfl; (exact rfl)) | (apply ef_ldr; exact rfl; exact rfl; (exact rfl)) | (apply ef_ias; exact rfl; exact rfl; exact rfl; (omega); assumption; exact rfl) | (apply ef_far; exact rfl; exact rfl) | (apply ef_notT; exact rfl; exact rfl) | (apply ef_notF; exact rfl; exact rfl) | apply ef_nil | apply seqQ.normal | apply loopQ.ret | apply ef_ret | apply seqQ.ret | apply blockQ.ret | apply ef_block | apply ef_skip | (apply ef_condt; exact rfl; (exact (rfl : true = true))) | (apply ef_call; exact rfl; ((repeat (apply XVs.cons; exact rfl)); exact XVs.nil); (with_reducible exact Within_c _ _ _ _ _ (by assumption))))
          (refine fin1 rfl (by exact rfl) rfl ?_)
          rw [piecesAll, if_neg hlong, HZ.out, HD.out, piecesE_bad (pieceE_a (by simp [h1, h2])) (by omega)]
        · have H12 := Lib.hid (show (inB lo 0 200 && inB hi' 0 200) = true by simp [h1, h2])
          have q1 := inB_iff.1 h1
          have q2 := inB_iff.1 h2
          by_cases h3 : hi' < lo
          · repeat (first | apply ef_seq | (apply ef_mv; exact rfl; exact rfl) | (apply ef_bin; exact rfl; exact rfl; exact rfl; (exact cmp_t rfl (by first | exact rfl | (simp only [cmpP]; omega)))) | (apply ef_gy; exact rfl; (exact (rfl : false = false))) | (apply ef_gn; exact rfl; (exact (rfl : true = true)); exact rfl) | (apply ef_gu; exact rfl; exact rfl) | (apply ef_pick; exact rfl; exact rfl; exact rfl) | (apply ef_len; exact rfl; exact rfl; (exact rfl)) | (apply ef_ldr; exact rfl; exact rfl; (exact rfl)) | (apply ef_ias; exact rfl; exact rfl; exact rfl; (omega); assumption; exact rfl) | (apply ef_far; exact rfl; exact rfl) | (apply ef_notT; exact rfl; exact rfl) | apply ef_nil | apply seqQ.normal | apply loopQ.ret | apply ef_ret | apply seqQ.ret | apply blockQ.ret | apply ef_block | apply ef_skip | (apply ef_condt; exact rfl; (exact (rfl : true = true))) | (apply ef_condf; exact rfl; (exact (rfl : false = false))) | (apply ef_call; exact rfl; ((repeat (apply XVs.cons; exact rfl)); exact XVs.nil); (with_reducible exact Within_c _ _ _ _ _ (by assumption))))
            (refine fin1 rfl (by exact rfl) rfl ?_)
            rw [piecesAll, if_neg hlong, HZ.out, HD.out, piecesE_bad (pieceE_b H12.out (.inl h3)) (by omega)]
          · by_cases h4 : i = 0
            · have hl := HLA.out.1 h4
              repeat (first | apply ef_seq | (apply ef_mv; exact rfl; exact rfl) | (apply ef_bin; exact rfl; exact rfl; exact rfl; (first | exact cmp_t rfl (by first | exact rfl | (simp only [cmpP]; omega)) | exact cmp_f rfl (by simp only [cmpP]; omega) | ((with_reducible refine bin_add (wrap_of ?_ ?_)) <;> omega))) | (apply ef_gy; exact rfl; (exact (rfl : false = false))) | (apply ef_gn; exact rfl; (exact (rfl : false = false)); exact rfl) | (apply ef_pick; exact rfl; exact rfl; exact rfl) | (apply ef_len; exact rfl; exact rfl; (exact rfl)) | (apply ef_ldr; exact rfl; exact rfl; (exact rfl)) | (apply ef_ias; exact rfl; exact rfl; exact rfl; (omega); assumption; exact rfl) | (apply ef_far; exact rfl; exact rfl) | (apply ef_notT; exact rfl; exact rfl) | apply ef_nil | apply seqQ.normal | apply blockQ.normal | apply ef_block | apply ef_skip | (apply ef_condt; exact rfl; (exact (rfl : true = true))) | (apply ef_condf; exact rfl; (exact (rfl : false = false))) | (apply ef_call; exact rfl; ((repeat (apply XVs.cons; exact rfl)); exact XVs.nil); (with_reducible exact Within_c _ _ _ _ _ (by assumption))))
              (refine loopQ.normal _ _ ⟨(i + 1, hi'), ⟨hlt, ⟨fun h => absurd h (by simp), fun _ => by rw [show i + 1 - 1 = i by omega, HX.out]⟩, by omega, by omega, by rw [HZ.out, HD.out, piecesE_good (pieceE_c H12.out (by omega) (by omega))]⟩, (by first | (simp only; omega) | omega), by ((repeat (refine Hold.cons (by exact rfl) ?_)); exact Hold.nil), .inl (Nat.le_refl _), (by first | exact List.take_length | exact rfl)⟩)
            · obtain ⟨a, e3⟩ := e2 (by omega)
              by_cases h5 : lo ≤ last + 1
              · repeat (first | apply ef_seq | (apply ef_mv; exact rfl; exact rfl) | (apply ef_bin; exact rfl; exact rfl; exact rfl; (first | exact cmp_t rfl (by first | exact rfl | (simp only [cmpP]; omega)) | exact cmp_f rfl (by simp only [cmpP]; omega) | ((with_reducible refine bin_add (wrap_of ?_ ?_)) <;> omega) | ((with_reducible refine bin_sub (wrap_of ?_ ?_)) <;> omega))) | (apply ef_gy; exact rfl; (first | exact (rfl : true = true) | exact (rfl : false = false))) | (apply ef_pick; exact rfl; exact rfl; exact rfl) | (apply ef_len; exact rfl; exact rfl; (exact rfl)) | (apply ef_ldr; exact rfl; exact rfl; (exact rfl)) | (apply ef_ias; exact rfl; exact rfl; exact rfl; (omega); assumption; exact rfl) | (apply ef_far; exact rfl; exact rfl) | (apply ef_notT; exact rfl; exact rfl) | apply ef_nil | apply seqQ.normal | apply loopQ.ret | apply ef_ret | apply seqQ.ret | apply blockQ.ret | apply ef_block | apply ef_skip | (apply ef_condt; exact rfl; (exact (rfl : true = true))) | (apply ef_condf; exact rfl; (exact (rfl : false = false))) | (apply ef_call; exact rfl; ((repeat (apply XVs.cons; exact rfl)); exact XVs.nil); (with_reducible exact Within_c _ _ _ _ _ (by assumption))))
                (refine fin1 rfl (by exact rfl) rfl ?_)
                rw [piecesAll, if_neg hlong, HZ.out, HD.out, piecesE_bad (pieceE_b H12.out (.inr h5)) (by omega)]
              · repeat (first | apply ef_seq | (apply ef_mv; exact rfl; exact rfl) | (apply ef_bin; exact rfl; exact rfl; exact rfl; (first | exact cmp_t rfl (by first | exact rfl | (simp only [cmpP]; omega)) | exact cmp_f rfl (by simp only [cmpP]; omega) | ((with_reducible refine bin_add (wrap_of ?_ ?_)) <;> omega) | ((with_reducible refine bin_sub (wrap_of ?_ ?_)) <;> omega))) | (apply ef_gy; exact rfl; (first | exact (rfl : true = true) | exact (rfl : false = false))) | (apply ef_pick; exact rfl; exact rfl; exact rfl) | (apply ef_len; exact rfl; exact rfl; (exact rfl)) | (apply ef_ldr; exact rfl; exact rfl; (exact rfl)) | (apply ef_ias; exact rfl; exact rfl; exact rfl; (omega); assumption; exact rfl) | (apply ef_far; exact rfl; exact rfl) | (apply ef_notT; exact rfl; exact rfl) | apply ef_nil | apply seqQ.normal | apply blockQ.normal | apply ef_block | apply ef_skip | (apply ef_condt; exact rfl; (exact (rfl : true = true))) | (apply ef_condf; exact rfl; (exact (rfl : false = false))) | (apply ef_call; exact rfl; ((repeat (apply XVs.cons; exact rfl)); exact XVs.nil); (with_reducible exact Within_c _ _ _ _ _ (by assumption))))
                (refine loopQ.normal _ _ ⟨(i + 1, hi'), ⟨hlt, ⟨fun h => absurd h (by simp), fun _ => by rw [show i + 1 - 1 = i by omega, HX.out]⟩, by omega, by omega, by rw [HZ.out, HD.out, piecesE_good (pieceE_c H12.out (by omega) (by omega))]⟩, (by first | (simp only; omega) | omega), by ((repeat (refine Hold.cons (by exact rfl) ?_)); exact Hold.nil), .inl (Nat.le_refl _), (by first | exact List.take_length | exact rfl)⟩)
    · repeat (first | apply ef_seq | (apply ef_mv; exact rfl; exact rfl) | (apply ef_bin; exact rfl; exact rfl; exact rfl; (exact cmp_f rfl (by simp only [cmpP]; omega))) | (apply ef_len; exact rfl; exact rfl; (exact rfl)) | apply ef_nil | apply seqQ.normal | apply loopQ.exit | apply ef_ret | apply ef_exit | apply seqQ.exit | apply blockQ.here | (apply ef_condf; exact rfl; (exact (rfl : false = false))))
      (refine fin1 rfl (by exact rfl) rfl ?_)
      rw [piecesAll, if_neg hlong, hz, List.drop_eq_nil_of_le (by omega)]; rfl
theorem rPiecesErr_c (k : Nat) (xs : List (Int × Int)) (h : MHeap) {v : MV} (hx : xs.length ≤ 9223372036854775807) (hv : frz 0 [] h 8 v = some (.sl (xs.map encR))) {e : Int} (he : piecesAll xs = e) : orA (k + 2) 19 [v] h = some (I64 e, h) :=
  callL (args' := [.sl (xs.map encR)]) (by simp [List.mapM_cons, hv]) rfl (by rw [← he]; exact rPiecesErr_z k xs hx)
end Go.Proofs.Ytgjpdjihjphbdaa
