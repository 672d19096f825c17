/- LevelKept: the walk. -/
import Derived.Test.YtbdleggmdbihnaaLvKeptProofsPe
/- The cost of corrections is convex along sets of lines: where no set of lines can be moved by 1, nothing is cheaper; without a program. -/
namespace Go.Proofs.Ytbdleggmdbihnaa
set_option linter.unusedVariables false
set_option linter.unusedSimpArgs false
def mvP (p : Int → Int) (S : Int → Bool) (b : Int) : Int → Int := fun v => if S v then p v + b else p v
theorem resP_mv (x : Cr) (p : Int → Int) (S : Int → Bool) (b : Int) : resP x (mvP p S b) = resP x p - (if S x.ln then b else 0) + (if S x.ti then b else 0) := by
  unfold resP mvP
  split <;> split <;> omega
theorem absI_ex {z y s : Int} (h : s = 0 ∨ (s = 1 ∧ y + 1 ≤ z) ∨ (s = -1 ∧ z + 1 ≤ y)) : absI (z - s) + absI (y + s) ≤ absI z + absI y := by
  unfold absI
  split <;> split <;> split <;> split <;> omega
theorem exch {cs : List Cr} (hw : ∀ x ∈ cs, 0 ≤ x.wt) (p q : Int → Int) (S : Int → Bool) (hS : ∀ v, S v = decide (p v < q v)) : ∀ i, i ≤ cs.length → costP cs (mvP p S 1) i + costP cs (mvP q S (-1)) i ≤ costP cs p i + costP cs q i
  | 0, _ => by simp [costP]
  | i + 1, h => by
    have ih := exch hw p q S hS i (by omega)
    have hx : 0 ≤ (cs.getD i default).wt := by
      rw [List.getD_eq_getElem?_getD, List.getElem?_eq_getElem (by omega)]
      exact hw _ (List.getElem_mem _)
    rw [costP, costP, costP, costP, resP_mv, resP_mv]
    generalize cs.getD i default = x at *
    have h1 := hS x.ln
    have h2 := hS x.ti
    have key : absI (resP x p - (if S x.ln then 1 else 0) + (if S x.ti then 1 else 0)) + absI (resP x q - (if S x.ln then -1 else 0) + (if S x.ti then -1 else 0)) ≤ absI (resP x p) + absI (resP x q) := by
      have e := absI_ex (z := resP x p) (y := resP x q) (s := (if S x.ln then 1 else 0) - (if S x.ti then 1 else 0)) (by
        rw [h1, h2]
        unfold resP
        by_cases a : p x.ln < q x.ln <;> by_cases b : p x.ti < q x.ti <;> simp [a, b] <;> omega)
      refine Int.le_trans (Int.le_of_eq ?_) e
      congr 2
      · split <;> split <;> omega
      · split <;> split <;> omega
    have := Int.mul_le_mul_of_nonneg_left key hx
    rw [Int.mul_add, Int.mul_add] at this
    omega
theorem exch2 {cs : List Cr} (hw : ∀ x ∈ cs, 0 ≤ x.wt) (p q : Int → Int) (S : Int → Bool) (hS : ∀ v, S v = decide (q v < p v)) : ∀ i, i ≤ cs.length → costP cs (mvP p S (-1)) i + costP cs (mvP q S 1) i ≤ costP cs p i + costP cs q i := fun i h => by
  have := exch hw q p S hS i h
  omega
theorem costP_congr {cs : List Cr} {m : Nat} (hr : ∀ x ∈ cs, (0 ≤ x.ln ∧ x.ln < (m : Int)) ∧ (0 ≤ x.ti ∧ x.ti < (m : Int))) {p q : Int → Int} (h : ∀ v, 0 ≤ v → v < (m : Int) → p v = q v) : ∀ i, i ≤ cs.length → costP cs p i = costP cs q i
  | 0, _ => rfl
  | i + 1, hi => by
    have hx := hr (cs.getD i default) (by rw [List.getD_eq_getElem?_getD, List.getElem?_eq_getElem (by omega)]; exact List.getElem_mem _)
    rw [costP, costP, costP_congr hr h i (by omega)]
    unfold resP
    rw [h _ hx.1.1 hx.1.2, h _ hx.2.1 hx.2.2]
theorem local_opt {n : Nt} (ok : OkN n) {p : Int → Int} (h : ∀ S : Int → Bool, S 0 = false → costP n.cs p n.cs.length ≤ costP n.cs (mvP p S 1) n.cs.length ∧ costP n.cs p n.cs.length ≤ costP n.cs (mvP p S (-1)) n.cs.length) :
    ∀ (M : Nat) (q : Int → Int), q 0 = p 0 → (∀ v, 0 ≤ v → v < (n.ls.length : Int) → q v - p v ≤ (M : Int) ∧ p v - q v ≤ (M : Int)) → costP n.cs p n.cs.length ≤ costP n.cs q n.cs.length
  | 0, q, h0, hb => by
    refine Int.le_of_eq (costP_congr (m := n.ls.length) (fun x hx => ?_) (fun v h1 h2 => by have := hb v h1 h2; omega) _ (Nat.le_refl _))
    have o := ok.rg x hx
    exact ⟨⟨o.l0, o.l1⟩, o.t0, o.t1⟩
  | M + 1, q, h0, hb => by
    have hw : ∀ x ∈ n.cs, 0 ≤ x.wt := fun x hx => by have := (ok.rg x hx).wt; omega
    have e1 := exch hw p q (fun v => decide (p v < q v)) (fun v => rfl) _ (Nat.le_refl _)
    have l1 := (h (fun v => decide (p v < q v)) (by simp [h0])).1
    have e2 := exch2 hw p (mvP q (fun v => decide (p v < q v)) (-1)) (fun v => decide (mvP q (fun v => decide (p v < q v)) (-1) v < p v)) (fun v => rfl) _ (Nat.le_refl _)
    have l2 := (h (fun v => decide (mvP q (fun v => decide (p v < q v)) (-1) v < p v)) (by simp [mvP, h0])).2
    have := local_opt ok h M (mvP (mvP q (fun v => decide (p v < q v)) (-1)) (fun v => decide (mvP q (fun v => decide (p v < q v)) (-1) v < p v)) 1) (by simp [mvP, h0]) (fun v h1 h2 => by
      have := hb v h1 h2
      simp only [mvP, decide_eq_true_eq]
      split <;> split <;> omega)
    omega
theorem bd_ex (f : Nat → Int) : ∀ m : Nat, ∃ M : Nat, ∀ v, v < m → f v ≤ (M : Int) ∧ - f v ≤ (M : Int)
  | 0 => ⟨0, fun v h => by omega⟩
  | m + 1 => by
    obtain ⟨M, hM⟩ := bd_ex f m
    refine ⟨M + (f m).natAbs, fun v hv => ?_⟩
    by_cases e : v = m
    · subst e; omega
    · have := hM v (by omega); omega
theorem local_best {n : Nt} (ok : OkN n) {p : Int → Int} (h : ∀ S : Int → Bool, S 0 = false → costP n.cs p n.cs.length ≤ costP n.cs (mvP p S 1) n.cs.length ∧ costP n.cs p n.cs.length ≤ costP n.cs (mvP p S (-1)) n.cs.length) (q : Int → Int) (h0 : q 0 = p 0) : costP n.cs p n.cs.length ≤ costP n.cs q n.cs.length := by
  obtain ⟨M, hM⟩ := bd_ex (fun v => q v - p v) n.ls.length
  refine local_opt ok h M q h0 fun v h1 h2 => ?_
  have := hM v.toNat (by omega)
  simp only [show ((v.toNat : Nat) : Int) = v by omega] at this
  omega
theorem costP_shift {cs : List Cr} (p : Int → Int) (d : Int) : ∀ i, costP cs (fun v => p v + d) i = costP cs p i
  | 0 => rfl
  | i + 1 => by
    rw [costP, costP, costP_shift p d i]
    unfold resP
    rw [show ∀ a b c : Int, a - (b + d) + (c + d) = a - b + c by intro a b c; omega]
theorem local_flow {n : Nt} (ok : OkN n) {p : Int → Int} (h : ∀ S : Int → Bool, S 0 = false → costP n.cs p n.cs.length ≤ costP n.cs (mvP p S 1) n.cs.length ∧ costP n.cs p n.cs.length ≤ costP n.cs (mvP p S (-1)) n.cs.length) : costP n.cs p n.cs.length = valU n.cs (flZ n) n.cs.length := by
  obtain ⟨q, hq⟩ := (flZ_max ok).2
  have h1 := weak ok (flZ_ok ok).1 p
  have h2 := local_best ok h (fun v => q v + (p 0 - q 0)) (by show q 0 + (p 0 - q 0) = p 0; omega)
  rw [costP_shift] at h2
  omega
def setN (S : Nat → Bool) : Nat → Nat
  | 0 => 0
  | m + 1 => setN S m + if S m then 2 ^ m else 0
theorem setN_lt (S : Nat → Bool) : ∀ m, setN S m < 2 ^ m
  | 0 => by simp [setN]
  | m + 1 => by
    have := setN_lt S m
    rw [setN, Nat.pow_succ]
    split <;> omega
theorem setN_bit (S : Nat → Bool) : ∀ (m i : Nat), i < m → (setN S m).testBit i = S i
  | 0, i, h => by omega
  | m + 1, i, h => by
    have hl := setN_lt S m
    rw [setN]
    by_cases e : i = m
    · subst e
      cases hs : S i
      · simp only [Bool.false_eq_true, if_false, Nat.add_zero]
        exact Nat.testBit_lt_two_pow hl
      · simp only [if_true]
        rw [Nat.add_comm, Nat.testBit_two_pow_add_eq, Nat.testBit_lt_two_pow hl]; rfl
    · have hi : i < m := by omega
      cases hs : S m
      · simp only [Bool.false_eq_true, if_false, Nat.add_zero]
        exact setN_bit S m i hi
      · simp only [if_true]
        rw [Nat.add_comm, Nat.testBit_two_pow_add_gt hi]
        exact setN_bit S m i hi
end Go.Proofs.Ytbdleggmdbihnaa

/- Contracts: sizes, sums of weights times sizes, clones, other differences. -/
namespace Go.Proofs.Ytbdleggmdbihnaa
open Go.RowKit
set_option linter.unusedVariables false
set_option linter.unusedSimpArgs false
theorem mx_abs (z : Int) : mx z (0 - z) = absI z := by unfold mx absI; split <;> split <;> omega
theorem absI_bd {z B : Int} (h1 : -B ≤ z) (h2 : z ≤ B) : 0 ≤ absI z ∧ absI z ≤ B := by unfold absI; split <;> omega
theorem mf_size : MT.mf 70 = some mfW_l70 := mfW_q70
theorem size_c (k : Nat) (z : Int) (h1 : -1000000000000 ≤ z) (h2 : z ≤ 1000000000000) (h : MHeap) : orA (k + 1) 70 [I64 z] h = some (I64 (absI z), h) := by
  refine callL (args' := [I64 z]) (frzL_lt rfl) rfl (runZ_of mf_size (by simp) ?_)
  simp only [argsL]
  repeat (first | apply ef_seq | (apply ef_mv; exact rfl; exact rfl) | (apply ef_neg; exact rfl; exact rfl; exact wrap_of (by omega) (by omega)) | (apply ef_mx; exact rfl; exact rfl; exact rfl) | apply ef_nil | apply seqQ.normal | apply ef_ret)
  (refine fin1 rfl (by exact rfl) rfl ?_)
  rw [mx_abs]
theorem mf_bSize : MT.mf 23 = some mfW_l70 := by kernel_rfl
theorem bSize_c (k : Nat) (z : Int) (h1 : -1000000000000 ≤ z) (h2 : z ≤ 1000000000000) (h : MHeap) : orA (k + 1) 23 [I64 z] h = some (I64 (absI z), h) := by
  refine callL (args' := [I64 z]) (frzL_lt rfl) rfl (runZ_of mf_bSize (by simp) ?_)
  simp only [argsL]
  repeat (first | apply ef_seq | (apply ef_mv; exact rfl; exact rfl) | (apply ef_neg; exact rfl; exact rfl; exact wrap_of (by omega) (by omega)) | (apply ef_mx; exact rfl; exact rfl; exact rfl) | apply ef_nil | apply seqQ.normal | apply ef_ret)
  (refine fin1 rfl (by exact rfl) rfl ?_)
  rw [mx_abs]
def wsU (cs : List Cr) (ds : List Int) : Nat → Int
  | 0 => 0
  | i + 1 => wsU cs ds i + (cs.getD i default).wt * absI (cAt ds i)
theorem wsU_next {cs : List Cr} {ds : List Int} {i : Nat} {x : Cr} (h : cs[i]? = some x) : wsU cs ds (i + 1) = wsU cs ds i + x.wt * absI (cAt ds i) := by
  rw [wsU, List.getD_eq_getElem?_getD, h]; rfl
theorem wsU_bd {n : Nt} (ok : OkN n) {ds : List Int} (hb : ∀ v, -1000000000000 ≤ cAt ds v ∧ cAt ds v ≤ 1000000000000) : ∀ i, i ≤ n.cs.length → 0 ≤ wsU n.cs ds i ∧ wsU n.cs ds i ≤ 10000000000000 * (i : Int)
  | 0, _ => by simp [wsU]
  | i + 1, hi => by
    have ih := wsU_bd ok hb i (by omega)
    have hx := (ok.rg n.cs[i] (List.getElem_mem (by omega))).wt
    rw [wsU_next (List.getElem?_eq_getElem (by omega))]
    have ha := absI_bd (hb (i : Int)).1 (hb (i : Int)).2
    have := mul_bd (a := n.cs[i].wt) (b := absI (cAt ds i)) (A := 10) (B := 1000000000000) (by omega) (by omega) (by omega) (by omega)
    have := Int.mul_nonneg (show 0 ≤ n.cs[i].wt by omega) ha.1
    omega
theorem mf_cost : MT.mf 45 = some mfW_l45 := mfW_q45
set_option maxHeartbeats 1000000 in
theorem cost_z (k : Nat) (n : Nt) (ok : OkN n) (ds : List Int) (hl : ds.length = n.cs.length) (hb : ∀ v, -1000000000000 ≤ cAt ds v ∧ cAt ds v ≤ 1000000000000) :
    runZ MT (orA (k + 1)) (itA (k + 1)) 4000000 45 [encN n, .sl (ds.map I64)] [] = some (I64 (wsU n.cs ds n.cs.length), []) := by
  have hs2 : (MV.sl (n.cs.map encCr)).slen = some n.cs.length := by simp [MV.slen]
  have c16 := ok.c16
  refine runZ_of mf_cost (by simp) ?_
  simp only [argsL]
  repeat (first | apply ef_seq | (apply ef_mv; exact rfl; exact rfl) | (apply ef_len; exact rfl; exact rfl; (assumption)) | (apply ef_ldp; exact rfl; exact rfl; (exact rfl); exact rfl; (exact rfl); (exact rfl)) | (apply ef_fap; exact rfl; exact rfl) | (apply ef_box; exact rfl; exact rfl; exact rfl; exact rfl) | apply ef_nil | apply seqQ.normal | apply ef_block)
  refine ef_loopf (α := Nat × Int) (fun p => p.1 ≤ n.cs.length ∧ p.2 = wsU n.cs ds p.1) (fun p => [(12, I64 (p.1 : Int)), (5, I64 p.2)]) [(11, I64 (n.cs.length : Int)), (10, .sl (n.cs.map encCr)), (1, .sl (ds.map I64))] (fun _ => [⟨0, false, 2, [encN n]⟩]) (fun p => n.cs.length - p.1) (0, 0) [12, 5] (fun _ => rfl) (by ((repeat (refine Hold.cons (by exact rfl) ?_)); exact Hold.nil)) (by ((repeat (refine Hold.cons (by exact rfl) ?_)); exact Hold.nil)) rfl rfl ⟨by omega, rfl⟩ (by simp; omega) ?_
  rintro ⟨i, q⟩ ⟨hi, hq⟩
  try simp only at hi hq ⊢
  by_cases hlt : i < n.cs.length
  · have e1 := at_map encCr n.cs i hlt
    have hat : n.cs[i]? = some n.cs[i] := List.getElem?_eq_getElem hlt
    have hx := ok.rg n.cs[i] (List.getElem_mem hlt)
    have e2 := cAt_at hl (i := (i : Int)) (by omega) (by omega)
    have hv := wsU_bd ok hb i hi
    have hvn := wsU_bd ok hb (i + 1) hlt
    have hbi := hb (i : Int)
    generalize n.cs[i] = x at e1 hat hx
    have HN := Lib.hid (wsU_next (ds := ds) hat)
    rw [HN.out] at hvn
    have w2 := hx.wt
    rw [← hq] at hv hvn
    generalize cAt ds i = f at e2 HN hvn hbi
    have ha := absI_bd hbi.1 hbi.2
    have w3 := fun h => size_c k f (by omega) (by omega) h
    generalize absI f = g at *
    have m1 := mul_w (a := x.wt) (b := g) 10 1000000000000 (by omega) (by omega) (by omega) (by omega) (by omega)
    repeat (first | apply ef_seq | (apply ef_mv; exact rfl; exact rfl) | (apply ef_bin; exact rfl; exact rfl; exact rfl; (first | exact cmp_t rfl (by first | exact rfl | (simp only [cmpP]; omega)) | ((with_reducible refine bin_add (wrap_of ?_ ?_)) <;> omega) | ((with_reducible refine bin_mul (wrap_of ?_ ?_)) <;> omega))) | (apply ef_ldr; exact rfl; exact rfl; (first | exact rd_6 rfl rfl rfl rfl rfl rfl | exact rfl)) | (apply ef_ldp; exact rfl; exact rfl; (exact rfl); exact rfl; (exact rfl); (exact rfl)) | (apply ef_ias; exact rfl; exact rfl; exact rfl; (omega); assumption; exact rfl) | (apply ef_fap; exact rfl; exact rfl) | (apply ef_new; exact rfl) | (apply ef_st; exact rfl; exact rfl; exact rfl; exact rfl; exact rfl; exact rfl; (exact rfl); exact rfl) | apply ef_nil | apply seqQ.normal | apply blockQ.normal | apply ef_block | apply ef_skip | (apply ef_condt; exact rfl; (exact (rfl : true = true))) | (apply ef_call; exact rfl; ((repeat (apply XVs.cons; exact rfl)); exact XVs.nil); (with_reducible exact w3 _)))
    (refine loopQ.normal _ _ ⟨(i + 1, q + x.wt * g), ⟨hlt, by rw [HN.out, hq]⟩, (by first | (simp only; omega) | omega), ⟨by ((repeat (refine Hold.cons (by exact rfl) ?_)); exact Hold.nil), by ((repeat (refine Hold.cons (by exact rfl) ?_)); exact Hold.nil)⟩, .inr ⟨by ((repeat (refine hdl_cons rfl (by first | rfl | (simp [MV.lt, ltL, ltL_Ln, ltL_Cr, ltL_I, splice, MV.cells])) ?_)); exact hdl_nil), by (simp [hltL, ltL, MV.lt, ltL, ltL_Ln, ltL_Cr, ltL_I, splice, MV.cells])⟩, by exact rfl⟩)
  · obtain rfl : i = n.cs.length := by omega
    repeat (first | apply ef_seq | (apply ef_mv; exact rfl; exact rfl) | (apply ef_bin; exact rfl; exact rfl; exact rfl; (exact cmp_f rfl (by simp only [cmpP]; omega))) | apply ef_nil | apply seqQ.normal | apply loopQ.exit | apply ef_ret | apply ef_exit | apply seqQ.exit | apply blockQ.here | (apply ef_condf; exact rfl; (exact (rfl : false = false))))
    (refine fin1 rfl (by exact rfl) rfl ?_)
    rw [hq]
theorem cost_c (k : Nat) (n : Nt) (ok : OkN n) (ds : List Int) (hl : ds.length = n.cs.length) (hb : ∀ v, -1000000000000 ≤ cAt ds v ∧ cAt ds v ≤ 1000000000000) (h : MHeap) {v : MV} (hv : frz 0 [] h 8 v = some (.sl (ds.map I64))) :
    orA (k + 2) 45 [encN n, v] h = some (I64 (wsU n.cs ds n.cs.length), h) :=
  callL (args' := [encN n, .sl (ds.map I64)]) (by simp [List.mapM_cons, hv, frz_lt (ltL_N n 0)]) rfl (cost_z k n ok ds hl hb)
theorem mf_SumOf : MT.mf 17 = some ⟨28, [(.tmp 4)], (.seq (.reg [⟨none, some 2, .box 2 (.s 0)⟩, ⟨none, some 4, .mv (.c (.lit (.int .i64 0)))⟩]) (.seq (.reg [⟨none, some 5, .mv (.c (.lit (.int .i64 0)))⟩]) (.seq (.seq (.reg [⟨none, some 6, .mv (.c (.lit (.int .i64 0)))⟩]) (.block 0 (.loop [6, 1, 5, 2] (.seq (.seq (.reg [⟨none, some 7, .mv (.s 6)⟩, ⟨none, some 8, .mv (.s 1)⟩, ⟨none, some 9, .len (.s 8)⟩, ⟨none, some 10, .bin .lss (.s 7) (.s 9)⟩]) (.cond (.s 10) .skip (.exit 0))) (.seq (.block 1 (.reg [⟨none, some 13, .mv (.s 5)⟩, ⟨none, some 14, .fa 1 (.s 2)⟩, ⟨none, some 15, .ld none (.s 14)⟩, ⟨none, some 16, .mv (.s 6)⟩, ⟨none, some 17, .ia 6 (.s 15) (.s 16)⟩, ⟨none, some 18, .fa 5 (.s 17)⟩, ⟨none, some 19, .ld none (.s 18)⟩, ⟨none, some 20, .mv (.s 1)⟩, ⟨none, some 21, .mv (.s 6)⟩, ⟨none, some 22, .ia 1 (.s 20) (.s 21)⟩, ⟨none, some 23, .ld none (.s 22)⟩, ⟨none, some 24, .call 23 [.s 23]⟩, ⟨none, some 25, .bin .mul (.s 19) (.s 24)⟩, ⟨none, some 26, .bin .add (.s 13) (.s 25)⟩, ⟨none, some 5, .mv (.s 26)⟩])) (.reg [⟨none, some 11, .mv (.s 6)⟩, ⟨none, some 12, .bin .add (.s 11) (.c (.lit (.int .i64 1)))⟩, ⟨none, some 6, .mv (.s 12)⟩])))))) (.seq (.reg [⟨none, some 27, .mv (.s 5)⟩, ⟨none, some 4, .mv (.s 27)⟩]) .ret))))⟩ := by kernel_rfl
set_option maxHeartbeats 1000000 in
theorem SumOf_z (k : Nat) (n : Nt) (ok : OkN n) (ds : List Int) (hl : ds.length = n.cs.length) (hb : ∀ v, -1000000000000 ≤ cAt ds v ∧ cAt ds v ≤ 1000000000000) :
    runZ MT (orA (k + 1)) (itA (k + 1)) 4000000 17 [encN n, .sl (ds.map I64)] [] = some (I64 (wsU n.cs ds n.cs.length), []) := by
  have hs3 : (MV.sl (ds.map I64)).slen = some ds.length := by simp [MV.slen]
  have c16 := ok.c16
  refine runZ_of mf_SumOf (by simp) ?_
  simp only [argsL]
  repeat (first | apply ef_seq | (apply ef_mv; exact rfl; exact rfl) | (apply ef_box; exact rfl; exact rfl; exact rfl; exact rfl) | apply ef_nil | apply seqQ.normal | apply ef_block)
  refine ef_loopf (α := Nat × Int) (fun p => p.1 ≤ n.cs.length ∧ p.2 = wsU n.cs ds p.1) (fun p => [(6, I64 (p.1 : Int)), (5, I64 p.2)]) [(1, .sl (ds.map I64)), (2, .ptr 0 0 0 0)] (fun _ => [⟨0, false, 2, [encN n]⟩]) (fun p => n.cs.length - p.1) (0, 0) [6, 5] (fun _ => rfl) (by ((repeat (refine Hold.cons (by exact rfl) ?_)); exact Hold.nil)) (by ((repeat (refine Hold.cons (by exact rfl) ?_)); exact Hold.nil)) rfl rfl ⟨by omega, rfl⟩ (by simp; omega) ?_
  rintro ⟨i, q⟩ ⟨hi, hq⟩
  try simp only at hi hq ⊢
  by_cases hlt : i < n.cs.length
  · have e1 := at_map encCr n.cs i hlt
    have hat : n.cs[i]? = some n.cs[i] := List.getElem?_eq_getElem hlt
    have hx := ok.rg n.cs[i] (List.getElem_mem hlt)
    have e2 := cAt_at hl (i := (i : Int)) (by omega) (by omega)
    have hv := wsU_bd ok hb i hi
    have hvn := wsU_bd ok hb (i + 1) hlt
    have hbi := hb (i : Int)
    generalize n.cs[i] = x at e1 hat hx
    have HN := Lib.hid (wsU_next (ds := ds) hat)
    rw [HN.out] at hvn
    have w2 := hx.wt
    rw [← hq] at hv hvn
    generalize cAt ds i = f at e2 HN hvn hbi
    have ha := absI_bd hbi.1 hbi.2
    have w3 := fun h => bSize_c k f (by omega) (by omega) h
    generalize absI f = g at *
    have m1 := mul_w (a := x.wt) (b := g) 10 1000000000000 (by omega) (by omega) (by omega) (by omega) (by omega)
    repeat (first | apply ef_seq | (apply ef_mv; exact rfl; exact rfl) | (apply ef_bin; exact rfl; exact rfl; exact rfl; (first | exact cmp_t rfl (by first | exact rfl | (simp only [cmpP]; omega)) | ((with_reducible refine bin_add (wrap_of ?_ ?_)) <;> omega) | ((with_reducible refine bin_mul (wrap_of ?_ ?_)) <;> omega))) | (apply ef_len; exact rfl; exact rfl; (assumption)) | (apply ef_ldr; exact rfl; exact rfl; (exact rfl)) | (apply ef_ldp; exact rfl; exact rfl; (exact rfl); exact rfl; (exact rfl); (exact rfl)) | (apply ef_ias; exact rfl; exact rfl; exact rfl; (omega); assumption; exact rfl) | (apply ef_fap; exact rfl; exact rfl) | (apply ef_far; exact rfl; exact rfl) | apply ef_nil | apply seqQ.normal | apply blockQ.normal | apply ef_block | apply ef_skip | (apply ef_condt; exact rfl; (exact (rfl : true = true))) | (apply ef_call; exact rfl; ((repeat (apply XVs.cons; exact rfl)); exact XVs.nil); (with_reducible exact w3 _)))
    (refine loopQ.normal _ _ ⟨(i + 1, q + x.wt * g), ⟨hlt, by rw [HN.out, hq]⟩, (by first | (simp only; omega) | omega), ⟨by ((repeat (refine Hold.cons (by exact rfl) ?_)); exact Hold.nil), by ((repeat (refine Hold.cons (by exact rfl) ?_)); exact Hold.nil)⟩, .inr ⟨by ((repeat (refine hdl_cons rfl (by first | rfl | (simp [MV.lt, ltL, ltL_Ln, ltL_Cr, ltL_I, splice, MV.cells])) ?_)); exact hdl_nil), by (simp [hltL, ltL, MV.lt, ltL, ltL_Ln, ltL_Cr, ltL_I, splice, MV.cells])⟩, by exact rfl⟩)
  · obtain rfl : i = n.cs.length := by omega
    repeat (first | apply ef_seq | (apply ef_mv; exact rfl; exact rfl) | (apply ef_bin; exact rfl; exact rfl; exact rfl; (exact cmp_f rfl (by simp only [cmpP]; omega))) | (apply ef_len; exact rfl; exact rfl; (assumption)) | apply ef_nil | apply seqQ.normal | apply loopQ.exit | apply ef_ret | apply ef_exit | apply seqQ.exit | apply blockQ.here | (apply ef_condf; exact rfl; (exact (rfl : false = false))))
    (refine fin1 rfl (by exact rfl) rfl ?_)
    rw [hq]
theorem SumOf_c (k : Nat) (n : Nt) (ok : OkN n) (ds : List Int) (hl : ds.length = n.cs.length) (hb : ∀ v, -1000000000000 ≤ cAt ds v ∧ cAt ds v ≤ 1000000000000) (h : MHeap) {v : MV} (hv : frz 0 [] h 8 v = some (.sl (ds.map I64))) :
    orA (k + 2) 17 [encN n, v] h = some (I64 (wsU n.cs ds n.cs.length), h) :=
  callL (args' := [encN n, .sl (ds.map I64)]) (by simp [List.mapM_cons, hv, frz_lt (ltL_N n 0)]) rfl (SumOf_z k n ok ds hl hb)
def anB (z : Int) : Bool := !inB z (-10000) 10000
def anE (m : Nat) (ds : List Int) : Int := if ds.length = m then (if ds.any anB then 2 else 0) else 10
theorem mf_kp1 : MT.mf 38 = some mfW_l38 := mfW_q38
theorem kp1_c (k : Nat) (z : Int) (h : MHeap) : orA (k + 3) 38 [I64 z] h = some (Bo (anB z), h) := by
  refine callL (args' := [I64 z]) (frzL_lt rfl) rfl (runZ_of mf_kp1 (by simp) ?_)
  simp only [argsL]
  have hw := fun h => isSized_c k z 10000 h (by omega) (by omega) rfl
  have e : anB z = !inB z (-(10000 : Int)) 10000 := rfl
  rw [e]
  generalize inB z (-(10000 : Int)) 10000 = b at *
  repeat (first | apply ef_seq | (apply ef_mv; exact rfl; exact rfl) | (apply ef_not; exact rfl; exact rfl; exact rfl) | apply ef_nil | apply seqQ.normal | apply ef_ret | (apply ef_call; exact rfl; ((repeat (apply XVs.cons; exact rfl)); exact XVs.nil); (with_reducible exact hw _)))
  (refine fin1 rfl (by exact rfl) rfl ?_)
  rfl
theorem mf_anErr : MT.mf 15 = some ⟨24, [(.tmp 4)], (.seq (.reg [⟨none, some 2, .box 2 (.s 0)⟩, ⟨none, some 4, .mv (.c (.lit (.int .i64 0)))⟩]) (.seq (.seq (.reg [⟨none, some 6, .mv (.s 1)⟩, ⟨none, some 7, .len (.s 6)⟩, ⟨none, some 8, .fa 1 (.s 2)⟩, ⟨none, some 9, .ld none (.s 8)⟩, ⟨none, some 10, .len (.s 9)⟩, ⟨none, some 11, .bin .neq (.s 7) (.s 10)⟩]) (.cond (.s 11) (.seq (.reg [⟨none, some 4, .mv (.c (.lit (.int .i64 10)))⟩]) .ret) .skip)) (.seq (.seq (.reg [⟨none, some 5, .mv (.c (.lit (.int .i64 0)))⟩]) (.block 0 (.loop [5, 1] (.seq (.seq (.reg [⟨none, some 12, .mv (.s 5)⟩, ⟨none, some 13, .mv (.s 1)⟩, ⟨none, some 14, .len (.s 13)⟩, ⟨none, some 15, .bin .lss (.s 12) (.s 14)⟩]) (.cond (.s 15) .skip (.exit 0))) (.seq (.block 1 (.seq (.reg [⟨none, some 18, .mv (.s 1)⟩, ⟨none, some 19, .mv (.s 5)⟩, ⟨none, some 20, .ia 1 (.s 18) (.s 19)⟩, ⟨none, some 21, .ld none (.s 20)⟩, ⟨none, some 22, .call 47 [.s 21]⟩, ⟨none, some 23, .un .not (.s 22)⟩]) (.cond (.s 23) (.seq (.reg [⟨none, some 4, .mv (.c (.lit (.int .i64 2)))⟩]) .ret) .skip))) (.reg [⟨none, some 16, .mv (.s 5)⟩, ⟨none, some 17, .bin .add (.s 16) (.c (.lit (.int .i64 1)))⟩, ⟨none, some 5, .mv (.s 17)⟩])))))) (.seq (.reg [⟨none, some 4, .mv (.c (.lit (.int .i64 0)))⟩]) .ret))))⟩ := by kernel_rfl
set_option maxHeartbeats 1000000 in
theorem anErr_z (k : Nat) (n : Nt) (ds : List Int) (hn : n.cs.length ≤ 1000) (hd : ds.length ≤ 1000) :
    runZ MT (orA (k + 2)) (itA (k + 2)) 4000000 15 [encN n, .sl (ds.map I64)] [] = some (I64 (anE n.cs.length ds), []) := by
  have hs2 : (MV.sl (n.cs.map encCr)).slen = some n.cs.length := by simp [MV.slen]
  have hs3 : (MV.sl (ds.map I64)).slen = some ds.length := by simp [MV.slen]
  have HE := Lib.hid (show anE n.cs.length ds = if ds.length = n.cs.length then (if ds.any anB then 2 else 0) else 10 from rfl)
  refine runZ_of mf_anErr (by simp) ?_
  simp only [argsL]
  by_cases hl : ds.length = n.cs.length
  · repeat (first | apply ef_seq | (apply ef_mv; exact rfl; exact rfl) | (apply ef_bin; exact rfl; exact rfl; exact rfl; (exact cmp_f rfl (by simp only [cmpP]; omega))) | (apply ef_len; exact rfl; exact rfl; (assumption)) | (apply ef_ldp; exact rfl; exact rfl; (exact rfl); exact rfl; (exact rfl); (exact rfl)) | (apply ef_fap; exact rfl; exact rfl) | (apply ef_box; exact rfl; exact rfl; exact rfl; exact rfl) | apply ef_nil | apply seqQ.normal | apply ef_block | apply ef_skip | (apply ef_condf; exact rfl; (exact (rfl : false = false))))
    refine ef_loopf (α := Nat) (fun i => i ≤ ds.length ∧ ds.any anB = (ds.drop i).any anB) (fun i => [(5, I64 (i : Int))]) [(1, .sl (ds.map I64))] (fun _ => [⟨0, false, 2, [encN n]⟩]) (fun i => ds.length - i) 0 [5] (fun _ => rfl) (by ((repeat (refine Hold.cons (by exact rfl) ?_)); exact Hold.nil)) (by ((repeat (refine Hold.cons (by exact rfl) ?_)); exact Hold.nil)) rfl rfl ⟨by omega, rfl⟩ (by simp; omega) ?_
    rintro i ⟨hi, hz⟩
    try simp only at hi hz ⊢
    by_cases hlt : i < ds.length
    · have e1 := at_map I64 ds i hlt
      have HS := Lib.hid (drop_at ds i hlt)
      have HZ := Lib.hid hz
      clear hz
      generalize ds[i] = z at e1 HS
      cases hb : inB z (-10000) 10000
      · have w1 := fun h => IsDifference_c k z h hb
        have hany : ds.any anB = true := by rw [HZ.out, HS.out, List.any_cons]; simp [anB, hb]
        rw [HE.out, if_pos hl, if_pos hany]
        repeat (first | apply ef_seq | (apply ef_mv; exact rfl; exact rfl) | (apply ef_bin; exact rfl; exact rfl; exact rfl; (exact cmp_t rfl (by first | exact rfl | (simp only [cmpP]; omega)))) | (apply ef_len; exact rfl; exact rfl; (assumption)) | (apply ef_ldr; exact rfl; exact rfl; (exact rfl)) | (apply ef_ias; exact rfl; exact rfl; exact rfl; (omega); assumption; exact rfl) | (apply ef_notF; exact rfl; exact rfl) | apply ef_nil | apply seqQ.normal | apply loopQ.ret | apply ef_ret | apply seqQ.ret | apply blockQ.ret | apply ef_block | apply ef_skip | (apply ef_condt; exact rfl; (exact (rfl : true = true))) | (apply ef_call; exact rfl; ((repeat (apply XVs.cons; exact rfl)); exact XVs.nil); (with_reducible exact w1 _)))
        (refine fin1 rfl (by exact rfl) rfl ?_)
        rfl
      · have w1 := fun h => IsDifference_c k z h hb
        repeat (first | apply ef_seq | (apply ef_mv; exact rfl; exact rfl) | (apply ef_bin; exact rfl; exact rfl; exact rfl; (first | exact cmp_t rfl (by first | exact rfl | (simp only [cmpP]; omega)) | ((with_reducible refine bin_add (wrap_of ?_ ?_)) <;> omega))) | (apply ef_len; exact rfl; exact rfl; (assumption)) | (apply ef_ldr; exact rfl; exact rfl; (exact rfl)) | (apply ef_ias; exact rfl; exact rfl; exact rfl; (omega); assumption; exact rfl) | (apply ef_notT; exact rfl; exact rfl) | apply ef_nil | apply seqQ.normal | apply blockQ.normal | apply ef_block | apply ef_skip | (apply ef_condt; exact rfl; (exact (rfl : true = true))) | (apply ef_condf; exact rfl; (exact (rfl : false = false))) | (apply ef_call; exact rfl; ((repeat (apply XVs.cons; exact rfl)); exact XVs.nil); (with_reducible exact w1 _)))
        (refine loopQ.normal _ _ ⟨i + 1, ⟨hlt, by rw [HZ.out, HS.out, List.any_cons]; simp [anB, hb]⟩, (by first | (simp only; omega) | omega), ⟨by ((repeat (refine Hold.cons (by exact rfl) ?_)); exact Hold.nil), by ((repeat (refine Hold.cons (by exact rfl) ?_)); exact Hold.nil)⟩, .inr ⟨by ((repeat (refine hdl_cons rfl (by first | rfl | (simp [MV.lt, ltL, ltL_Ln, ltL_Cr, ltL_I, splice, MV.cells])) ?_)); exact hdl_nil), by (simp [hltL, ltL, MV.lt, ltL, ltL_Ln, ltL_Cr, ltL_I, splice, MV.cells])⟩, by exact rfl⟩)
    · have hany : ds.any anB = false := by rw [hz, List.drop_eq_nil_of_le (by omega)]; rfl
      rw [HE.out, if_pos hl, hany, if_neg (by simp)]
      repeat (first | apply ef_seq | (apply ef_mv; exact rfl; exact rfl) | (apply ef_bin; exact rfl; exact rfl; exact rfl; (exact cmp_f rfl (by simp only [cmpP]; omega))) | (apply ef_len; exact rfl; exact rfl; (assumption)) | apply ef_nil | apply seqQ.normal | apply loopQ.exit | apply ef_ret | apply ef_exit | apply seqQ.exit | apply blockQ.here | (apply ef_condf; exact rfl; (exact (rfl : false = false))))
      (refine fin1 rfl (by exact rfl) rfl ?_)
      rfl
  · rw [HE.out, if_neg hl]
    repeat (first | apply ef_seq | (apply ef_mv; exact rfl; exact rfl) | (apply ef_bin; exact rfl; exact rfl; exact rfl; (exact cmp_t rfl (by first | exact rfl | (simp only [cmpP]; omega)))) | (apply ef_len; exact rfl; exact rfl; (assumption)) | (apply ef_ldp; exact rfl; exact rfl; (exact rfl); exact rfl; (exact rfl); (exact rfl)) | (apply ef_fap; exact rfl; exact rfl) | (apply ef_box; exact rfl; exact rfl; exact rfl; exact rfl) | apply ef_nil | apply seqQ.normal | apply ef_ret | apply seqQ.ret | (apply ef_condt; exact rfl; (exact (rfl : true = true))))
    (refine fin1 rfl (by exact rfl) rfl ?_)
    rfl
theorem anErr_c (k : Nat) (n : Nt) (ds : List Int) (hn : n.cs.length ≤ 1000) (hd : ds.length ≤ 1000) (h : MHeap) {v : MV} (hv : frz 0 [] h 8 v = some (.sl (ds.map I64))) : orA (k + 3) 15 [encN n, v] h = some (I64 (anE n.cs.length ds), h) :=
  callL (args' := [encN n, .sl (ds.map I64)]) (by simp [List.mapM_cons, hv, frz_lt (ltL_N n 0)]) rfl (anErr_z k n ds hn hd)
end Go.Proofs.Ytbdleggmdbihnaa

/- Contracts: clones; a net with other differences. -/
namespace Go.Proofs.Ytbdleggmdbihnaa
open Go.RowKit
set_option linter.unusedVariables false
set_option linter.unusedSimpArgs false
theorem ef_eqns {O : Oracle} {I : Iter} {N n : Nat} {lk : Nat → Bool} {A : Sl} {h : MHeap} {Q : MX2 → Sl → MHeap → Prop} {os : List GO} {t : Nat} {neg : Bool} {x : MX} {e : MV} {es : List MV} (ht : Nat.blt t n = true) (hx : XV A x (.sl (e :: es))) (hE : Ef O I N n lk (.reg os) ((t, .lit (.bool neg)) :: A) h Q) : Ef O I N n lk (.reg (⟨none, some t, .eqn neg x⟩ :: os)) A h Q :=
  ef_op (fun S HS => by simp only [evO, HS.x hx]) ht hE
theorem mf_CloneL : MT.mf 66 = some mfW_l66 := mfW_q66
theorem mf_CloneC : MT.mf 67 = some mfW_l67 := mfW_q67
theorem CloneL_z (k : Nat) (l : Ln) (ls : List Ln) (hl : (l :: ls).length ≤ 1000) : runZ MT (orA k) (itA k) 4000000 66 [.sl ((l :: ls).map encLn)] [] = some (.arr 0 0 (l :: ls).length 0, [⟨0, false, 2, (l :: ls).map encLn⟩]) := by
  have q1 := sOk_Ln (l :: ls)
  refine runZ_of mf_CloneL (by simp) ?_
  simp only [argsL]
  repeat (first | apply ef_seq | (apply ef_mv; exact rfl; exact rfl) | (apply ef_nil0; exact rfl) | apply ef_nil | apply seqQ.normal)
  refine ef_eqns (by exact rfl) (by exact rfl) ?_
  repeat (first | apply ef_seq | (apply ef_mv; exact rfl; exact rfl) | (apply ef_bsl; exact rfl; (repeat (apply XVs.cons; exact rfl)); exact XVs.nil; exact rfl) | apply ef_nil | apply seqQ.normal | apply ef_skip | (apply ef_condf; exact rfl; (exact (rfl : false = false))))
  (apply ef_app; (· exact rfl); (· exact rfl); (· exact rfl); (· exact rfl); (· exact rfl); (· exact rfl); (· exact rfl); (· exact rfl); (· (simp at hl ⊢; omega)); (· exact q1); (· exact rfl))
  repeat (first | (apply ef_mv; exact rfl; exact rfl) | apply ef_nil | apply seqQ.normal | apply ef_ret)
  (apply fin_arr; (· exact rfl); (· exact rfl); (· exact rfl); (· exact rfl); (· simp); (· (exact ltL_Ln 0 (l :: ls))); (· (simp; rw [List.take_of_length_le (by simp)])); (· exact rfl); (· exact rfl); (· (simp)))
theorem CloneC_z (k : Nat) (l : Cr) (ls : List Cr) (hl : (l :: ls).length ≤ 1000) : runZ MT (orA k) (itA k) 4000000 67 [.sl ((l :: ls).map encCr)] [] = some (.arr 0 0 (l :: ls).length 0, [⟨0, false, 6, (l :: ls).map encCr⟩]) := by
  have q1 := sOk_Cr (l :: ls)
  refine runZ_of mf_CloneC (by simp) ?_
  simp only [argsL]
  repeat (first | apply ef_seq | (apply ef_mv; exact rfl; exact rfl) | (apply ef_nil0; exact rfl) | apply ef_nil | apply seqQ.normal)
  refine ef_eqns (by exact rfl) (by exact rfl) ?_
  repeat (first | apply ef_seq | (apply ef_mv; exact rfl; exact rfl) | (apply ef_bsl; exact rfl; (repeat (apply XVs.cons; exact rfl)); exact XVs.nil; exact rfl) | apply ef_nil | apply seqQ.normal | apply ef_skip | (apply ef_condf; exact rfl; (exact (rfl : false = false))))
  (apply ef_app; (· exact rfl); (· exact rfl); (· exact rfl); (· exact rfl); (· exact rfl); (· exact rfl); (· exact rfl); (· exact rfl); (· (simp at hl ⊢; omega)); (· exact q1); (· exact rfl))
  repeat (first | (apply ef_mv; exact rfl; exact rfl) | apply ef_nil | apply seqQ.normal | apply ef_ret)
  (apply fin_arr; (· exact rfl); (· exact rfl); (· exact rfl); (· exact rfl); (· simp); (· (exact ltL_Cr 0 (l :: ls))); (· (simp; rw [List.take_of_length_le (by simp)])); (· exact rfl); (· exact rfl); (· (simp)))
theorem CloneL_c (k : Nat) (l : Ln) (ls : List Ln) (hl : (l :: ls).length ≤ 1000) (h : MHeap) : orA (k + 1) 66 [.sl ((l :: ls).map encLn)] h = some (.arr h.length 0 (l :: ls).length 0, h ++ [⟨0, false, 2, (l :: ls).map encLn⟩]) := by
  have := callA (k := k) (h := h) (args := [.sl ((l :: ls).map encLn)]) (frzL_lt (by simp [ltL, MV.lt, ltL_Ln])) rfl (CloneL_z k l ls hl) rfl (by simp [okH, ltL, MV.lt, ltL_Ln, pureL, MV.pure, pureL_Ln])
  simpa [shV, sh1] using this
theorem CloneC_c (k : Nat) (l : Cr) (ls : List Cr) (hl : (l :: ls).length ≤ 1000) (h : MHeap) : orA (k + 1) 67 [.sl ((l :: ls).map encCr)] h = some (.arr h.length 0 (l :: ls).length 0, h ++ [⟨0, false, 6, (l :: ls).map encCr⟩]) := by
  have := callA (k := k) (h := h) (args := [.sl ((l :: ls).map encCr)]) (frzL_lt (by simp [ltL, MV.lt, ltL_Cr])) rfl (CloneC_z k l ls hl) rfl (by simp [okH, ltL, MV.lt, ltL_Cr, pureL, MV.pure, pureL_Cr])
  simpa [shV, sh1] using this
theorem CloneC_e (k : Nat) (h : MHeap) : orA (k + 1) 67 [.sl []] h = some (.sl [], h) := by
  have := callT (f := 67) (k := k) (h := h) (args := [.sl []]) (args' := [.sl []]) (m := .sl []) (news := []) rfl rfl rfl rfl
  simpa [shV, sh1] using this
end Go.Proofs.Ytbdleggmdbihnaa

/- Contracts: a net with other differences. -/
namespace Go.Proofs.Ytbdleggmdbihnaa
open Go.RowKit
set_option linter.unusedVariables false
set_option linter.unusedSimpArgs false
def setD (x : Cr) (d : Int) : Cr := ⟨x.ln, x.ti, x.pa, x.pt, d, x.wt⟩
def wiU (cs : List Cr) (ds : List Int) : Nat → List Cr
  | 0 => cs
  | i + 1 => (wiU cs ds i).set i (setD (cs.getD i default) (cAt ds i))
def nW (n : Nt) (ds : List Int) : Nt := ⟨n.ls, wiU n.cs ds n.cs.length⟩
theorem wiU_len (cs : List Cr) (ds : List Int) : ∀ i, (wiU cs ds i).length = cs.length
  | 0 => rfl
  | i + 1 => by rw [wiU, List.length_set, wiU_len cs ds i]
theorem wiU_at (cs : List Cr) (ds : List Int) : ∀ i j, i ≤ j → (wiU cs ds i)[j]? = cs[j]?
  | 0, j, _ => rfl
  | i + 1, j, h => by rw [wiU, List.getElem?_set_ne (by omega)]; exact wiU_at cs ds i j (by omega)
theorem wiU_next {cs : List Cr} {ds : List Int} {i : Nat} {x : Cr} (h : cs[i]? = some x) : wiU cs ds (i + 1) = (wiU cs ds i).set i (setD x (cAt ds i)) := by
  rw [wiU, List.getD_eq_getElem?_getD, h]; rfl
theorem mf_with : MT.mf 42 = some mfW_l42 := mfW_q42
set_option maxHeartbeats 2000000 in
theorem with_z (k : Nat) (l : Ln) (ls : List Ln) (c : Cr) (cs : List Cr) (h1 : (l :: ls).length ≤ 1000) (h2 : (c :: cs).length ≤ 1000) (ds : List Int) (hd : ds.length = (c :: cs).length) :
    runZ MT (orA (k + 1)) (itA (k + 1)) 4000000 42 [encN ⟨l :: ls, c :: cs⟩, .sl (ds.map I64)] [] = some (encN (nW ⟨l :: ls, c :: cs⟩ ds), []) := by
  have hs3 : (MV.sl (ds.map I64)).slen = some ds.length := by simp [MV.slen]
  have w1 := fun h => CloneL_c k l ls h1 h
  have w2 := fun h => CloneC_c k c cs h2 h
  refine runZ_of mf_with (by simp) ?_
  simp only [argsL]
  generalize hL : l :: ls = L at *
  generalize hC : c :: cs = C at *
  repeat (first | apply ef_seq | (apply ef_mv; exact rfl; exact rfl) | (apply ef_len; exact rfl; exact rfl; (assumption)) | (apply ef_ldp; exact rfl; exact rfl; (exact rfl); exact rfl; (exact rfl); (exact rfl)) | (apply ef_fap; exact rfl; exact rfl) | (apply ef_box; exact rfl; exact rfl; exact rfl; exact rfl) | (apply ef_new; exact rfl) | (apply ef_build; exact rfl; (repeat (apply XVs.cons; exact rfl)); exact XVs.nil; exact rfl; exact rfl) | (apply ef_nilck; exact rfl; exact rfl; exact rfl) | (apply ef_st; exact rfl; exact rfl; exact rfl; exact rfl; exact rfl; exact rfl; (exact rfl); exact rfl) | apply ef_nil | apply seqQ.normal | apply ef_block | (apply ef_call; exact rfl; ((repeat (apply XVs.cons; exact rfl)); exact XVs.nil); (with_reducible first | exact w1 _ | exact w2 _)))
  refine ef_loopf (α := Nat × List MV) (fun p => p.1 ≤ C.length ∧ p.2 = (wiU C ds p.1).map encCr) (fun p => [(20, I64 (p.1 : Int))]) [(19, I64 (ds.length : Int)), (18, .sl (ds.map I64)), (5, .ptr 2 0 0 0), (4, .ptr 1 0 0 0)] (fun p => [⟨0, false, 2, [encN ⟨L, C⟩]⟩, ⟨0, false, 2, [.agg [.lit (.slice none 0 0), .lit (.slice none 0 0)]]⟩, ⟨0, false, 2, [.agg [.arr 3 0 L.length 0, .arr 4 0 C.length 0]]⟩, ⟨0, false, 2, L.map encLn⟩, ⟨0, false, 6, p.2⟩]) (fun p => C.length - p.1) (0, C.map encCr) [20] (fun _ => rfl) (by ((repeat (refine Hold.cons (by exact rfl) ?_)); exact Hold.nil)) (by ((repeat (refine Hold.cons (by exact rfl) ?_)); exact Hold.nil)) rfl rfl ⟨by omega, rfl⟩ (by simp; omega) ?_
  rintro ⟨i, rs⟩ ⟨hi, hrs⟩
  try simp only at hi hrs ⊢
  have hrl : rs.length = C.length := by rw [hrs]; simp [wiU_len]
  by_cases hlt : i < C.length
  · have e1 := at_map I64 ds i (by omega)
    have hat : C[i]? = some C[i] := List.getElem?_eq_getElem hlt
    have e2 : rs[0 + ((i : Nat) : Int).toNat]? = some (encCr C[i]) := by
      rw [hrs, Nat.zero_add, Int.toNat_natCast, List.getElem?_map, wiU_at C ds i i (Nat.le_refl _), hat]; rfl
    have hcd : cAt ds (i : Int) = ds[i] := by unfold cAt; rw [Int.toNat_natCast, List.getD_eq_getElem?_getD, List.getElem?_eq_getElem (by omega)]; rfl
    have HN := Lib.hid (wiU_next (ds := ds) hat)
    rw [hcd] at HN
    generalize C[i] = x at e2 HN
    generalize ds[i] = d at e1 HN
    have hls : ∀ (j i : Nat) (a b c d e f : Int), ltL j (rs.set i (.agg [I64 a, I64 b, I64 c, I64 d, I64 e, I64 f])) = true := fun j i a b c d e f => ltL_set (by rw [hrs]; exact ltL_Cr j _) rfl
    repeat (first | apply ef_seq | (apply ef_mv; exact rfl; exact rfl) | (apply ef_bin; exact rfl; exact rfl; exact rfl; (first | exact cmp_t rfl (by first | exact rfl | (simp only [cmpP]; omega)) | ((with_reducible refine bin_add (wrap_of ?_ ?_)) <;> omega))) | (apply ef_ldr; exact rfl; exact rfl; (exact rfl)) | (apply ef_ldp; exact rfl; exact rfl; (exact rfl); exact rfl; (exact rfl); (exact rfl)) | (apply ef_ias; exact rfl; exact rfl; exact rfl; (omega); assumption; exact rfl) | (apply ef_iaa; exact rfl; exact rfl; exact rfl; (omega); (omega); (exact rfl)) | (apply ef_fap; exact rfl; exact rfl) | (apply ef_st; exact rfl; exact rfl; exact rfl; exact rfl; exact rfl; exact rfl; (assumption); exact rfl) | apply ef_nil | apply seqQ.normal | apply blockQ.normal | apply ef_block | apply ef_skip | (apply ef_condt; exact rfl; (exact (rfl : true = true))))
    (refine loopQ.normal _ _ ⟨(i + 1, rs.set (0 + ((i : Nat) : Int).toNat) (encCr (setD x d))), ⟨hlt, by rw [HN.out, hrs, Nat.zero_add, Int.toNat_natCast, List.map_set]⟩, (by first | (simp only; omega) | omega), ⟨by ((repeat (refine Hold.cons (by exact rfl) ?_)); exact Hold.nil), by ((repeat (refine Hold.cons (by exact rfl) ?_)); exact Hold.nil)⟩, .inr ⟨by ((repeat (refine hdl_cons rfl (by first | rfl | (simp [MV.lt, ltL, ltL_Ln, ltL_Cr, ltL_I, hls, splice, MV.cells])) ?_)); exact hdl_nil), by (simp [hltL, ltL, MV.lt, ltL, ltL_Ln, ltL_Cr, ltL_I, hls, splice, MV.cells])⟩, by exact rfl⟩)
  · obtain rfl : i = C.length := by omega
    repeat (first | apply ef_seq | (apply ef_bin; exact rfl; exact rfl; exact rfl; (exact cmp_f rfl (by simp only [cmpP]; omega))) | (apply ef_ldp; exact rfl; exact rfl; (exact rfl); exact rfl; (exact rfl); (exact rd_2 rfl rfl)) | (apply ef_st; exact rfl; exact rfl; exact rfl; exact rfl; exact rfl; exact rfl; (exact rfl); exact rfl) | apply ef_nil | apply seqQ.normal | apply loopQ.exit | apply ef_ret | apply ef_exit | apply seqQ.exit | apply blockQ.here | (apply ef_condf; exact rfl; (exact (rfl : false = false))))
    (apply fin_cellz; (· exact rfl); (· exact ⟨1, 0, 0, 0, _, _, by exact rfl, by exact rfl, rfl, rfl, rd_2 rfl rfl⟩))
    exact frzF_agg2 rfl (frzF_arr (o := ⟨0, false, 2, L.map encLn⟩) rfl rfl (by simp [nW]) (ltL_Ln 0 _) rfl) (frzF_arr (o := ⟨0, false, 6, rs⟩) rfl rfl (by simp [nW, wiU_len]) (ltL_Cr 0 _) hrs)
theorem with0_z (k : Nat) (l : Ln) (ls : List Ln) (h1 : (l :: ls).length ≤ 1000) :
    runZ MT (orA (k + 1)) (itA (k + 1)) 4000000 42 [encN ⟨l :: ls, []⟩, .sl []] [] = some (encN ⟨l :: ls, []⟩, []) := by
  have w1 := fun h => CloneL_c k l ls h1 h
  have w2 : ∀ h, orA (k + 1) 67 [.sl (([] : List Cr).map encCr)] h = some (.sl [], h) := fun h => CloneC_e k h
  refine runZ_of mf_with (by simp) ?_
  simp only [argsL]
  generalize hL : l :: ls = L at *
  repeat (first | apply ef_seq | (apply ef_mv; exact rfl; exact rfl) | (apply ef_len; exact rfl; exact rfl; (exact rfl)) | (apply ef_ldp; exact rfl; exact rfl; (exact rfl); exact rfl; (exact rfl); (exact rfl)) | (apply ef_fap; exact rfl; exact rfl) | (apply ef_box; exact rfl; exact rfl; exact rfl; exact rfl) | (apply ef_new; exact rfl) | (apply ef_build; exact rfl; (repeat (apply XVs.cons; exact rfl)); exact XVs.nil; exact rfl; exact rfl) | (apply ef_nilck; exact rfl; exact rfl; exact rfl) | (apply ef_st; exact rfl; exact rfl; exact rfl; exact rfl; exact rfl; exact rfl; (exact rfl); exact rfl) | apply ef_nil | apply seqQ.normal | apply ef_block | (apply ef_call; exact rfl; ((repeat (apply XVs.cons; exact rfl)); exact XVs.nil); (with_reducible first | exact w1 _ | exact w2 _)))
  refine ef_loop (α := Unit) (fun _ => True) (fun _ => [(20, I64 0), (19, I64 0), (5, .ptr 2 0 0 0), (4, .ptr 1 0 0 0)]) (fun _ => [⟨0, false, 2, [encN ⟨L, []⟩]⟩, ⟨0, false, 2, [.agg [.lit (.slice none 0 0), .lit (.slice none 0 0)]]⟩, ⟨0, false, 2, [.agg [.arr 3 0 L.length 0, .sl []]]⟩, ⟨0, false, 2, L.map encLn⟩]) (fun _ => 0) () [20, 19, 5, 4] (fun _ => rfl) rfl trivial (by simp) (by ((repeat (refine Hold.cons (by exact rfl) ?_)); exact Hold.nil)) rfl ?_
  rintro ⟨⟩ -
  repeat (first | apply ef_seq | (apply ef_bin; exact rfl; exact rfl; exact rfl; (exact cmp_f rfl (by simp only [cmpP]; omega))) | (apply ef_ldp; exact rfl; exact rfl; (exact rfl); exact rfl; (exact rfl); (exact rd_2 rfl rfl)) | (apply ef_st; exact rfl; exact rfl; exact rfl; exact rfl; exact rfl; exact rfl; (exact rfl); exact rfl) | apply ef_nil | apply seqQ.normal | apply loopQ.exit | apply ef_ret | apply ef_exit | apply seqQ.exit | apply blockQ.here | (apply ef_condf; exact rfl; (exact (rfl : false = false))))
  (apply fin_cellz; (· exact rfl); (· exact ⟨1, 0, 0, 0, _, _, by exact rfl, by exact rfl, rfl, rfl, rd_2 rfl rfl⟩))
  exact frzF_agg2 rfl (frzF_arr (o := ⟨0, false, 2, L.map encLn⟩) rfl rfl (by simp) (ltL_Ln 0 _) rfl) (frzF_lt rfl)
theorem withN_z (k : Nat) (n : Nt) (h0 : 0 < n.ls.length) (h1 : n.ls.length ≤ 1000) (h2 : n.cs.length ≤ 1000) (ds : List Int) (hd : ds.length = n.cs.length) :
    runZ MT (orA (k + 1)) (itA (k + 1)) 4000000 42 [encN n, .sl (ds.map I64)] [] = some (encN (nW n ds), []) := by
  obtain ⟨ls, cs⟩ := n
  cases ls with
  | nil => simp at h0
  | cons l ls =>
    cases cs with
    | nil =>
      obtain rfl : ds = [] := List.length_eq_zero_iff.1 hd
      exact with0_z k l ls h1
    | cons c cs => exact with_z k l ls c cs h1 h2 ds hd
theorem withN_c (k : Nat) (n : Nt) (h0 : 0 < n.ls.length) (h1 : n.ls.length ≤ 1000) (h2 : n.cs.length ≤ 1000) (ds : List Int) (hd : ds.length = n.cs.length) (h : MHeap) :
    orA (k + 2) 42 [encN n, .sl (ds.map I64)] h = some (encN (nW n ds), h) := by
  have := callA (k := k + 1) (h := h) (args := [encN n, .sl (ds.map I64)]) (args' := [encN n, .sl (ds.map I64)]) (frzL_lt (by simp [ltL, MV.lt, ltL_Ln, ltL_Cr, ltL_I])) rfl (withN_z k n h0 h1 h2 ds hd) (by simp [okV, ok1, MV.lt, ltL, ltL_Ln, ltL_Cr, ltL_I]) rfl
  simpa [shV, sh1] using this
theorem wiU_get (cs : List Cr) (ds : List Int) : ∀ (N i : Nat) (hi : i < cs.length), i < N → (wiU cs ds N)[i]? = some (setD cs[i] (cAt ds i))
  | 0, i, _, h => by omega
  | N + 1, i, hi, h => by
    rw [wiU]
    by_cases e : i = N
    · subst e
      rw [List.getElem?_set_self (by rw [wiU_len]; exact hi), List.getD_eq_getElem?_getD, List.getElem?_eq_getElem hi]; rfl
    · rw [List.getElem?_set_ne (by omega)]
      exact wiU_get cs ds N i hi (by omega)
theorem nW_get (n : Nt) (ds : List Int) (i : Nat) (hi : i < n.cs.length) (hi2 : i < (nW n ds).cs.length) : (nW n ds).cs[i] = setD n.cs[i] (cAt ds i) := by
  have := wiU_get n.cs ds n.cs.length i hi hi
  rw [List.getElem?_eq_getElem (by rw [wiU_len]; exact hi)] at this
  exact Option.some.inj this
theorem nW_ok {n : Nt} (ok : OkN n) {ds : List Int} (hb : ∀ v, -10000 ≤ cAt ds v ∧ cAt ds v ≤ 10000) : OkN (nW n ds) := by
  have hlen : (nW n ds).cs.length = n.cs.length := wiU_len _ _ _
  have key : ∀ x ∈ (nW n ds).cs, ∃ (i : Nat) (h : i < n.cs.length), x = setD n.cs[i] (cAt ds i) := fun x hx => by
    obtain ⟨i, hi, rfl⟩ := List.getElem_of_mem hx
    exact ⟨i, by omega, nW_get n ds i (by omega) hi⟩
  refine ⟨ok.l1, ok.l8, by rw [hlen]; exact ok.c16, fun x hx => ?_, fun x hx => ?_, fun i j hi hj hij => ?_⟩
  · obtain ⟨i, hi, rfl⟩ := key x hx
    have o := ok.rg _ (List.getElem_mem hi)
    exact ⟨o.l0, o.l1, o.t0, o.t1, o.pa, o.pt, hb _, o.wt⟩
  · obtain ⟨i, hi, rfl⟩ := key x hx
    have hk := ok.kd n.cs[i] (List.getElem_mem hi)
    exact hk
  · rw [nW_get n ds i (by omega) hi, nW_get n ds j (by omega) hj]
    exact ok.ds i j (by omega) (by omega) hij
end Go.Proofs.Ytbdleggmdbihnaa

/- Contracts: the document's net with other differences. -/
namespace Go.Proofs.Ytbdleggmdbihnaa
open Go.RowKit
set_option linter.unusedVariables false
set_option linter.unusedSimpArgs false
theorem mf_rWith : MT.mf 21 = some ⟨25, [(.cell 4 (some 2))], (.seq (.reg [⟨none, some 2, .box 2 (.s 0)⟩, ⟨none, some 4, .new (.agg [(.lit (.slice none 0 0)), (.lit (.slice none 0 0))])⟩]) (.seq (.reg [⟨none, some 7, .ld (some 2) (.s 2)⟩, ⟨none, some 8, .call 12 [.s 7]⟩, ⟨none, some 5, .new (.agg [(.lit (.slice none 0 0)), (.lit (.slice none 0 0))])⟩, ⟨none, none, .st 2 (.s 5) (.s 8)⟩]) (.seq (.seq (.reg [⟨none, some 6, .mv (.c (.lit (.int .i64 0)))⟩]) (.block 0 (.loop [6, 1, 5, 4] (.seq (.seq (.reg [⟨none, some 9, .mv (.s 6)⟩, ⟨none, some 10, .mv (.s 1)⟩, ⟨none, some 11, .len (.s 10)⟩, ⟨none, some 12, .bin .lss (.s 9) (.s 11)⟩]) (.cond (.s 12) .skip (.exit 0))) (.seq (.block 1 (.reg [⟨none, some 15, .fa 1 (.s 5)⟩, ⟨none, some 16, .ld none (.s 15)⟩, ⟨none, some 17, .mv (.s 6)⟩, ⟨none, some 18, .mv (.s 1)⟩, ⟨none, some 19, .mv (.s 6)⟩, ⟨none, some 20, .ia 1 (.s 18) (.s 19)⟩, ⟨none, some 21, .ld none (.s 20)⟩, ⟨none, some 22, .ia 6 (.s 16) (.s 17)⟩, ⟨none, some 23, .fa 4 (.s 22)⟩, ⟨none, none, .st 1 (.s 23) (.s 21)⟩])) (.reg [⟨none, some 13, .mv (.s 6)⟩, ⟨none, some 14, .bin .add (.s 13) (.c (.lit (.int .i64 1)))⟩, ⟨none, some 6, .mv (.s 14)⟩])))))) (.seq (.reg [⟨none, some 24, .ld (some 2) (.s 5)⟩, ⟨none, none, .st 2 (.s 4) (.s 24)⟩]) .ret))))⟩ := by kernel_rfl
set_option maxHeartbeats 2000000 in
theorem rWith_z (k : Nat) (l : Ln) (ls : List Ln) (c : Cr) (cs : List Cr) (hb : BdN ⟨l :: ls, c :: cs⟩) (h2 : (c :: cs).length ≤ 1000) (ds : List Int) (hd : ds.length = (c :: cs).length) :
    runZ MT (orA (k + 1)) (itA (k + 1)) 4000000 21 [encN ⟨l :: ls, c :: cs⟩, .sl (ds.map I64)] [] = some (encN (nW ⟨l :: ls, c :: cs⟩ ds), []) := by
  have hs3 : (MV.sl (ds.map I64)).slen = some ds.length := by simp [MV.slen]
  have w1 := fun h => Copy_c k ⟨l :: ls, c :: cs⟩ hb h
  simp only [cpV, cpH] at w1
  refine runZ_of mf_rWith (by simp) ?_
  simp only [argsL]
  generalize hL : l :: ls = L at *
  generalize hC : c :: cs = C at *
  repeat (first | apply ef_seq | (apply ef_mv; exact rfl; exact rfl) | (apply ef_ldp; exact rfl; exact rfl; (exact rfl); exact rfl; (exact rfl); (exact rd_2 rfl rfl)) | (apply ef_box; exact rfl; exact rfl; exact rfl; exact rfl) | (apply ef_new; exact rfl) | (apply ef_st; exact rfl; exact rfl; exact rfl; exact rfl; exact rfl; exact rfl; (exact rfl); exact rfl) | apply ef_nil | apply seqQ.normal | apply ef_block | (apply ef_call; exact rfl; ((repeat (apply XVs.cons; exact rfl)); exact XVs.nil); (with_reducible exact w1 _)))
  refine ef_loopf (α := Nat × List MV) (fun p => p.1 ≤ C.length ∧ p.2 = (wiU C ds p.1).map encCr) (fun p => [(6, I64 (p.1 : Int))]) [(1, .sl (ds.map I64)), (5, .ptr 4 0 0 0), (4, .ptr 1 0 0 0)] (fun p => [⟨0, false, 2, [encN ⟨L, C⟩]⟩, ⟨0, false, 2, [.agg [.lit (.slice none 0 0), .lit (.slice none 0 0)]]⟩, ⟨0, false, 2, L.map encLn⟩, ⟨0, false, 6, p.2⟩, ⟨0, false, 2, [.agg [.arr 2 0 L.length 0, .arr 3 0 C.length 0]]⟩]) (fun p => C.length - p.1) (0, C.map encCr) [6] (fun _ => rfl) (by ((repeat (refine Hold.cons (by exact rfl) ?_)); exact Hold.nil)) (by ((repeat (refine Hold.cons (by exact rfl) ?_)); exact Hold.nil)) rfl rfl ⟨by omega, rfl⟩ (by simp; omega) ?_
  rintro ⟨i, rs⟩ ⟨hi, hrs⟩
  try simp only at hi hrs ⊢
  have hrl : rs.length = C.length := by rw [hrs]; simp [wiU_len]
  by_cases hlt : i < C.length
  · have e1 := at_map I64 ds i (by omega)
    have hat : C[i]? = some C[i] := List.getElem?_eq_getElem hlt
    have e2 : rs[0 + ((i : Nat) : Int).toNat]? = some (encCr C[i]) := by
      rw [hrs, Nat.zero_add, Int.toNat_natCast, List.getElem?_map, wiU_at C ds i i (Nat.le_refl _), hat]; rfl
    have hcd : cAt ds (i : Int) = ds[i] := by unfold cAt; rw [Int.toNat_natCast, List.getD_eq_getElem?_getD, List.getElem?_eq_getElem (by omega)]; rfl
    have HN := Lib.hid (wiU_next (ds := ds) hat)
    rw [hcd] at HN
    generalize C[i] = x at e2 HN
    generalize ds[i] = d at e1 HN
    have hls : ∀ (j i : Nat) (a b c d e f : Int), ltL j (rs.set i (.agg [I64 a, I64 b, I64 c, I64 d, I64 e, I64 f])) = true := fun j i a b c d e f => ltL_set (by rw [hrs]; exact ltL_Cr j _) rfl
    repeat (first | apply ef_seq | (apply ef_mv; exact rfl; exact rfl) | (apply ef_bin; exact rfl; exact rfl; exact rfl; (first | exact cmp_t rfl (by first | exact rfl | (simp only [cmpP]; omega)) | ((with_reducible refine bin_add (wrap_of ?_ ?_)) <;> omega))) | (apply ef_len; exact rfl; exact rfl; (assumption)) | (apply ef_ldr; exact rfl; exact rfl; (exact rfl)) | (apply ef_ldp; exact rfl; exact rfl; (exact rfl); exact rfl; (exact rfl); (exact rfl)) | (apply ef_ias; exact rfl; exact rfl; exact rfl; (omega); assumption; exact rfl) | (apply ef_iaa; exact rfl; exact rfl; exact rfl; (omega); (omega); (exact rfl)) | (apply ef_fap; exact rfl; exact rfl) | (apply ef_st; exact rfl; exact rfl; exact rfl; exact rfl; exact rfl; exact rfl; (assumption); exact rfl) | apply ef_nil | apply seqQ.normal | apply blockQ.normal | apply ef_block | apply ef_skip | (apply ef_condt; exact rfl; (exact (rfl : true = true))))
    (refine loopQ.normal _ _ ⟨(i + 1, rs.set (0 + ((i : Nat) : Int).toNat) (encCr (setD x d))), ⟨hlt, by rw [HN.out, hrs, Nat.zero_add, Int.toNat_natCast, List.map_set]⟩, (by first | (simp only; omega) | omega), ⟨by ((repeat (refine Hold.cons (by exact rfl) ?_)); exact Hold.nil), by ((repeat (refine Hold.cons (by exact rfl) ?_)); exact Hold.nil)⟩, .inr ⟨by ((repeat (refine hdl_cons rfl (by first | rfl | (simp [MV.lt, ltL, ltL_Ln, ltL_Cr, ltL_I, hls, splice, MV.cells])) ?_)); exact hdl_nil), by (simp [hltL, ltL, MV.lt, ltL, ltL_Ln, ltL_Cr, ltL_I, hls, splice, MV.cells])⟩, by exact rfl⟩)
  · obtain rfl : i = C.length := by omega
    repeat (first | apply ef_seq | (apply ef_mv; exact rfl; exact rfl) | (apply ef_bin; exact rfl; exact rfl; exact rfl; (exact cmp_f rfl (by simp only [cmpP]; omega))) | (apply ef_len; exact rfl; exact rfl; (assumption)) | (apply ef_ldp; exact rfl; exact rfl; (exact rfl); exact rfl; (exact rfl); (exact rd_2 rfl rfl)) | (apply ef_st; exact rfl; exact rfl; exact rfl; exact rfl; exact rfl; exact rfl; (exact rfl); exact rfl) | apply ef_nil | apply seqQ.normal | apply loopQ.exit | apply ef_ret | apply ef_exit | apply seqQ.exit | apply blockQ.here | (apply ef_condf; exact rfl; (exact (rfl : false = false))))
    (apply fin_cellz; (· exact rfl); (· exact ⟨1, 0, 0, 0, _, _, by exact rfl, by exact rfl, rfl, rfl, rd_2 rfl rfl⟩))
    exact frzF_agg2 rfl (frzF_arr (o := ⟨0, false, 2, L.map encLn⟩) rfl rfl (by simp [nW]) (ltL_Ln 0 _) rfl) (frzF_arr (o := ⟨0, false, 6, rs⟩) rfl rfl (by simp [nW, wiU_len]) (ltL_Cr 0 _) hrs)
theorem rWith0_z (k : Nat) (l : Ln) (ls : List Ln) (hb : BdN ⟨l :: ls, []⟩) :
    runZ MT (orA (k + 1)) (itA (k + 1)) 4000000 21 [encN ⟨l :: ls, []⟩, .sl []] [] = some (encN ⟨l :: ls, []⟩, []) := by
  have w1 := fun h => Copy_c k ⟨l :: ls, []⟩ hb h
  simp only [cpV, cpH] at w1
  refine runZ_of mf_rWith (by simp) ?_
  simp only [argsL]
  generalize hL : l :: ls = L at *
  repeat (first | apply ef_seq | (apply ef_mv; exact rfl; exact rfl) | (apply ef_ldp; exact rfl; exact rfl; (exact rfl); exact rfl; (exact rfl); (exact rd_2 rfl rfl)) | (apply ef_box; exact rfl; exact rfl; exact rfl; exact rfl) | (apply ef_new; exact rfl) | (apply ef_st; exact rfl; exact rfl; exact rfl; exact rfl; exact rfl; exact rfl; (exact rfl); exact rfl) | apply ef_nil | apply seqQ.normal | apply ef_block | (apply ef_call; exact rfl; ((repeat (apply XVs.cons; exact rfl)); exact XVs.nil); (with_reducible exact w1 _)))
  refine ef_loop (α := Unit) (fun _ => True) (fun _ => [(6, I64 0), (1, .sl []), (4, .ptr 1 0 0 0), (5, .ptr 3 0 0 0)]) (fun _ => [⟨0, false, 2, [encN ⟨L, []⟩]⟩, ⟨0, false, 2, [.agg [.lit (.slice none 0 0), .lit (.slice none 0 0)]]⟩, ⟨0, false, 2, L.map encLn⟩, ⟨0, false, 2, [.agg [.arr 2 0 L.length 0, .sl []]]⟩]) (fun _ => 0) () [6, 1, 4, 5] (fun _ => rfl) rfl trivial (by simp) (by ((repeat (refine Hold.cons (by exact rfl) ?_)); exact Hold.nil)) rfl ?_
  rintro ⟨⟩ -
  repeat (first | apply ef_seq | (apply ef_mv; exact rfl; exact rfl) | (apply ef_bin; exact rfl; exact rfl; exact rfl; (exact rfl)) | (apply ef_len; exact rfl; exact rfl; (exact rfl)) | (apply ef_ldp; exact rfl; exact rfl; (exact rfl); exact rfl; (exact rfl); (exact rd_2 rfl rfl)) | (apply ef_st; exact rfl; exact rfl; exact rfl; exact rfl; exact rfl; exact rfl; (exact rfl); exact rfl) | apply ef_nil | apply seqQ.normal | apply loopQ.exit | apply ef_ret | apply ef_exit | apply seqQ.exit | apply blockQ.here | (apply ef_condf; exact rfl; (exact (rfl : false = false))))
  (apply fin_cellz; (· exact rfl); (· exact ⟨1, 0, 0, 0, _, _, by exact rfl, by exact rfl, rfl, rfl, rd_2 rfl rfl⟩))
  exact frzF_agg2 rfl (frzF_arr (o := ⟨0, false, 2, L.map encLn⟩) rfl rfl (by simp) (ltL_Ln 0 _) rfl) (frzF_lt rfl)
theorem rWithN_z (k : Nat) (n : Nt) (hb : BdN n) (h0 : 0 < n.ls.length) (h2 : n.cs.length ≤ 1000) (ds : List Int) (hd : ds.length = n.cs.length) :
    runZ MT (orA (k + 1)) (itA (k + 1)) 4000000 21 [encN n, .sl (ds.map I64)] [] = some (encN (nW n ds), []) := by
  obtain ⟨ls, cs⟩ := n
  cases ls with
  | nil => simp at h0
  | cons l ls =>
    cases cs with
    | nil =>
      obtain rfl : ds = [] := List.length_eq_zero_iff.1 hd
      exact rWith0_z k l ls hb
    | cons c cs => exact rWith_z k l ls c cs hb h2 ds hd
theorem rWithN_c (k : Nat) (n : Nt) (hb : BdN n) (h0 : 0 < n.ls.length) (h2 : n.cs.length ≤ 1000) (ds : List Int) (hd : ds.length = n.cs.length) (h : MHeap) :
    orA (k + 2) 21 [encN n, .sl (ds.map I64)] h = some (encN (nW n ds), h) := by
  have := callA (k := k + 1) (h := h) (args := [encN n, .sl (ds.map I64)]) (args' := [encN n, .sl (ds.map I64)]) (frzL_lt (by simp [ltL, MV.lt, ltL_Ln, ltL_Cr, ltL_I])) rfl (rWithN_z k n hb h0 h2 ds hd) (by simp [okV, ok1, MV.lt, ltL, ltL_Ln, ltL_Cr, ltL_I]) rfl
  simpa [shV, sh1] using this
end Go.Proofs.Ytbdleggmdbihnaa

/- Calls whose answer is frozen: what a copy hands back speaks of no memory. -/
namespace Go.Proofs.Ytbdleggmdbihnaa
open Go.RowKit
set_option linter.unusedVariables false
def frzRun (run : List MV → Option (MV × MHeap)) (args : List MV) : Option (MV × MHeap) :=
  match run args with
  | some (m, news) => match frz 0 [] news 8 m with
    | some m' => some (m', [])
    | none => none
  | none => none
theorem post_frz {E : Env} {w : World} {m m' : MV} {news : MHeap} {e : Ending} {w' : World} (hr : HRel E [] w) (hf : frz 0 [] news 8 m = some m') (hP : Post E w m news e w') : Post E w m' [] e w' := by
  obtain ⟨v, E', rfl, h1, h2, h3⟩ := hP
  obtain ⟨S0, hS0⟩ : ∃ S0 : Nat → Prop, S0 = fun b => E'.S b ∨ ∃ id, E'.K id ∧ 0 < E'.cp id ∧ E'.ρ id = b := ⟨_, rfl⟩
  have hK : ∀ id, ¬ E.K id := fun id hk => absurd (hr.klt id hk) (by simp)
  have ht : E'.top = 0 := by rw [h3.top]; exact Nat.le_zero.1 hr.top
  refine ⟨v, { E' with K := fun _ => False, S := S0 }, rfl, ?_, ?_, ?_⟩
  · refine frz_okG (Es := { E' with K := fun _ => False, S := S0 }) h2 (fun m v hv hl => V.env (E := E'.res 0) (E2 := { E' with K := fun _ => False, S := S0 }) ⟨fun b hb => (by rw [hS0]; exact .inl hb : S0 b), fun id hk => absurd hk.2 (by omega), rfl⟩ (hv.res hl)) (fun b hb => ?_) (fun id hk _ _ hc0 => ?_) 8 _ _ _ h1 hf
    · show S0 b
      rw [hS0]; exact .inl hb
    · show S0 (E'.ρ id)
      rw [hS0]; exact .inr ⟨id, hk, hc0, rfl⟩
  · refine ⟨fun _ hk => hk.elim, by rw [show ({ E' with K := fun _ => False, S := S0 } : Env).top = E'.top from rfl, ht]; exact Nat.zero_le _, fun _ hk => hk.elim, fun _ _ hk => hk.elim, fun _ hk => hk.elim, fun b hb => ?_⟩
    have hb : S0 b := hb
    rw [hS0] at hb
    rcases hb with hb | ⟨id, hk, hc, rfl⟩
    · exact h2.slt b hb
    · exact h2.lt hk hc
  · refine ⟨h3.os, h3.tape, h3.output, h3.size, h3.keep, fun b hb => (by rw [hS0]; exact .inl (h3.S b hb) : S0 b), fun id hk => absurd hk (hK id), fun id hk => absurd hk (hK id), fun id hk => absurd hk (hK id), fun id hk => hk.elim, h3.top, fun id hk => hk.elim, h3.yl, fun b hb => ?_⟩
    have hb : S0 b := hb
    rw [hS0] at hb
    rcases hb with hb | ⟨id, hk, hc, rfl⟩
    · exact h3.srcS b hb
    · rcases h3.src id hk hc with ⟨q, _⟩ | q
      · exact absurd q (hK id)
      · exact .inr (.inr q)
noncomputable def orC (L : List Nat) (k : Nat) : Oracle := fun f args h =>
  if L.contains f then frzCall (frzRun (tabZ MT tA (orA k) (itA k) 4000000 f)) args h else orA (k + 1) f args h
theorem orC_ok (L : List Nat) (k : Nat) : SoundO Try.prog (orC L k) ∧ AppO (orC L k) := by
  have hz := fun k => orZ_ok (N := 4000000) (P := Try.prog) (by kernel_rfl) (tabOf_ok Try.prog) tA_ok tI_ok k
  have hI : SoundI Try.prog (itA k) := orI_ok (by kernel_rfl) (tabOf_ok Try.prog) tI_ok (hz k).1 (hz k).2
  have hrun : ∀ f args' m news, frzRun (tabZ MT tA (orA k) (itA k) 4000000 f) args' = some (m, news) → hasBody Try.prog f = true ∧ ∀ E w vs, HRel E [] w → Vs E w args' vs → Calls Try.prog f vs.toArray w (Post E w m news) := fun f args' m news he => by
    unfold frzRun at he
    split at he
    case h_2 => cases he
    rename_i m0 n0 h0
    split at he
    case h_2 => cases he
    rename_i m1 h1
    cases he
    obtain ⟨hb, hc⟩ := tabZ_ok (by kernel_rfl) (tabOf_ok Try.prog) tA_ok (hz k).1 (hz k).2 hI h0
    exact ⟨hb, fun E w vs hr hv => (hc E w vs hr hv).mono fun e w' hP => post_frz hr h1 hP⟩
  refine ⟨⟨fun f args h m h' he => ?_, tA_ok.2⟩, fun f args h m h' he => ?_⟩
  · unfold orC at he
    split at he
    · have hb : hasBody Try.prog f = true := by
        unfold frzCall at he
        split at he
        case h_2 => cases he
        split at he
        case h_2 => cases he
        rename_i hr
        exact (hrun _ _ _ _ hr).1
      exact ⟨hb, fun E w vs hr hv => frzCall_ok (fun args' m news hq => (hrun f args' m news hq).2) he hr hv⟩
    · exact (hz (k + 1)).1.1 f args h m h' he
  · unfold orC at he
    split at he
    · exact frzCall_app he
    · exact (hz (k + 1)).2 f args h m h' he
theorem orC_of {L : List Nat} {k f : Nat} {args : List MV} {h : MHeap} {r : MV × MHeap} (hf : L.contains f = false) (h1 : orA (k + 1) f args h = some r) : orC L k f args h = some r := by
  unfold orC
  rw [hf]
  exact h1
theorem orC_frz {L : List Nat} {k f : Nat} {args args' : List MV} {h : MHeap} {m m' : MV} {news : MHeap} (hf : L.contains f = true) (h1 : args.mapM (frz 0 [] h 8) = some args') (hT : tA f args' [] = none) (h2 : runZ MT (orA k) (itA k) 4000000 f args' [] = some (m, news))
    (h3 : frz 0 [] news 8 m = some m') (h4 : okV (ltL 0 args) m' = true) (h5 : shV h.length m' = m') : orC L k f args h = some (m', h) := by
  unfold orC
  rw [hf]
  have e : tabZ MT tA (orA k) (itA k) 4000000 f args' = some (m, news) := by unfold tabZ; rw [hT]; exact h2
  simp only [if_true, frzCall, h1, frzRun, e, h3, h4, okH, List.all_nil, Bool.and_self, h5, List.append_nil]
end Go.Proofs.Ytbdleggmdbihnaa

/- Small helpers about memory. -/
namespace Go.Proofs.Ytbdleggmdbihnaa
open Go.RowKit
set_option linter.unusedVariables false
structure Bx (p : Prop) : Prop where
  out : p
end Go.Proofs.Ytbdleggmdbihnaa

/- Copies of nets that are frozen; whether a slice has a number. -/
namespace Go.Proofs.Ytbdleggmdbihnaa
open Go.RowKit
set_option linter.unusedVariables false
set_option linter.unusedSimpArgs false
abbrev LZ : List Nat := [12]
theorem frz_cp (ls : List Ln) (cs : List Cr) : frz 0 [] (cpH ls cs) 8 (cpV 0 ls cs) = some (encN ⟨ls, cs⟩) := by
  cases ls with
  | nil =>
    cases cs with
    | nil => rfl
    | cons c cs => exact frzF_agg2 rfl (frzF_lt rfl) (frzF_arr (o := ⟨0, false, 6, (c :: cs).map encCr⟩) rfl rfl (by simp) (ltL_Cr 0 _) rfl)
  | cons l ls =>
    cases cs with
    | nil => exact frzF_agg2 rfl (frzF_arr (o := ⟨0, false, 2, (l :: ls).map encLn⟩) rfl rfl (by simp) (ltL_Ln 0 _) rfl) (frzF_lt rfl)
    | cons c cs => exact frzF_agg2 rfl (frzF_arr (o := ⟨0, false, 2, (l :: ls).map encLn⟩) rfl rfl (by simp) (ltL_Ln 0 _) rfl) (frzF_arr (o := ⟨0, false, 6, (c :: cs).map encCr⟩) rfl rfl (by simp) (ltL_Cr 0 _) rfl)
theorem Copy_cc (k : Nat) (n : Nt) (hb : BdN n) (h : MHeap) : orC LZ k 12 [encN n] h = some (encN n, h) :=
  orC_frz (args' := [encN n]) rfl (frzL_lt (by simp [ltL, MV.lt, ltL_Ln, ltL_Cr])) rfl (Copy_z k n hb) (frz_cp n.ls n.cs) (by simp [okV, ok1, MV.lt, ltL, ltL_Ln, ltL_Cr]) rfl
end Go.Proofs.Ytbdleggmdbihnaa

/- Contracts of the document: residuals and the cost; corrections of which a set of lines is moved. -/
namespace Go.Proofs.Ytbdleggmdbihnaa
open Go.RowKit
set_option linter.unusedVariables false
set_option linter.unusedSimpArgs false
structure OkB (m : Nat) (c : List Int) : Prop where
  len : c.length = m
  bd : ∀ v, -40000000000 ≤ cAt c v ∧ cAt c v ≤ 40000000000
theorem resL_bd {n : Nt} (ok : OkN n) {c : List Int} (hc : OkB n.ls.length c) (v : Int) : -1000000000000 ≤ cAt (resL n c) v ∧ cAt (resL n c) v ≤ 1000000000000 := by
  unfold cAt resL
  rw [List.getD_eq_getElem?_getD, List.getElem?_map]
  cases hh : n.cs[v.toNat]? with
  | none => simp
  | some x =>
    have hx := (ok.rg x (List.mem_of_getElem? hh)).df
    have h1 := hc.bd x.ln
    have h2 := hc.bd x.ti
    simp only [Option.map_some, Option.getD_some, resI]
    omega
def costL (n : Nt) (c : List Int) : Int := wsU n.cs (resL n c) n.cs.length
theorem costL_P (n : Nt) (c : List Int) : costL n c = costP n.cs (cAt c) n.cs.length := by
  have : ∀ i, i ≤ n.cs.length → wsU n.cs (resL n c) i = costP n.cs (cAt c) i := fun i => by
    induction i with
    | zero => intro _; rfl
    | succ i ih =>
      intro hi
      have e : cAt (resL n c) i = resP (n.cs.getD i default) (cAt c) := by
        show (List.map _ n.cs).getD ((i : Nat) : Int).toNat 0 = _
        rw [List.getD_eq_getElem?_getD, Int.toNat_natCast, List.getElem?_map, List.getElem?_eq_getElem (by omega), List.getD_eq_getElem?_getD, List.getElem?_eq_getElem (by omega)]; rfl
      rw [wsU, costP, ih (by omega), e]
  exact this _ (Nat.le_refl _)
theorem mf_rRes : MT.mf 91 = some ⟨38, [(.tmp 4)], (.seq (.reg [⟨none, some 2, .box 2 (.s 0)⟩, ⟨none, some 4, .nil0 1⟩]) (.seq (.reg [⟨none, some 5, .nil0 1⟩]) (.seq (.seq (.reg [⟨none, some 6, .mv (.c (.lit (.int .i64 0)))⟩]) (.block 0 (.loop [6, 2, 5, 1] (.seq (.seq (.reg [⟨none, some 8, .mv (.s 6)⟩, ⟨none, some 9, .fa 1 (.s 2)⟩, ⟨none, some 10, .ld none (.s 9)⟩, ⟨none, some 11, .len (.s 10)⟩, ⟨none, some 12, .bin .lss (.s 8) (.s 11)⟩]) (.cond (.s 12) .skip (.exit 0))) (.seq (.block 1 (.seq (.reg [⟨none, some 15, .fa 1 (.s 2)⟩, ⟨none, some 16, .ld none (.s 15)⟩, ⟨none, some 17, .mv (.s 6)⟩, ⟨none, some 18, .ia 6 (.s 16) (.s 17)⟩, ⟨none, some 19, .ld (some 6) (.s 18)⟩, ⟨none, some 7, .new (.agg [(.lit (.int .i64 0)), (.lit (.int .i64 0)), (.lit (.int .i64 0)), (.lit (.int .i64 0)), (.lit (.int .i64 0)), (.lit (.int .i64 0))])⟩, ⟨none, none, .st 6 (.s 7) (.s 19)⟩]) (.reg [⟨none, some 20, .mv (.s 5)⟩, ⟨none, some 21, .fa 4 (.s 7)⟩, ⟨none, some 22, .ld none (.s 21)⟩, ⟨none, some 23, .mv (.s 1)⟩, ⟨none, some 24, .fa 0 (.s 7)⟩, ⟨none, some 25, .ld none (.s 24)⟩, ⟨none, some 26, .ia 1 (.s 23) (.s 25)⟩, ⟨none, some 27, .ld none (.s 26)⟩, ⟨none, some 28, .bin .sub (.s 22) (.s 27)⟩, ⟨none, some 29, .mv (.s 1)⟩, ⟨none, some 30, .fa 1 (.s 7)⟩, ⟨none, some 31, .ld none (.s 30)⟩, ⟨none, some 32, .ia 1 (.s 29) (.s 31)⟩, ⟨none, some 33, .ld none (.s 32)⟩, ⟨none, some 34, .bin .add (.s 28) (.s 33)⟩, ⟨none, some 35, .bsl (.lit (.int .i64 0)) 1 1 [(0, (.s 34))]⟩, ⟨none, some 36, .app 1 (.s 20) (.s 35)⟩, ⟨none, some 5, .mv (.s 36)⟩]))) (.reg [⟨none, some 13, .mv (.s 6)⟩, ⟨none, some 14, .bin .add (.s 13) (.c (.lit (.int .i64 1)))⟩, ⟨none, some 6, .mv (.s 14)⟩])))))) (.seq (.reg [⟨none, some 37, .mv (.s 5)⟩, ⟨none, some 4, .mv (.s 37)⟩]) .ret))))⟩ := by kernel_rfl
set_option maxHeartbeats 1000000 in
theorem rRes_z (k : Nat) (n : Nt) (ok : OkN n) (c : List Int) (hc : OkB n.ls.length c) :
    runZ MT (orA k) (itA k) 4000000 91 [encN n, .sl (c.map I64)] [] = some (.arr 0 0 n.cs.length 0, [⟨0, decide (n.cs.length = 0), 1, (resL n c).map I64⟩]) := by
  have hs2 : (MV.sl (n.cs.map encCr)).slen = some n.cs.length := by simp [MV.slen]
  have hrl : (resL n c).length = n.cs.length := by simp [resL]
  have c16 := ok.c16
  refine runZ_of mf_rRes (by simp) ?_
  simp only [argsL]
  repeat (first | apply ef_seq | (apply ef_mv; exact rfl; exact rfl) | (apply ef_box; exact rfl; exact rfl; exact rfl; exact rfl) | (apply ef_nil0; exact rfl) | apply ef_nil | apply seqQ.normal | apply ef_block)
  refine ef_loopf (α := Nat) (fun i => i ≤ n.cs.length) (fun i => [(6, I64 (i : Int)), (5, .arr 2 0 i i)]) [(2, .ptr 0 0 0 0), (1, .sl (c.map I64))] (fun i => [⟨0, false, 2, [encN n]⟩, ⟨0, true, 1, []⟩, rowO (resL n c) i]) (fun i => n.cs.length - i) 0 [6, 5] (fun _ => rfl) (by ((repeat (refine Hold.cons (by exact rfl) ?_)); exact Hold.nil)) (by ((repeat (refine Hold.cons (by exact rfl) ?_)); exact Hold.nil)) rfl rfl (by omega) (by simp; omega) ?_
  intro i hi
  try simp only at hi ⊢
  by_cases hlt : i < n.cs.length
  · have e1 := at_map encCr n.cs i hlt
    have hxx := ok.rg n.cs[i] (List.getElem_mem hlt)
    have HT := row_next (xs := resL n c) (i := i) (z := resI c n.cs[i]) (by simp [resL, hlt])
    have hri : resI c n.cs[i] = n.cs[i].df - cAt c n.cs[i].ln + cAt c n.cs[i].ti := rfl
    generalize n.cs[i] = x at e1 hxx HT hri
    have f1 := cAt_at hc.len hxx.l0 hxx.l1
    have f2 := cAt_at hc.len hxx.t0 hxx.t1
    have g1 := hc.bd x.ln
    have g2 := hc.bd x.ti
    have g3 := hxx.df
    have g4 := hxx.l0
    have g5 := hxx.t0
    have g6 := hxx.l1
    have g7 := hxx.t1
    have hcl := hc.len
    generalize cAt c x.ln = u at *
    generalize cAt c x.ti = w at *
    rw [hri] at HT
    repeat (first | apply ef_seq | (apply ef_mv; exact rfl; exact rfl) | (apply ef_bin; exact rfl; exact rfl; exact rfl; (first | exact cmp_t rfl (by first | exact rfl | (simp only [cmpP]; omega)) | ((with_reducible refine bin_add (wrap_of ?_ ?_)) <;> omega) | ((with_reducible refine bin_sub (wrap_of ?_ ?_)) <;> omega))) | (apply ef_len; exact rfl; exact rfl; (assumption)) | (apply ef_ldr; exact rfl; exact rfl; (first | exact rd_6 rfl rfl rfl rfl rfl rfl | exact rfl)) | (apply ef_ldp; exact rfl; exact rfl; (exact rfl); exact rfl; (exact rfl); (exact rfl)) | (apply ef_ias; exact rfl; exact rfl; exact rfl; (omega); assumption; exact rfl) | (apply ef_fap; exact rfl; exact rfl) | (apply ef_new; exact rfl) | (apply ef_bsl; exact rfl; (repeat (apply XVs.cons; exact rfl)); exact XVs.nil; exact rfl) | (apply ef_st; exact rfl; exact rfl; exact rfl; exact rfl; exact rfl; exact rfl; (exact rfl); exact rfl) | apply ef_nil | apply seqQ.normal | apply ef_block | apply ef_skip | (apply ef_condt; exact rfl; (exact (rfl : true = true))))
    (apply ef_app; (· exact rfl); (· exact rfl); (· exact rfl); (· exact rfl); (· exact rfl); (· exact rfl); (· (simp [rowL_len (xs := resL n c) (i := i) (by omega)])); (· exact rfl); (· (simp [rowL_len (xs := resL n c) (i := i) (by omega)]; omega)); (· (simp [MV.sOk, MV.cells, MV.one, Value.oneCell'])); (· exact rfl))
    repeat (first | (apply ef_mv; exact rfl; exact rfl) | (apply ef_bin; exact rfl; exact rfl; exact rfl; (((with_reducible refine bin_add (wrap_of ?_ ?_)) <;> omega))) | apply ef_nil | apply seqQ.normal | apply blockQ.normal)
    (refine loopQ.normal _ _ ⟨i + 1, hlt, (by first | (simp only; omega) | omega), ⟨by ((repeat (refine Hold.cons (by exact rfl) ?_)); exact Hold.nil), by ((repeat (refine Hold.cons (by exact rfl) ?_)); exact Hold.nil)⟩, .inr ⟨by ((repeat (refine hdl_cons rfl (by first | rfl | (simp [MV.lt, ltL, ltL_Ln, ltL_Cr, ltL_I, ltL_row, ltL_app2])) ?_)); exact hdl_nil), by (simp [hltL, ltL, MV.lt, ltL, ltL_Ln, ltL_Cr, ltL_I, ltL_row, ltL_app2])⟩, by (show _ = ([⟨0, false, 2, [encN n]⟩, ⟨0, true, 1, []⟩, (⟨i + 1, decide (i + 1 = 0), 1, rowL (resL n c) (i + 1)⟩ : MObj)] : MHeap); rw [HT]; exact rfl)⟩)
  · obtain rfl : i = n.cs.length := by omega
    have hra := row_all (resL n c)
    rw [hrl] at hra
    repeat (first | apply ef_seq | (apply ef_mv; exact rfl; exact rfl) | (apply ef_bin; exact rfl; exact rfl; exact rfl; (exact cmp_f rfl (by simp only [cmpP]; omega))) | (apply ef_len; exact rfl; exact rfl; (assumption)) | (apply ef_ldp; exact rfl; exact rfl; (exact rfl); exact rfl; (exact rfl); (exact rfl)) | (apply ef_fap; exact rfl; exact rfl) | apply ef_nil | apply seqQ.normal | apply loopQ.exit | apply ef_ret | apply ef_exit | apply seqQ.exit | apply blockQ.here | (apply ef_condf; exact rfl; (exact (rfl : false = false))))
    (apply fin_arr; (· exact rfl); (· exact rfl); (· exact rfl); (· exact rfl); (· (show 0 + n.cs.length ≤ (rowL (resL n c) n.cs.length).length; rw [hra]; simp [hrl])); (· (exact ltL_row 0 _ _)); (· (show ((rowL (resL n c) n.cs.length).drop 0).take n.cs.length = _; rw [hra, List.drop_zero, List.take_of_length_le (by simp [hrl])])); (· exact rfl); (· exact rfl); (· rfl))
theorem rRes_c (k : Nat) (n : Nt) (ok : OkN n) (c : List Int) (hc : OkB n.ls.length c) (h : MHeap) {v : MV} (hv : frz 0 [] h 8 v = some (.sl (c.map I64))) :
    orA (k + 1) 91 [encN n, v] h = some (.arr h.length 0 n.cs.length 0, h ++ [⟨0, decide (n.cs.length = 0), 1, (resL n c).map I64⟩]) := by
  have := callA (k := k) (h := h) (args := [encN n, v]) (args' := [encN n, .sl (c.map I64)]) (by simp [List.mapM_cons, hv, frz_lt (ltL_N n 0)]) rfl (rRes_z k n ok c hc) rfl (by simp [okH, ltL_I, pureL_I])
  simpa [shV, sh1] using this
theorem mf_rCost : MT.mf 76 = some ⟨10, [(.tmp 4)], (.seq (.reg [⟨none, some 2, .box 2 (.s 0)⟩, ⟨none, some 4, .mv (.c (.lit (.int .i64 0)))⟩]) (.seq (.reg [⟨none, some 5, .ld (some 2) (.s 2)⟩, ⟨none, some 6, .ld (some 2) (.s 2)⟩, ⟨none, some 7, .mv (.s 1)⟩, ⟨none, some 8, .call 91 [.s 6, .s 7]⟩, ⟨none, some 9, .call 17 [.s 5, .s 8]⟩, ⟨none, some 4, .mv (.s 9)⟩]) .ret))⟩ := by kernel_rfl
theorem rCost_c (k : Nat) (n : Nt) (ok : OkN n) (c : List Int) (hc : OkB n.ls.length c) (h : MHeap) {v : MV} (hv : frz 0 [] h 8 v = some (.sl (c.map I64))) :
    orA (k + 3) 76 [encN n, v] h = some (I64 (costL n c), h) := by
  refine callL (args' := [encN n, .sl (c.map I64)]) (by simp [List.mapM_cons, hv, frz_lt (ltL_N n 0)]) rfl (runZ_of mf_rCost (by simp) ?_)
  simp only [argsL]
  have hrl : (resL n c).length = n.cs.length := by simp [resL]
  have w1 := fun h => rRes_c (k + 1) n ok c hc h (v := .sl (c.map I64)) (frz_sl (ltL_I 0 c))
  have w2 := fun h v hv => SumOf_c k n ok (resL n c) hrl (resL_bd ok hc) h (v := v) hv
  unfold costL
  generalize wsU n.cs (resL n c) n.cs.length = ws at *
  repeat (first | apply ef_seq | (apply ef_mv; exact rfl; exact rfl) | (apply ef_ldp; exact rfl; exact rfl; (exact rfl); exact rfl; (exact rfl); (exact rd_2 rfl rfl)) | (apply ef_box; exact rfl; exact rfl; exact rfl; exact rfl) | apply ef_nil | apply seqQ.normal | (apply ef_call; exact rfl; ((repeat (apply XVs.cons; exact rfl)); exact XVs.nil); (with_reducible exact w1 _)))
  (apply ef_call; (· exact rfl); (· ((repeat (apply XVs.cons; exact rfl)); exact XVs.nil)); · exact w2 _ _ (frz_row (o := ⟨0, decide (n.cs.length = 0), 1, (resL n c).map I64⟩) rfl rfl (by simp [hrl]) (ltL_I 0 _) rfl))
  repeat (first | (apply ef_mv; exact rfl; exact rfl) | apply ef_nil | apply seqQ.normal | apply ef_ret)
  (refine fin1 rfl (by exact rfl) rfl ?_)
  rfl
theorem shr_ok (s i : Nat) (hi : i ≤ 60) : shfI .shr .i64 (s : Int) (i : Int) = some (.int .i64 ((s / 2 ^ i : Nat) : Int)) := by
  have h1 : ¬ ((i : Int) < 0) := by omega
  have h2 : min ((i : Int)).toNat IntKind.i64.bits = i := by simp [IntKind.bits]; omega
  unfold shfI
  rw [if_neg h1]
  simp only [h2]
  rw [Int.fdiv_eq_ediv_of_nonneg _ (by exact Int.le_of_lt (Int.pow_pos (by omega)))]
  norm_cast
theorem and_ok (s i : Nat) (hs : s < 2 ^ 60) : binI .and .i64 ((s / 2 ^ i : Nat) : Int) 1 = some (.int .i64 (if s.testBit i then 1 else 0)) := by
  have h1 : s / 2 ^ i < 2 ^ 60 := Nat.lt_of_le_of_lt (Nat.div_le_self _ _) hs
  rw [Nat.testBit_eq_decide_div_mod_eq]
  generalize s / 2 ^ i = q at *
  have h2 : (BitVec.ofInt IntKind.i64.bits (q : Int) &&& BitVec.ofInt IntKind.i64.bits 1).toNat = q % 2 := by
    show (BitVec.ofInt 64 (q : Int) &&& BitVec.ofInt 64 1).toNat = q % 2
    rw [BitVec.toNat_and, BitVec.toNat_ofInt, BitVec.toNat_ofInt]
    have e1 : ((q : Int) % ((2 ^ 64 : Nat) : Int)).toNat = q := by omega
    have e2 : ((1 : Int) % ((2 ^ 64 : Nat) : Int)).toNat = 1 := by decide
    rw [e1, e2, Nat.and_one_is_mod]
  simp only [binI, h2]
  rcases Nat.mod_two_eq_zero_or_one q with h | h <;> rw [h] <;> rfl
theorem shl_ok (m : Nat) (h : m ≤ 8) : shfI .shl .i64 1 (m : Int) = some (.int .i64 ((2 ^ m : Nat) : Int)) := by
  obtain rfl | rfl | rfl | rfl | rfl | rfl | rfl | rfl | rfl : m = 0 ∨ m = 1 ∨ m = 2 ∨ m = 3 ∨ m = 4 ∨ m = 5 ∨ m = 6 ∨ m = 7 ∨ m = 8 := by omega
  all_goals rfl
end Go.Proofs.Ytbdleggmdbihnaa

/- Contracts of the document: corrections of which a set of lines is moved. -/
namespace Go.Proofs.Ytbdleggmdbihnaa
open Go.RowKit
set_option linter.unusedVariables false
set_option linter.unusedSimpArgs false
def mvU (c : List Int) (s : Nat) (b : Int) : Nat → List Int
  | 0 => c
  | i + 1 => if 1 ≤ i ∧ s.testBit i = true then (mvU c s b i).set i (cAt c i + b) else mvU c s b i
theorem mvU_len (c : List Int) (s : Nat) (b : Int) : ∀ i, (mvU c s b i).length = c.length
  | 0 => rfl
  | i + 1 => by
    rw [mvU]
    split
    · rw [List.length_set, mvU_len c s b i]
    · exact mvU_len c s b i
theorem mvU_at (c : List Int) (s : Nat) (b : Int) : ∀ i, i ≤ c.length → ∀ v : Nat, cAt (mvU c s b i) v = if v < i ∧ 1 ≤ v ∧ s.testBit v = true then cAt c v + b else cAt c v
  | 0, _, v => by rw [if_neg (by omega)]; rfl
  | i + 1, hi, v => by
    have ih := mvU_at c s b i (by omega) v
    rw [mvU]
    by_cases h : 1 ≤ i ∧ s.testBit i = true
    · rw [if_pos h]
      rw [cAt_setN (by rw [mvU_len]; omega)]
      by_cases e : v = i
      · subst e
        rw [if_pos rfl, if_pos ⟨by omega, h⟩]
      · rw [if_neg e, ih]
        by_cases h2 : v < i ∧ 1 ≤ v ∧ s.testBit v = true
        · rw [if_pos h2, if_pos ⟨by omega, h2.2⟩]
        · rw [if_neg h2, if_neg (fun h3 => h2 ⟨by omega, h3.2⟩)]
    · rw [if_neg h, ih]
      by_cases e : v = i
      · subst e
        rw [if_neg (by omega), if_neg (fun h3 => h h3.2)]
      · by_cases h2 : v < i ∧ 1 ≤ v ∧ s.testBit v = true
        · rw [if_pos h2, if_pos ⟨by omega, h2.2⟩]
        · rw [if_neg h2, if_neg (fun h3 => h2 ⟨by omega, h3.2⟩)]
theorem mf_moved : MT.mf 90 = some ⟨32, [(.tmp 6)], (.seq (.reg [⟨none, some 6, .nil0 1⟩]) (.seq (.reg [⟨none, some 9, .mv (.s 0)⟩, ⟨none, some 10, .call 13 [.s 9]⟩, ⟨none, some 7, .mv (.s 10)⟩]) (.seq (.seq (.reg [⟨none, some 8, .mv (.c (.lit (.int .i64 1)))⟩]) (.block 0 (.loop [8, 0, 1, 7, 2] (.seq (.seq (.reg [⟨none, some 11, .mv (.s 8)⟩, ⟨none, some 12, .mv (.s 0)⟩, ⟨none, some 13, .len (.s 12)⟩, ⟨none, some 14, .bin .lss (.s 11) (.s 13)⟩]) (.cond (.s 14) .skip (.exit 0))) (.seq (.block 1 (.seq (.reg [⟨none, some 17, .mv (.s 1)⟩, ⟨none, some 18, .mv (.s 8)⟩, ⟨none, some 19, .shf .shr (.s 17) (.s 18)⟩, ⟨none, some 20, .bin .and (.s 19) (.c (.lit (.int .i64 1)))⟩, ⟨none, some 21, .bin .eql (.s 20) (.c (.lit (.int .i64 1)))⟩]) (.cond (.s 21) (.reg [⟨none, some 22, .mv (.s 7)⟩, ⟨none, some 23, .mv (.s 8)⟩, ⟨none, some 24, .mv (.s 7)⟩, ⟨none, some 25, .mv (.s 8)⟩, ⟨none, some 26, .ia 1 (.s 24) (.s 25)⟩, ⟨none, some 27, .ld none (.s 26)⟩, ⟨none, some 28, .mv (.s 2)⟩, ⟨none, some 29, .bin .add (.s 27) (.s 28)⟩, ⟨none, some 30, .ia 1 (.s 22) (.s 23)⟩, ⟨none, none, .st 1 (.s 30) (.s 29)⟩]) .skip))) (.reg [⟨none, some 15, .mv (.s 8)⟩, ⟨none, some 16, .bin .add (.s 15) (.c (.lit (.int .i64 1)))⟩, ⟨none, some 8, .mv (.s 16)⟩])))))) (.seq (.reg [⟨none, some 31, .mv (.s 7)⟩, ⟨none, some 6, .mv (.s 31)⟩]) .ret))))⟩ := by kernel_rfl
set_option maxHeartbeats 1000000 in
theorem moved_z (k : Nat) (c : List Int) (s : Nat) (b : Int) (h1 : 0 < c.length) (h8 : c.length ≤ 8) (hs : s < 2 ^ 60) (hcb : ∀ v, -40000000000 ≤ cAt c v ∧ cAt c v ≤ 40000000000) (hb : -40000000000 ≤ b ∧ b ≤ 40000000000) :
    runZ MT (orA (k + 1)) (itA (k + 1)) 4000000 90 [.sl (c.map I64), I64 (s : Int), I64 b] [] = some (.arr 0 0 c.length 0, [⟨0, false, 1, (mvU c s b c.length).map I64⟩]) := by
  have hs3 : (MV.sl (c.map I64)).slen = some c.length := by simp [MV.slen]
  have w1 := fun h => bCopyInts_c k c h (v := .sl (c.map I64)) (by omega) (frz_sl (ltL_I 0 c))
  refine runZ_of mf_moved (by simp) ?_
  simp only [argsL]
  repeat (first | apply ef_seq | (apply ef_mv; exact rfl; exact rfl) | (apply ef_nil0; exact rfl) | apply ef_nil | apply seqQ.normal | apply ef_block | (apply ef_call; exact rfl; ((repeat (apply XVs.cons; exact rfl)); exact XVs.nil); (with_reducible exact w1 _)))
  refine ef_loopf (α := Nat × List MV) (fun p => (1 ≤ p.1 ∧ p.1 ≤ c.length) ∧ p.2 = (mvU c s b p.1).map I64) (fun p => [(8, I64 (p.1 : Int))]) [(0, .sl (c.map I64)), (1, I64 (s : Int)), (7, .arr 1 0 c.length 0), (2, I64 b)] (fun p => [⟨0, true, 1, []⟩, ⟨0, false, 1, p.2⟩]) (fun p => c.length - p.1) (1, c.map I64) [8] (fun _ => rfl) (by ((repeat (refine Hold.cons (by exact rfl) ?_)); exact Hold.nil)) (by ((repeat (refine Hold.cons (by exact rfl) ?_)); exact Hold.nil)) rfl rfl ⟨by simp; omega, rfl⟩ (by simp; omega) ?_
  rintro ⟨i, rs⟩ ⟨⟨hi0, hi⟩, hrs⟩
  try simp only at hi0 hi hrs ⊢
  have hrl : rs.length = c.length := by rw [hrs]; simp [mvU_len]
  by_cases hlt : i < c.length
  · have hsh := shr_ok s i (by omega)
    have hand := and_ok s i hs
    have e2 : rs[0 + ((i : Nat) : Int).toNat]? = some (I64 (cAt c i)) := by
      have hm := mvU_at c s b i (by omega) i
      rw [if_neg (by omega)] at hm
      rw [hrs, Nat.zero_add, cAt_at (m := c.length) (mvU_len c s b i) (by omega) (by omega), hm]
    have hci := hcb i
    have HN := Lib.hid (show mvU c s b (i + 1) = if 1 ≤ i ∧ s.testBit i = true then (mvU c s b i).set i (cAt c i + b) else mvU c s b i from rfl)
    generalize cAt c (i : Int) = z at e2 hci HN
    generalize s / 2 ^ i = q at *
    cases ht : s.testBit i
    · rw [ht] at hand HN
      simp only [Bool.false_eq_true, if_false] at hand
      repeat (first | apply ef_seq | (apply ef_mv; exact rfl; exact rfl) | (apply ef_bin; exact rfl; exact rfl; exact rfl; (first | assumption | exact cmp_t rfl (by first | exact rfl | (simp only [cmpP]; omega)) | exact cmp_f rfl (by simp only [cmpP]; omega) | ((with_reducible refine bin_add (wrap_of ?_ ?_)) <;> omega))) | (apply ef_len; exact rfl; exact rfl; (assumption)) | (apply ef_shf; exact rfl; exact rfl; exact rfl; (assumption)) | apply ef_nil | apply seqQ.normal | apply blockQ.normal | apply ef_block | apply ef_skip | (apply ef_condt; exact rfl; (exact (rfl : true = true))) | (apply ef_condf; exact rfl; (exact (rfl : false = false))))
      (refine loopQ.normal _ _ ⟨(i + 1, rs), ⟨⟨by omega, hlt⟩, by rw [HN.out, if_neg (by simp)]; exact hrs⟩, (by first | (simp only; omega) | omega), ⟨by ((repeat (refine Hold.cons (by exact rfl) ?_)); exact Hold.nil), by ((repeat (refine Hold.cons (by exact rfl) ?_)); exact Hold.nil)⟩, .inl (Nat.le_refl _), (by first | exact List.take_length | exact rfl | exact takeF rfl rfl)⟩)
    · rw [ht] at hand HN
      simp only [if_true] at hand
      repeat (first | apply ef_seq | (apply ef_mv; exact rfl; exact rfl) | (apply ef_bin; exact rfl; exact rfl; exact rfl; (first | assumption | exact cmp_t rfl (by first | exact rfl | (simp only [cmpP]; omega)) | ((with_reducible refine bin_add (wrap_of ?_ ?_)) <;> omega))) | (apply ef_len; exact rfl; exact rfl; (assumption)) | (apply ef_ldp; exact rfl; exact rfl; (exact rfl); exact rfl; (assumption); (exact rfl)) | (apply ef_iaa; exact rfl; exact rfl; exact rfl; (omega); (omega); (exact rfl)) | (apply ef_shf; exact rfl; exact rfl; exact rfl; (assumption)) | (apply ef_st; exact rfl; exact rfl; exact rfl; exact rfl; exact rfl; exact rfl; (assumption); exact rfl) | apply ef_nil | apply seqQ.normal | apply blockQ.normal | apply ef_block | apply ef_skip | (apply ef_condt; exact rfl; (exact (rfl : true = true))))
      (refine loopQ.normal _ _ ⟨(i + 1, rs.set (0 + ((i : Nat) : Int).toNat) (I64 (z + b))), ⟨⟨by omega, hlt⟩, by rw [HN.out, if_pos ⟨hi0, rfl⟩, hrs, Nat.zero_add, Int.toNat_natCast, List.map_set]⟩, (by first | (simp only; omega) | omega), ⟨by ((repeat (refine Hold.cons (by exact rfl) ?_)); exact Hold.nil), by ((repeat (refine Hold.cons (by exact rfl) ?_)); exact Hold.nil)⟩, .inl (Nat.le_refl _), (by first | exact List.take_length | exact rfl | exact takeF rfl rfl)⟩)
  · obtain rfl : i = c.length := by omega
    have hlr : ltL 0 rs = true := by rw [hrs]; exact ltL_I 0 _
    repeat (first | apply ef_seq | (apply ef_mv; exact rfl; exact rfl) | (apply ef_bin; exact rfl; exact rfl; exact rfl; (exact cmp_f rfl (by simp only [cmpP]; omega))) | (apply ef_len; exact rfl; exact rfl; (assumption)) | apply ef_nil | apply seqQ.normal | apply loopQ.exit | apply ef_ret | apply ef_exit | apply seqQ.exit | apply blockQ.here | (apply ef_condf; exact rfl; (exact (rfl : false = false))))
    (apply fin_arr; (· exact rfl); (· exact rfl); (· exact rfl); (· exact rfl); (· (show 0 + c.length ≤ rs.length; omega)); (· exact hlr); (· (show (rs.drop 0).take c.length = _; rw [List.drop_zero, List.take_of_length_le (by omega)]; exact hrs)); (· exact rfl); (· exact rfl); (· rfl))
theorem moved_c (k : Nat) (c : List Int) (s : Nat) (b : Int) (h1 : 0 < c.length) (h8 : c.length ≤ 8) (hs : s < 2 ^ 60) (hcb : ∀ v, -40000000000 ≤ cAt c v ∧ cAt c v ≤ 40000000000) (hb : -40000000000 ≤ b ∧ b ≤ 40000000000) (h : MHeap) {v : MV} (hv : frz 0 [] h 8 v = some (.sl (c.map I64))) :
    orA (k + 2) 90 [v, I64 (s : Int), I64 b] h = some (.arr h.length 0 c.length 0, h ++ [⟨0, false, 1, (mvU c s b c.length).map I64⟩]) := by
  have := callA (k := k + 1) (h := h) (args := [v, I64 (s : Int), I64 b]) (args' := [.sl (c.map I64), I64 (s : Int), I64 b]) (by simp [List.mapM_cons, hv, frz_lt (m := I64 (s : Int)) rfl, frz_lt (m := I64 b) rfl]) rfl (moved_z k c s b h1 h8 hs hcb hb) rfl (by simp [okH, ltL_I, pureL_I])
  simpa [shV, sh1] using this
end Go.Proofs.Ytbdleggmdbihnaa

/- Contracts of the document: a set of lines that makes corrections cheaper, or as cheap and lower. -/
namespace Go.Proofs.Ytbdleggmdbihnaa
open Go.RowKit
set_option linter.unusedVariables false
set_option linter.unusedSimpArgs false
section
variable {O : Oracle} {I : Iter} {N n : Nat}
theorem runZ_ofE {α : Type} {M : Tab} {f : Nat} {rs : List MRes} {b : MC} {args : List MV} {p : α → Prop} {m : α → MV} {news : α → MHeap} (hmf : M.mf f = some ⟨n, rs, b⟩) (hn : args.length ≤ n)
    (hE : Ef O I N n (fun _ => false) b (argsL 0 args) [] (fun x A h => ∃ a, p a ∧ FinF rs (m a) (news a) x A h)) : ∃ a, p a ∧ runZ M O I N f args [] = some (m a, news a) := by
  obtain ⟨x, s', h', k1, A', k2, a, hp, hx, vs, vs', r1, r2, r3, r4⟩ := hE.run (args ++ List.replicate (n - args.length) (.lit undef)) ⟨by simp; omega, fun t v ht => by
    obtain ⟨_, h1⟩ := look_args _ _ _ _ ht
    rw [Nat.sub_zero] at h1
    have hl := (List.getElem?_eq_some_iff.1 h1).1
    rw [List.getD_eq_getElem?_getD, List.getElem?_append_left hl, h1]
    rfl⟩
  refine ⟨a, hp, ?_⟩
  unfold runZ
  rw [hmf]
  unfold runF
  have elk : (fun id => decide (id < ([] : MHeap).length)) = fun _ => false := by funext id; simp
  dsimp only
  rw [elk, k1]
  have hx' : x = .ret ∨ x = .normal := by cases x <;> simp [outX] at hx <;> simp
  dsimp only
  obtain ⟨o1, o2⟩ := r1.opn
  rw [if_pos hx', ResVs.ok k2 r1]
  simp only [List.length_nil, o1, o2, r2, if_true, r3, r4, List.nil_append]
end
def NoB (n : Nt) (c : List Int) (st : Int) (d : Bool) (s : Nat) : Prop :=
  (d = false → costL n c ≤ costL n (mvU c s st c.length) ∧ costL n c ≤ costL n (mvU c s (0 - st) c.length)) ∧ (d = true → costL n (mvU c s (0 - st) c.length) ≠ costL n c)
def BtR (n : Nt) (c : List Int) (st : Int) (d : Bool) : Option (List Int) → Prop
  | none => ∀ s, 2 ≤ s → s % 2 = 0 → s < 2 ^ n.ls.length → NoB n c st d s
  | some x => ∃ (s : Nat) (b : Int), 2 ≤ s ∧ s % 2 = 0 ∧ s < 2 ^ n.ls.length ∧ x = mvU c s b c.length ∧ ((d = false ∧ (b = st ∨ b = 0 - st) ∧ costL n x < costL n c) ∨ (d = true ∧ b = 0 - st ∧ costL n x = costL n c))
def btM (m : Nat) : Option (List Int) → MV
  | none => .tup [.arr 0 0 0 0, Bo false]
  | some _ => .tup [.arr 0 0 m 0, Bo true]
def btN : Option (List Int) → MHeap
  | none => [⟨0, true, 1, []⟩]
  | some x => [⟨0, false, 1, x.map I64⟩]
theorem mvU_ok {m : Nat} {c : List Int} (hl : c.length = m) (hcb : ∀ v, -30000000000 ≤ cAt c v ∧ cAt c v ≤ 30000000000) {s : Nat} {b : Int} (hb : -40000 ≤ b ∧ b ≤ 40000) : OkB m (mvU c s b c.length) := by
  refine ⟨by rw [mvU_len]; exact hl, fun v => ?_⟩
  have e : ∀ l : List Int, cAt l v = cAt l ((v.toNat : Nat) : Int) := fun l => by unfold cAt; rw [Int.toNat_natCast]
  rw [e, mvU_at c s b _ (Nat.le_refl _)]
  have := hcb ((v.toNat : Nat) : Int)
  split <;> omega
theorem pow_even {m : Nat} (h1 : 0 < m) (h8 : m ≤ 8) : (2 ^ m) % 2 = 0 ∧ 2 ≤ 2 ^ m ∧ 2 ^ m ≤ 256 := by
  obtain rfl | rfl | rfl | rfl | rfl | rfl | rfl | rfl : m = 1 ∨ m = 2 ∨ m = 3 ∨ m = 4 ∨ m = 5 ∨ m = 6 ∨ m = 7 ∨ m = 8 := by omega
  all_goals decide
theorem mf_better : MT.mf 75 = some ⟨64, [(.tmp 8), (.tmp 9)], (.seq (.reg [⟨none, some 4, .box 2 (.s 0)⟩, ⟨none, some 8, .nil0 1⟩, ⟨none, some 9, .mv (.c (.lit (.bool false)))⟩]) (.seq (.reg [⟨none, some 15, .ld (some 2) (.s 4)⟩, ⟨none, some 16, .mv (.s 1)⟩, ⟨none, some 17, .call 76 [.s 15, .s 16]⟩, ⟨none, some 10, .mv (.s 17)⟩]) (.seq (.seq (.reg [⟨none, some 11, .mv (.c (.lit (.int .i64 2)))⟩]) (.block 0 (.loop [11, 4, 1, 2, 3, 10] (.seq (.seq (.reg [⟨none, some 18, .mv (.s 11)⟩, ⟨none, some 19, .fa 0 (.s 4)⟩, ⟨none, some 20, .ld none (.s 19)⟩, ⟨none, some 21, .len (.s 20)⟩, ⟨none, some 22, .shf .shl (.c (.lit (.int .i64 1))) (.s 21)⟩, ⟨none, some 23, .bin .lss (.s 18) (.s 22)⟩]) (.cond (.s 23) .skip (.exit 0))) (.seq (.block 1 (.seq (.seq (.reg [⟨none, some 26, .mv (.s 1)⟩, ⟨none, some 27, .mv (.s 11)⟩, ⟨none, some 28, .mv (.s 2)⟩, ⟨none, some 29, .call 90 [.s 26, .s 27, .s 28]⟩, ⟨none, some 12, .mv (.s 29)⟩]) (.seq (.reg [⟨none, some 30, .mv (.s 3)⟩, ⟨none, some 31, .un .not (.s 30)⟩, ⟨none, some 32, .mv (.s 31)⟩, ⟨some (32, true), some 33, .ld (some 2) (.s 4)⟩, ⟨some (32, true), some 34, .mv (.s 12)⟩, ⟨some (32, true), some 35, .call 76 [.s 33, .s 34]⟩, ⟨some (32, true), some 36, .mv (.s 10)⟩, ⟨some (32, true), some 37, .bin .lss (.s 35) (.s 36)⟩, ⟨none, some 38, .pick (.s 32) (.s 37) (.c (.lit (.bool false)))⟩]) (.cond (.s 38) (.seq (.reg [⟨none, some 39, .mv (.s 12)⟩, ⟨none, some 8, .mv (.s 39)⟩, ⟨none, some 9, .mv (.c (.lit (.bool true)))⟩]) .ret) .skip))) (.seq (.reg [⟨none, some 40, .mv (.s 1)⟩, ⟨none, some 41, .mv (.s 11)⟩, ⟨none, some 42, .mv (.s 2)⟩, ⟨none, some 43, .un .neg (.s 42)⟩, ⟨none, some 44, .call 90 [.s 40, .s 41, .s 43]⟩, ⟨none, some 13, .mv (.s 44)⟩]) (.seq (.reg [⟨none, some 45, .ld (some 2) (.s 4)⟩, ⟨none, some 46, .mv (.s 13)⟩, ⟨none, some 47, .call 76 [.s 45, .s 46]⟩, ⟨none, some 14, .mv (.s 47)⟩]) (.seq (.reg [⟨none, some 48, .mv (.s 3)⟩, ⟨none, some 49, .un .not (.s 48)⟩, ⟨none, some 50, .mv (.s 49)⟩, ⟨some (50, true), some 51, .mv (.s 14)⟩, ⟨some (50, true), some 52, .mv (.s 10)⟩, ⟨some (50, true), some 53, .bin .lss (.s 51) (.s 52)⟩, ⟨none, some 54, .pick (.s 50) (.s 53) (.c (.lit (.bool false)))⟩, ⟨none, some 55, .mv (.s 54)⟩, ⟨some (55, false), some 56, .mv (.s 3)⟩, ⟨some (55, false), some 57, .mv (.s 56)⟩, ⟨some (57, true), some 58, .mv (.s 14)⟩, ⟨some (57, true), some 59, .mv (.s 10)⟩, ⟨some (57, true), some 60, .bin .eql (.s 58) (.s 59)⟩, ⟨some (55, false), some 61, .pick (.s 57) (.s 60) (.c (.lit (.bool false)))⟩, ⟨none, some 62, .pick (.s 55) (.c (.lit (.bool true))) (.s 61)⟩]) (.cond (.s 62) (.seq (.reg [⟨none, some 63, .mv (.s 13)⟩, ⟨none, some 8, .mv (.s 63)⟩, ⟨none, some 9, .mv (.c (.lit (.bool true)))⟩]) .ret) .skip)))))) (.reg [⟨none, some 24, .mv (.s 11)⟩, ⟨none, some 25, .bin .add (.s 24) (.c (.lit (.int .i64 2)))⟩, ⟨none, some 11, .mv (.s 25)⟩])))))) (.seq (.reg [⟨none, some 8, .nil0 1⟩, ⟨none, some 9, .mv (.c (.lit (.bool false)))⟩]) .ret))))⟩ := by kernel_rfl
set_option maxHeartbeats 4000000 in
theorem better_z (k : Nat) (n : Nt) (ok : OkN n) (c : List Int) (hl : c.length = n.ls.length) (hcb : ∀ v, -30000000000 ≤ cAt c v ∧ cAt c v ≤ 30000000000) (st : Int) (hst : 1 ≤ st ∧ st ≤ 40000) (d : Bool) :
    ∃ r, BtR n c st d r ∧ runZ MT (orA (k + 3)) (itA (k + 3)) 4000000 75 [encN n, .sl (c.map I64), I64 st, Bo d] [] = some (btM c.length r, btN r) := by
  have hs1 : (MV.sl (n.ls.map encLn)).slen = some n.ls.length := by simp [MV.slen]
  have l1 := ok.l1
  have l8 := ok.l8
  have hshl := shl_ok n.ls.length l8
  obtain ⟨p0, p1, p2⟩ := pow_even l1 l8
  have okc : OkB n.ls.length c := ⟨hl, fun v => by have := hcb v; omega⟩
  have w0 := fun h => rCost_c k n ok c okc h (v := .sl (c.map I64)) (frz_sl (ltL_I 0 c))
  have hcb4 : ∀ v, -40000000000 ≤ cAt c v ∧ cAt c v ≤ 40000000000 := fun v => by have := hcb v; omega
  refine runZ_ofE (p := BtR n c st d) (m := btM c.length) (news := btN) mf_better (by simp) ?_
  simp only [argsL]
  have HR := Lib.hid (fun r => (show BtR n c st d r = BtR n c st d r from rfl))
  unfold BtR
  generalize hP : 2 ^ n.ls.length = P at *
  generalize hN : costL n c = now at w0
  repeat (first | apply ef_seq | (apply ef_mv; exact rfl; exact rfl) | (apply ef_ldp; exact rfl; exact rfl; (exact rfl); exact rfl; (exact rfl); (exact rd_2 rfl rfl)) | (apply ef_box; exact rfl; exact rfl; exact rfl; exact rfl) | (apply ef_nil0; exact rfl) | apply ef_nil | apply seqQ.normal | apply ef_block | (apply ef_call; exact rfl; ((repeat (apply XVs.cons; exact rfl)); exact XVs.nil); (with_reducible exact w0 _)))
  refine ef_loopf (α := Nat) (fun s => (2 ≤ s ∧ s % 2 = 0 ∧ s ≤ P) ∧ ∀ s', 2 ≤ s' → s' % 2 = 0 → s' < s → NoB n c st d s') (fun s => [(11, I64 (s : Int))]) [(4, .ptr 0 0 0 0), (1, .sl (c.map I64)), (2, I64 st), (3, Bo d), (10, I64 now)] (fun _ => [⟨0, false, 2, [encN n]⟩, ⟨0, true, 1, []⟩]) (fun s => P - s) 2 [11] (fun _ => rfl) (by ((repeat (refine Hold.cons (by exact rfl) ?_)); exact Hold.nil)) (by ((repeat (refine Hold.cons (by exact rfl) ?_)); exact Hold.nil)) rfl rfl ⟨⟨by omega, rfl, by omega⟩, fun s' h1 h2 h3 => by omega⟩ (by show P - 2 < 4000000; omega) ?_
  rintro s ⟨⟨hs2, hse, hsP⟩, hno⟩
  try simp only at hs2 hse hsP hno ⊢
  have hnoB := Bx.mk hno
  clear hno
  by_cases hlt : s < P
  · have hs60 : s < 2 ^ 60 := by omega
    have w1 := fun h => moved_c (k + 1) c s st (by omega) (by omega) hs60 hcb4 (by omega) h (v := .sl (c.map I64)) (frz_sl (ltL_I 0 c))
    have w2 := fun h => moved_c (k + 1) c s (0 - st) (by omega) (by omega) hs60 hcb4 (by omega) h (v := .sl (c.map I64)) (frz_sl (ltL_I 0 c))
    have okX := mvU_ok (s := s) (b := st) hl hcb (by omega)
    have okY := mvU_ok (s := s) (b := 0 - st) hl hcb (by omega)
    have w3 := fun h v hv => rCost_c k n ok _ okX h (v := v) hv
    have w4 := fun h v hv => rCost_c k n ok _ okY h (v := v) hv
    have hNB := Bx.mk (show NoB n c st d s = ((d = false → now ≤ costL n (mvU c s st c.length) ∧ now ≤ costL n (mvU c s (0 - st) c.length)) ∧ (d = true → costL n (mvU c s (0 - st) c.length) ≠ now)) by rw [← hN]; rfl)
    have hX := Bx.mk (show mvU c s st c.length = mvU c s st c.length from rfl)
    obtain ⟨x1, hXe⟩ : ∃ x1, mvU c s st c.length = x1 := ⟨_, rfl⟩
    obtain ⟨y1, hYe⟩ : ∃ y1, mvU c s (0 - st) c.length = y1 := ⟨_, rfl⟩
    rw [hXe] at w1 w3 okX hNB
    rw [hYe] at w2 w4 okY hNB
    have hXl := okX.len
    have hYl := okY.len
    have HXe := Bx.mk hXe
    have HYe := Bx.mk hYe
    have HN := Bx.mk hN
    clear hXe hYe hX okX okY hN HR
    obtain ⟨cx, hcx⟩ : ∃ cx, costL n x1 = cx := ⟨_, rfl⟩
    obtain ⟨cy, hcy⟩ : ∃ cy, costL n y1 = cy := ⟨_, rfl⟩
    rw [hcx] at w3 hNB
    rw [hcy] at w4 hNB
    have HCX := Bx.mk hcx
    have HCY := Bx.mk hcy
    clear hcx hcy
    cases d
    · by_cases h1 : cx < now
      · repeat (first | apply ef_seq | (apply ef_mv; exact rfl; exact rfl) | (apply ef_bin; exact rfl; exact rfl; exact rfl; (exact cmp_t rfl (by first | exact rfl | (simp only [cmpP]; omega)))) | (apply ef_gy; exact rfl; (exact (rfl : true = true))) | (apply ef_len; exact rfl; exact rfl; (assumption)) | (apply ef_ldp; exact rfl; exact rfl; (exact rfl); exact rfl; (exact rfl); (first | exact rd_2 rfl rfl | exact rfl)) | (apply ef_fap; exact rfl; exact rfl) | (apply ef_notF; exact rfl; exact rfl) | (apply ef_shf; exact rfl; exact rfl; exact rfl; (assumption)) | apply ef_nil | apply seqQ.normal | apply ef_block | apply ef_skip | (apply ef_condt; exact rfl; (exact (rfl : true = true))) | (apply ef_call; exact rfl; ((repeat (apply XVs.cons; exact rfl)); exact XVs.nil); (with_reducible exact w1 _)))
        (apply ef_call; (· exact rfl); (· ((repeat (apply XVs.cons; exact rfl)); exact XVs.nil)); · exact w3 _ _ (frz_row (o := ⟨0, false, 1, x1.map I64⟩) rfl rfl (by simp [hXl, hl]) (ltL_I 0 x1) rfl))
        repeat (first | apply ef_seq | (apply ef_mv; exact rfl; exact rfl) | (apply ef_bin; exact rfl; exact rfl; exact rfl; (exact cmp_t rfl (by first | exact rfl | (simp only [cmpP]; omega)))) | (apply ef_gy; exact rfl; (exact (rfl : true = true))) | (apply ef_pick; exact rfl; exact rfl; exact rfl) | apply ef_nil | apply seqQ.normal | apply loopQ.ret | apply ef_ret | apply seqQ.ret | apply blockQ.ret | (apply ef_condt; exact rfl; (exact (rfl : true = true))))
        exact ⟨some x1, ⟨s, st, hs2, hse, hlt, HXe.out.symm, .inl ⟨rfl, .inl rfl, by rw [HCX.out]; exact h1⟩⟩, fin_al rfl (by exact rfl) (by exact rfl) (o := ⟨0, false, 1, x1.map I64⟩) (by exact rfl) rfl (by simp [hXl, hl]) (ltL_I 0 x1) rfl rfl rfl⟩
      · by_cases h2 : cy < now
        · repeat (first | apply ef_seq | (apply ef_mv; exact rfl; exact rfl) | (apply ef_bin; exact rfl; exact rfl; exact rfl; (exact cmp_t rfl (by first | exact rfl | (simp only [cmpP]; omega)))) | (apply ef_gy; exact rfl; (exact (rfl : true = true))) | (apply ef_len; exact rfl; exact rfl; (assumption)) | (apply ef_ldp; exact rfl; exact rfl; (exact rfl); exact rfl; (exact rfl); (first | exact rd_2 rfl rfl | exact rfl)) | (apply ef_fap; exact rfl; exact rfl) | (apply ef_notF; exact rfl; exact rfl) | (apply ef_shf; exact rfl; exact rfl; exact rfl; (assumption)) | apply ef_nil | apply seqQ.normal | apply ef_block | apply ef_skip | (apply ef_condt; exact rfl; (exact (rfl : true = true))) | (apply ef_call; exact rfl; ((repeat (apply XVs.cons; exact rfl)); exact XVs.nil); (with_reducible exact w1 _)))
          (apply ef_call; (· exact rfl); (· ((repeat (apply XVs.cons; exact rfl)); exact XVs.nil)); · exact w3 _ _ (frz_row (o := ⟨0, false, 1, x1.map I64⟩) rfl rfl (by simp [hXl, hl]) (ltL_I 0 x1) rfl))
          repeat (first | apply ef_seq | (apply ef_mv; exact rfl; exact rfl) | (apply ef_bin; exact rfl; exact rfl; exact rfl; (exact cmp_f rfl (by simp only [cmpP]; omega))) | (apply ef_gy; exact rfl; (exact (rfl : true = true))) | (apply ef_pick; exact rfl; exact rfl; exact rfl) | (apply ef_ldp; exact rfl; exact rfl; (exact rfl); exact rfl; (exact rfl); (exact rd_2 rfl rfl)) | (apply ef_neg; exact rfl; exact rfl; exact wrap_of (by omega) (by omega)) | apply ef_nil | apply seqQ.normal | apply ef_skip | (apply ef_condf; exact rfl; (exact (rfl : false = false))) | (apply ef_call; exact rfl; ((repeat (apply XVs.cons; exact rfl)); exact XVs.nil); (with_reducible exact w2 _)))
          (apply ef_call; (· exact rfl); (· ((repeat (apply XVs.cons; exact rfl)); exact XVs.nil)); · exact w4 _ _ (frz_row (o := ⟨0, false, 1, y1.map I64⟩) rfl rfl (by simp [hYl, hl]) (ltL_I 0 y1) rfl))
          repeat (first | apply ef_seq | (apply ef_mv; exact rfl; exact rfl) | (apply ef_bin; exact rfl; exact rfl; exact rfl; (exact cmp_t rfl (by first | exact rfl | (simp only [cmpP]; omega)))) | (apply ef_gy; exact rfl; (exact (rfl : true = true))) | (apply ef_gn; exact rfl; (exact (rfl : true = true)); exact rfl) | (apply ef_gu; exact rfl; exact rfl) | (apply ef_pick; exact rfl; exact rfl; exact rfl) | (apply ef_notF; exact rfl; exact rfl) | apply ef_nil | apply seqQ.normal | apply loopQ.ret | apply ef_ret | apply seqQ.ret | apply blockQ.ret | (apply ef_condt; exact rfl; (exact (rfl : true = true))))
          exact ⟨some y1, ⟨s, 0 - st, hs2, hse, hlt, HYe.out.symm, .inl ⟨rfl, .inr rfl, by rw [HCY.out]; exact h2⟩⟩, fin_al rfl (by exact rfl) (by exact rfl) (o := ⟨0, false, 1, y1.map I64⟩) (by exact rfl) rfl (by simp [hYl, hl]) (ltL_I 0 y1) rfl rfl rfl⟩
        · repeat (first | apply ef_seq | (apply ef_mv; exact rfl; exact rfl) | (apply ef_bin; exact rfl; exact rfl; exact rfl; (exact cmp_t rfl (by first | exact rfl | (simp only [cmpP]; omega)))) | (apply ef_gy; exact rfl; (exact (rfl : true = true))) | (apply ef_len; exact rfl; exact rfl; (assumption)) | (apply ef_ldp; exact rfl; exact rfl; (exact rfl); exact rfl; (exact rfl); (first | exact rd_2 rfl rfl | exact rfl)) | (apply ef_fap; exact rfl; exact rfl) | (apply ef_notF; exact rfl; exact rfl) | (apply ef_shf; exact rfl; exact rfl; exact rfl; (assumption)) | apply ef_nil | apply seqQ.normal | apply ef_block | apply ef_skip | (apply ef_condt; exact rfl; (exact (rfl : true = true))) | (apply ef_call; exact rfl; ((repeat (apply XVs.cons; exact rfl)); exact XVs.nil); (with_reducible exact w1 _)))
          (apply ef_call; (· exact rfl); (· ((repeat (apply XVs.cons; exact rfl)); exact XVs.nil)); · exact w3 _ _ (frz_row (o := ⟨0, false, 1, x1.map I64⟩) rfl rfl (by simp [hXl, hl]) (ltL_I 0 x1) rfl))
          repeat (first | apply ef_seq | (apply ef_mv; exact rfl; exact rfl) | (apply ef_bin; exact rfl; exact rfl; exact rfl; (exact cmp_f rfl (by simp only [cmpP]; omega))) | (apply ef_gy; exact rfl; (exact (rfl : true = true))) | (apply ef_pick; exact rfl; exact rfl; exact rfl) | (apply ef_ldp; exact rfl; exact rfl; (exact rfl); exact rfl; (exact rfl); (exact rd_2 rfl rfl)) | (apply ef_neg; exact rfl; exact rfl; exact wrap_of (by omega) (by omega)) | apply ef_nil | apply seqQ.normal | apply ef_skip | (apply ef_condf; exact rfl; (exact (rfl : false = false))) | (apply ef_call; exact rfl; ((repeat (apply XVs.cons; exact rfl)); exact XVs.nil); (with_reducible exact w2 _)))
          (apply ef_call; (· exact rfl); (· ((repeat (apply XVs.cons; exact rfl)); exact XVs.nil)); · exact w4 _ _ (frz_row (o := ⟨0, false, 1, y1.map I64⟩) rfl rfl (by simp [hYl, hl]) (ltL_I 0 y1) rfl))
          repeat (first | apply ef_seq | (apply ef_mv; exact rfl; exact rfl) | (apply ef_bin; exact rfl; exact rfl; exact rfl; (first | exact cmp_f rfl (by simp only [cmpP]; omega) | ((with_reducible refine bin_add (wrap_of ?_ ?_)) <;> omega))) | (apply ef_gy; exact rfl; (first | exact (rfl : true = true) | exact (rfl : false = false))) | (apply ef_gn; exact rfl; (exact (rfl : false = false)); exact rfl) | (apply ef_pick; exact rfl; exact rfl; exact rfl) | (apply ef_notF; exact rfl; exact rfl) | apply ef_nil | apply seqQ.normal | apply blockQ.normal | apply ef_skip | (apply ef_condf; exact rfl; (exact (rfl : false = false))))
          (refine loopQ.normal _ _ ⟨s + 2, ⟨⟨by omega, by omega, by omega⟩, fun s' g1 g2 g3 => by
            by_cases e : s' = s
            · subst e; rw [hNB.out]; exact ⟨fun _ => (by omega), fun h => (by cases h)⟩
            · exact hnoB.out s' g1 g2 (by omega)⟩, (by first | (simp only; omega) | omega), ⟨by ((repeat (refine Hold.cons (by exact rfl) ?_)); exact Hold.nil), by ((repeat (refine Hold.cons (by exact rfl) ?_)); exact Hold.nil)⟩, .inr ⟨by ((repeat (refine hdl_cons rfl (by first | rfl | (simp [MV.lt, ltL, ltL_I, ltL_Ln, ltL_Cr])) ?_)); exact hdl_nil), by first | rfl | (simp [hltL, ltL, MV.lt, ltL, ltL_I, ltL_Ln, ltL_Cr])⟩, by first | exact rfl | (simp only [List.map_append, List.map_set]; exact rfl)⟩)
    · by_cases h2 : cy = now
      · repeat (first | apply ef_seq | (apply ef_mv; exact rfl; exact rfl) | (apply ef_bin; exact rfl; exact rfl; exact rfl; (exact cmp_t rfl (by first | exact rfl | (simp only [cmpP]; omega)))) | (apply ef_gn; exact rfl; (exact (rfl : false = false)); exact rfl) | (apply ef_pick; exact rfl; exact rfl; exact rfl) | (apply ef_len; exact rfl; exact rfl; (assumption)) | (apply ef_ldp; exact rfl; exact rfl; (exact rfl); exact rfl; (exact rfl); (first | exact rd_2 rfl rfl | exact rfl)) | (apply ef_fap; exact rfl; exact rfl) | (apply ef_notT; exact rfl; exact rfl) | (apply ef_neg; exact rfl; exact rfl; exact wrap_of (by omega) (by omega)) | (apply ef_shf; exact rfl; exact rfl; exact rfl; (assumption)) | apply ef_nil | apply seqQ.normal | apply ef_block | apply ef_skip | (apply ef_condt; exact rfl; (exact (rfl : true = true))) | (apply ef_condf; exact rfl; (exact (rfl : false = false))) | (apply ef_call; exact rfl; ((repeat (apply XVs.cons; exact rfl)); exact XVs.nil); (with_reducible first | exact w1 _ | exact w2 _)))
        (apply ef_call; (· exact rfl); (· ((repeat (apply XVs.cons; exact rfl)); exact XVs.nil)); · exact w4 _ _ (frz_row (o := ⟨0, false, 1, y1.map I64⟩) rfl rfl (by simp [hYl, hl]) (ltL_I 0 y1) rfl))
        repeat (first | apply ef_seq | (apply ef_mv; exact rfl; exact rfl) | (apply ef_bin; exact rfl; exact rfl; exact rfl; (exact cmp_t rfl (by first | exact rfl | (simp only [cmpP]; omega)))) | (apply ef_gy; exact rfl; (first | exact (rfl : true = true) | exact (rfl : false = false))) | (apply ef_gn; exact rfl; (exact (rfl : false = false)); exact rfl) | (apply ef_pick; exact rfl; exact rfl; exact rfl) | (apply ef_notT; exact rfl; exact rfl) | apply ef_nil | apply seqQ.normal | apply loopQ.ret | apply ef_ret | apply seqQ.ret | apply blockQ.ret | (apply ef_condt; exact rfl; (exact (rfl : true = true))))
        exact ⟨some y1, ⟨s, 0 - st, hs2, hse, hlt, HYe.out.symm, .inr ⟨rfl, rfl, by rw [HCY.out]; exact h2⟩⟩, fin_al rfl (by exact rfl) (by exact rfl) (o := ⟨0, false, 1, y1.map I64⟩) (by exact rfl) rfl (by simp [hYl, hl]) (ltL_I 0 y1) rfl rfl rfl⟩
      · repeat (first | apply ef_seq | (apply ef_mv; exact rfl; exact rfl) | (apply ef_bin; exact rfl; exact rfl; exact rfl; (exact cmp_t rfl (by first | exact rfl | (simp only [cmpP]; omega)))) | (apply ef_gn; exact rfl; (exact (rfl : false = false)); exact rfl) | (apply ef_pick; exact rfl; exact rfl; exact rfl) | (apply ef_len; exact rfl; exact rfl; (assumption)) | (apply ef_ldp; exact rfl; exact rfl; (exact rfl); exact rfl; (exact rfl); (first | exact rd_2 rfl rfl | exact rfl)) | (apply ef_fap; exact rfl; exact rfl) | (apply ef_notT; exact rfl; exact rfl) | (apply ef_neg; exact rfl; exact rfl; exact wrap_of (by omega) (by omega)) | (apply ef_shf; exact rfl; exact rfl; exact rfl; (assumption)) | apply ef_nil | apply seqQ.normal | apply ef_block | apply ef_skip | (apply ef_condt; exact rfl; (exact (rfl : true = true))) | (apply ef_condf; exact rfl; (exact (rfl : false = false))) | (apply ef_call; exact rfl; ((repeat (apply XVs.cons; exact rfl)); exact XVs.nil); (with_reducible first | exact w1 _ | exact w2 _)))
        (apply ef_call; (· exact rfl); (· ((repeat (apply XVs.cons; exact rfl)); exact XVs.nil)); · exact w4 _ _ (frz_row (o := ⟨0, false, 1, y1.map I64⟩) rfl rfl (by simp [hYl, hl]) (ltL_I 0 y1) rfl))
        repeat (first | apply ef_seq | (apply ef_mv; exact rfl; exact rfl) | (apply ef_bin; exact rfl; exact rfl; exact rfl; (first | exact cmp_f rfl (by simp only [cmpP]; omega) | ((with_reducible refine bin_add (wrap_of ?_ ?_)) <;> omega))) | (apply ef_gy; exact rfl; (first | exact (rfl : true = true) | exact (rfl : false = false))) | (apply ef_gn; exact rfl; (exact (rfl : false = false)); exact rfl) | (apply ef_pick; exact rfl; exact rfl; exact rfl) | (apply ef_notT; exact rfl; exact rfl) | apply ef_nil | apply seqQ.normal | apply blockQ.normal | apply ef_skip | (apply ef_condf; exact rfl; (exact (rfl : false = false))))
        (refine loopQ.normal _ _ ⟨s + 2, ⟨⟨by omega, by omega, by omega⟩, fun s' g1 g2 g3 => by
          by_cases e : s' = s
          · subst e; rw [hNB.out]; exact ⟨fun h => (by cases h), fun _ => h2⟩
          · exact hnoB.out s' g1 g2 (by omega)⟩, (by first | (simp only; omega) | omega), ⟨by ((repeat (refine Hold.cons (by exact rfl) ?_)); exact Hold.nil), by ((repeat (refine Hold.cons (by exact rfl) ?_)); exact Hold.nil)⟩, .inr ⟨by ((repeat (refine hdl_cons rfl (by first | rfl | (simp [MV.lt, ltL, ltL_I, ltL_Ln, ltL_Cr])) ?_)); exact hdl_nil), by first | rfl | (simp [hltL, ltL, MV.lt, ltL, ltL_I, ltL_Ln, ltL_Cr])⟩, by first | exact rfl | (simp only [List.map_append, List.map_set]; exact rfl)⟩)
  · repeat (first | apply ef_seq | (apply ef_mv; exact rfl; exact rfl) | (apply ef_bin; exact rfl; exact rfl; exact rfl; (exact cmp_f rfl (by simp only [cmpP]; omega))) | (apply ef_len; exact rfl; exact rfl; (assumption)) | (apply ef_ldp; exact rfl; exact rfl; (exact rfl); exact rfl; (exact rfl); (exact rfl)) | (apply ef_fap; exact rfl; exact rfl) | (apply ef_nil0; exact rfl) | (apply ef_shf; exact rfl; exact rfl; exact rfl; (assumption)) | apply ef_nil | apply seqQ.normal | apply loopQ.exit | apply ef_ret | apply ef_exit | apply seqQ.exit | apply blockQ.here | (apply ef_condf; exact rfl; (exact (rfl : false = false))))
    exact ⟨none, fun s' g1 g2 g3 => hnoB.out s' g1 g2 (by omega), fin_al rfl (by exact rfl) (by exact rfl) (o := ⟨0, true, 1, []⟩) (by exact rfl) rfl rfl rfl rfl rfl rfl⟩
end Go.Proofs.Ytbdleggmdbihnaa

/- Contracts of the document: best corrections, by moving sets of lines. -/
namespace Go.Proofs.Ytbdleggmdbihnaa
open Go.RowKit
set_option linter.unusedVariables false
set_option linter.unusedSimpArgs false
theorem wsU_bdB {n : Nt} (ok : OkN n) {ds : List Int} {B : Int} (hB : 0 ≤ B) (hb : ∀ v, -B ≤ cAt ds v ∧ cAt ds v ≤ B) : ∀ i, i ≤ n.cs.length → 0 ≤ wsU n.cs ds i ∧ wsU n.cs ds i ≤ 10 * B * (i : Int)
  | 0, _ => by simp [wsU]
  | i + 1, hi => by
    have ih := wsU_bdB ok hB hb i (by omega)
    have hm : n.cs.getD i default ∈ n.cs := by rw [List.getD_eq_getElem?_getD, List.getElem?_eq_getElem (by omega)]; exact List.getElem_mem _
    have hw := (ok.rg _ hm).wt
    rw [wsU]
    generalize n.cs.getD i default = x at *
    have ha : 0 ≤ absI (cAt ds i) ∧ absI (cAt ds i) ≤ B := absI_bd (hb i).1 (hb i).2
    have h1 := Int.mul_nonneg (a := x.wt) (b := absI (cAt ds i)) (by omega) ha.1
    have h2 : x.wt * absI (cAt ds i) ≤ 10 * B := Int.mul_le_mul hw.2 ha.2 ha.1 (by omega)
    have e : 10 * B * ((i + 1 : Nat) : Int) = 10 * B * (i : Int) + 10 * B := by rw [Int.natCast_add, Int.mul_add]; simp
    omega
structure CB (n : Nt) (c : List Int) : Prop where
  len : c.length = n.ls.length
  z0 : cAt c 0 = 0
  nn : 0 ≤ costL n c
  bd : ∀ v, -26214400000 + 16384 * costL n c ≤ cAt c v ∧ cAt c v ≤ 26214400000 - 16384 * costL n c
theorem costL_nn {n : Nt} (ok : OkN n) {c : List Int} (h : OkB n.ls.length c) : 0 ≤ costL n c := (wsU_bd ok (resL_bd ok h) _ (Nat.le_refl _)).1
theorem CB.bd3 {n : Nt} {c : List Int} (h : CB n c) (v : Int) : -30000000000 ≤ cAt c v ∧ cAt c v ≤ 30000000000 := by
  have := h.bd v
  have := h.nn
  omega
theorem CB.cost {n : Nt} {c : List Int} (h : CB n c) : costL n c ≤ 1600000 := by
  have := h.bd 0
  have := h.nn
  have := h.z0
  omega
theorem CB.start {n : Nt} (ok : OkN n) : CB n (List.replicate n.ls.length 0) := by
  have hz := cAt_zer n.ls.length
  have hb : ∀ v, -10000 ≤ cAt (resL n (List.replicate n.ls.length 0)) v ∧ cAt (resL n (List.replicate n.ls.length 0)) v ≤ 10000 := fun v => by
    unfold cAt resL
    rw [List.getD_eq_getElem?_getD, List.getElem?_map]
    cases hh : n.cs[v.toNat]? with
    | none => simp
    | some x =>
      have hx := (ok.rg x (List.mem_of_getElem? hh)).df
      simp only [Option.map_some, Option.getD_some, resI, hz]
      omega
  have h1 := wsU_bdB ok (by omega) hb n.cs.length (Nat.le_refl _)
  have c16 := ok.c16
  have h2 : costL n (List.replicate n.ls.length 0) ≤ 1600000 := by
    unfold costL
    omega
  exact ⟨by simp, hz 0, h1.1, fun v => by rw [hz v]; omega⟩
theorem CB.step {n : Nt} (ok : OkN n) {c : List Int} (h : CB n c) {s : Nat} {b : Int} (hb : -16384 ≤ b ∧ b ≤ 16384) (hlt : costL n (mvU c s b c.length) < costL n c) : CB n (mvU c s b c.length) := by
  have h3 := mvU_ok h.len h.bd3 (s := s) (b := b) (by omega)
  refine ⟨h3.len, ?_, costL_nn ok h3, fun v => ?_⟩
  · have := mvU_at c s b _ (Nat.le_refl _) 0
    rw [if_neg (by omega)] at this
    exact this.trans h.z0
  · have e : ∀ l : List Int, cAt l v = cAt l ((v.toNat : Nat) : Int) := fun l => by unfold cAt; rw [Int.toNat_natCast]
    rw [e, mvU_at c s b _ (Nat.le_refl _)]
    have := h.bd ((v.toNat : Nat) : Int)
    split <;> omega
theorem BtR.step {n : Nt} (ok : OkN n) {c x : List Int} (h : CB n c) {st : Int} (hs : 1 ≤ st ∧ st ≤ 16384) (hb : BtR n c st false (some x)) : CB n x ∧ costL n x < costL n c := by
  obtain ⟨s, b, -, -, -, rfl, h1 | h1⟩ := hb
  · obtain ⟨-, h2, h3⟩ := h1
    exact ⟨h.step ok (by omega) h3, h3⟩
  · cases h1.1
def stN (j : Nat) : Int := [16384, 8192, 4096, 2048, 1024, 512, 256, 128, 64, 32, 16, 8, 4, 2, 1].getD j 0
theorem stN_bd (j : Nat) (h : j < 15) : 1 ≤ stN j ∧ stN j ≤ 16384 := by
  obtain rfl | rfl | rfl | rfl | rfl | rfl | rfl | rfl | rfl | rfl | rfl | rfl | rfl | rfl | rfl : j = 0 ∨ j = 1 ∨ j = 2 ∨ j = 3 ∨ j = 4 ∨ j = 5 ∨ j = 6 ∨ j = 7 ∨ j = 8 ∨ j = 9 ∨ j = 10 ∨ j = 11 ∨ j = 12 ∨ j = 13 ∨ j = 14 := by omega
  all_goals decide
theorem stN_quo (j : Nat) (h : j < 15) : binI .quo .i64 (stN j) 2 = some (.int .i64 (stN (j + 1))) := by
  obtain rfl | rfl | rfl | rfl | rfl | rfl | rfl | rfl | rfl | rfl | rfl | rfl | rfl | rfl | rfl : j = 0 ∨ j = 1 ∨ j = 2 ∨ j = 3 ∨ j = 4 ∨ j = 5 ∨ j = 6 ∨ j = 7 ∨ j = 8 ∨ j = 9 ∨ j = 10 ∨ j = 11 ∨ j = 12 ∨ j = 13 ∨ j = 14 := by omega
  all_goals rfl
theorem giveV_arr {lk : Nat → Bool} {h : MHeap} {id k sz : Nat} {nl : Bool} {es : List MV} (ho : h[id]? = some ⟨0, nl, sz, es⟩) (hk : k = es.length) (hl : ltL 0 es = true) (h1 : lk id = false) : giveV lk h (.arr id 0 k 0) = some (.sl es, h.set id ⟨1, nl, sz, []⟩) := by
  have hids : MV.ids h 6 (.arr id 0 k 0) = [id] := by
    have e2 : MV.ids h 6 (.arr id 0 k 0) = id :: (match h[id]? with | some o => o.es.flatMap (MV.ids h 5) | none => []) := rfl
    rw [ho] at e2
    dsimp only at e2
    rw [idsL_lt0 hl] at e2
    exact e2
  have hmap : (h.mapIdx fun i p => if ([id] : List Nat).contains i then (⟨p.g + 1, p.nl, p.sz, []⟩ : MObj) else p) = h.set id ⟨1, nl, sz, []⟩ := by
    apply List.ext_getElem?
    intro j
    rw [List.getElem?_mapIdx, List.getElem?_set]
    by_cases e : j = id
    · subst e
      rw [if_pos rfl, if_pos (List.getElem?_eq_some_iff.1 ho).1, ho]
      simp
    · rw [if_neg (by omega)]
      cases h[j]? <;> simp [e]
  have himp : ((List.range h.length).filter fun i => !([id] : List Nat).contains i).contains id = false := by
    rw [Bool.eq_false_iff]
    intro hc
    simp only [List.contains_iff_mem, List.mem_filter] at hc
    simpa using hc.2
  have hfr : frz 0 ((List.range h.length).filter fun i => !([id] : List Nat).contains i) h 8 (.arr id 0 k 0) = some (.sl es) := by
    have h3 : es.take k = es := List.take_of_length_le (by omega)
    simp only [frz, MV.lt, Nat.not_lt_zero, decide_false, Bool.false_eq_true, if_false, himp, ho]
    simp only [hl, if_true, List.drop_zero, h3]
    simp; omega
  unfold giveV
  rw [hids, hfr]
  simp only [hmap]
  simp [h1]
theorem fin_sll {x : MX2} {A : Sl} {h : MHeap} {t u : Nat} {es : List MV} {v : Value} (hx : outX x = true) (hv : look A t = some (.sl es)) (hw : look A u = some (.lit v)) (hl : ltL 0 es = true) : FinF [.tmp t, .tmp u] (.tup [.sl es, .lit v]) [] x A h := by
  refine ⟨hx, [.sl es, .lit v], [.sl es, .lit v], ⟨_, _, rfl, hv, _, [], rfl, hw, rfl⟩, by simp [impIds], ?_, rfl⟩
  simp [impIds, expL, frz, MV.lt, hl]
def LocB (n : Nt) (c : List Int) : Prop := ∀ s, 2 ≤ s → s % 2 = 0 → s < 2 ^ n.ls.length → NoB n c 1 false s
theorem mf_Best : MT.mf 48 = some ⟨30, [(.tmp 2), (.tmp 3)], (.seq (.reg [⟨none, some 1, .box 2 (.s 0)⟩, ⟨none, some 2, .nil0 1⟩, ⟨none, some 3, .mv (.c (.lit (.int .i64 0)))⟩]) (.seq (.reg [⟨none, some 8, .fa 0 (.s 1)⟩, ⟨none, some 9, .ld none (.s 8)⟩, ⟨none, some 10, .len (.s 9)⟩, ⟨none, some 11, .mks (.lit (.int .i64 0)) (.s 10)⟩, ⟨none, some 4, .mv (.s 11)⟩]) (.seq (.seq (.give 4 (.reg [⟨none, some 5, .mv (.c (.lit (.int .i64 16384)))⟩])) (.block 0 (.loop [5, 1, 4] (.seq (.seq (.reg [⟨none, some 12, .mv (.s 5)⟩, ⟨none, some 13, .bin .gtr (.s 12) (.c (.lit (.int .i64 0)))⟩]) (.cond (.s 13) .skip (.exit 0))) (.seq (.block 1 (.block 2 (.loop [1, 4, 5] (.block 3 (.seq (.reg [⟨none, some 17, .ld (some 2) (.s 1)⟩, ⟨none, some 18, .mv (.s 4)⟩, ⟨none, some 19, .mv (.s 5)⟩, ⟨none, some 20, .call 75 [.s 17, .s 18, .s 19, (.c (.lit (.bool false)))]⟩, ⟨none, some 16, .mv (.s 20)⟩, ⟨none, some 21, .ext (.s 16) 0⟩, ⟨none, some 22, .ext (.s 16) 1⟩, ⟨none, some 6, .mv (.s 21)⟩, ⟨none, some 7, .mv (.s 22)⟩]) (.seq (.seq (.reg [⟨none, some 23, .mv (.s 7)⟩, ⟨none, some 24, .un .not (.s 23)⟩]) (.cond (.s 24) (.exit 2) .skip)) (.give 6 (.reg [⟨none, some 25, .mv (.s 6)⟩, ⟨none, some 4, .mv (.s 25)⟩])))))))) (.reg [⟨none, some 14, .mv (.s 5)⟩, ⟨none, some 15, .bin .quo (.s 14) (.c (.lit (.int .i64 2)))⟩, ⟨none, some 5, .mv (.s 15)⟩])))))) (.seq (.reg [⟨none, some 26, .mv (.s 4)⟩, ⟨none, some 27, .ld (some 2) (.s 1)⟩, ⟨none, some 28, .mv (.s 4)⟩, ⟨none, some 29, .call 76 [.s 27, .s 28]⟩, ⟨none, some 2, .mv (.s 26)⟩, ⟨none, some 3, .mv (.s 29)⟩]) .ret))))⟩ := by kernel_rfl
set_option maxHeartbeats 4000000 in
theorem Best_z (k : Nat) (n : Nt) (ok : OkN n) :
    ∃ c, (CB n c ∧ LocB n c) ∧ runZ MT (orA (k + 4)) (itA (k + 4)) 4000000 48 [encN n] [] = some (.tup [.sl (c.map I64), I64 (costL n c)], []) := by
  have hs1 : (MV.sl (n.ls.map encLn)).slen = some n.ls.length := by simp [MV.slen]
  have l8 := ok.l8
  refine runZ_ofE (p := fun c => CB n c ∧ LocB n c) (m := fun c => .tup [.sl (c.map I64), I64 (costL n c)]) (news := fun _ => []) mf_Best (by simp) ?_
  simp only [argsL]
  repeat (first | apply ef_seq | (apply ef_mv; exact rfl; exact rfl) | (apply ef_len; exact rfl; exact rfl; (assumption)) | (apply ef_ldp; exact rfl; exact rfl; (exact rfl); exact rfl; (exact rfl); (exact rfl)) | (apply ef_fap; exact rfl; exact rfl) | (apply ef_box; exact rfl; exact rfl; exact rfl; exact rfl) | (apply ef_nil0; exact rfl) | (apply ef_mks; exact rfl; exact rfl; (omega); (omega)) | apply ef_nil | apply seqQ.normal)
  refine ef_givev rfl (by exact rfl) (giveV_arr (es := List.replicate n.ls.length (I64 0)) rfl (by simp) (by rw [← List.map_replicate]; exact ltL_I 0 _) rfl) ?_
  rw [show List.replicate n.ls.length (I64 0) = (List.replicate n.ls.length (0 : Int)).map I64 by rw [List.map_replicate]]
  repeat (first | (apply ef_mv; exact rfl; exact rfl) | apply ef_nil | apply seqQ.normal | apply ef_block)
  refine ef_loopf (α := Nat × List Int) (fun p => p.1 ≤ 15 ∧ CB n p.2 ∧ (p.1 = 15 → LocB n p.2)) (fun p => [(5, I64 (stN p.1)), (4, .sl (p.2.map I64))]) [(1, .ptr 0 0 0 0)] (fun _ => [⟨0, false, 2, [encN n]⟩, ⟨0, true, 1, []⟩, ⟨1, false, 1, []⟩]) (fun p => 15 - p.1) (0, List.replicate n.ls.length (0 : Int)) [5, 4] (fun _ => rfl) (by ((repeat (refine Hold.cons (by exact rfl) ?_)); exact Hold.nil)) (by ((repeat (refine Hold.cons (by exact rfl) ?_)); exact Hold.nil)) rfl rfl ⟨by omega, .start ok, fun h => by cases h⟩ (by simp) ?_
  rintro ⟨j, c⟩ ⟨hj, hc, hloc⟩
  try simp only at hj hc hloc ⊢
  have HC := Bx.mk hc
  have HL := Bx.mk hloc
  clear hc hloc
  by_cases hlt : j < 15
  · have hst := stN_bd j hlt
    have hq := stN_quo j hlt
    have HS14 := Bx.mk (fun h : j + 1 = 15 => show stN j = 1 by obtain rfl : j = 14 := (by omega); rfl)
    generalize hs : stN j = st at *
    repeat (first | apply ef_seq | (apply ef_mv; exact rfl; exact rfl) | (apply ef_bin; exact rfl; exact rfl; exact rfl; (exact cmp_t rfl (by first | exact rfl | (simp only [cmpP]; omega)))) | apply ef_nil | apply seqQ.normal | apply ef_block | apply ef_skip | (apply ef_condt; exact rfl; (exact (rfl : true = true))))
    refine ef_loopf (α := List Int) (fun c => CB n c) (fun c => [(4, .sl (c.map I64))]) [(1, .ptr 0 0 0 0), (5, I64 st)] (fun _ => [⟨0, false, 2, [encN n]⟩, ⟨0, true, 1, []⟩, ⟨1, false, 1, []⟩]) (fun c => (costL n c).toNat) c [4] (fun _ => rfl) (by ((repeat (refine Hold.cons (by exact rfl) ?_)); exact Hold.nil)) (by ((repeat (refine Hold.cons (by exact rfl) ?_)); exact Hold.nil)) rfl rfl HC.out (by have := HC.out.cost; show (costL n c).toNat < 4000000; omega) ?_
    intro c hc
    have HC := Bx.mk hc
    clear hc
    try simp only
    obtain ⟨r, hr, hz⟩ := better_z k n ok c HC.out.len HC.out.bd3 st (by omega) false
    cases r with
    | none =>
      have w1 : ∀ h, orA (k + 4) 75 [encN n, .sl (c.map I64), I64 st, Bo false] h = some (.tup [.arr h.length 0 0 0, Bo false], h ++ [⟨0, true, 1, []⟩]) := fun h => by
        have := callA (k := k + 3) (h := h) (args := [encN n, .sl (c.map I64), I64 st, Bo false]) (frzL_lt (by simp [ltL, MV.lt, ltL_Ln, ltL_Cr, ltL_I])) rfl hz (by simp [btM, okV, ok1, MV.lt, MV.pure]) (by simp [btN, okH, ltL, pureL])
        simpa [shV, sh1, btM, btN] using this
      have HR := Bx.mk hr
      clear hr hz
      repeat (first | apply ef_seq | (apply ef_mv; exact rfl; exact rfl) | (apply ef_bin; exact rfl; exact rfl; exact rfl; (assumption)) | (apply ef_ldp; exact rfl; exact rfl; (exact rfl); exact rfl; (exact rfl); (exact rd_2 rfl rfl)) | (apply ef_notF; exact rfl; exact rfl) | (apply ef_ext; exact rfl; exact rfl; exact rfl) | apply ef_nil | apply seqQ.normal | apply loopQ.exit | apply ef_exit | apply seqQ.exit | apply blockQ.normal | apply blockQ.here | (apply blockQ_there; exact rfl) | apply ef_block | (apply ef_condt; exact rfl; (exact (rfl : true = true))) | (apply ef_call; exact rfl; ((repeat (apply XVs.cons; exact rfl)); exact XVs.nil); (with_reducible exact w1 _)))
      (refine loopQ.normal _ _ ⟨(j + 1, c), ⟨by omega, HC.out, fun h => by have e := HS14.out h; have := HR.out; rw [e] at this; exact this⟩, (by first | (simp only; omega) | omega), ⟨by ((repeat (refine Hold.cons (by exact rfl) ?_)); exact Hold.nil), by ((repeat (refine Hold.cons (by exact rfl) ?_)); exact Hold.nil)⟩, .inr ⟨by ((repeat (refine hdl_cons rfl (by first | rfl | (simp [MV.lt, ltL, ltL_I, ltL_Ln, ltL_Cr])) ?_)); exact hdl_nil), by first | rfl | (simp [hltL, ltL, MV.lt, ltL, ltL_I, ltL_Ln, ltL_Cr])⟩, by first | exact rfl | (simp only [List.map_append, List.map_set]; exact rfl)⟩)
    | some x =>
      have hcl := HC.out.len
      have hx := hr.step ok HC.out (by omega)
      have hxl := hx.1.len
      have w1 : ∀ h, orA (k + 4) 75 [encN n, .sl (c.map I64), I64 st, Bo false] h = some (.tup [.arr h.length 0 c.length 0, Bo true], h ++ [⟨0, false, 1, x.map I64⟩]) := fun h => by
        have := callA (k := k + 3) (h := h) (args := [encN n, .sl (c.map I64), I64 st, Bo false]) (frzL_lt (by simp [ltL, MV.lt, ltL_Ln, ltL_Cr, ltL_I])) rfl hz (by simp [btM, okV, ok1, MV.lt, MV.pure]) (by simp [btN, okH, ltL_I, pureL_I])
        simpa [shV, sh1, btM, btN] using this
      have HX := Bx.mk hx
      clear hx hr hz
      repeat (first | apply ef_seq | (apply ef_mv; exact rfl; exact rfl) | (apply ef_ldp; exact rfl; exact rfl; (exact rfl); exact rfl; (exact rfl); (exact rd_2 rfl rfl)) | (apply ef_notT; exact rfl; exact rfl) | (apply ef_ext; exact rfl; exact rfl; exact rfl) | apply ef_nil | apply seqQ.normal | apply ef_block | apply ef_skip | (apply ef_condf; exact rfl; (exact (rfl : false = false))) | (apply ef_call; exact rfl; ((repeat (apply XVs.cons; exact rfl)); exact XVs.nil); (with_reducible exact w1 _)))
      refine ef_givev rfl (by exact rfl) (giveV_arr (es := x.map I64) rfl (by simp [hxl, hcl]) (ltL_I 0 x) rfl) ?_
      repeat (first | (apply ef_mv; exact rfl; exact rfl) | apply ef_nil | apply blockQ.normal)
      (refine loopQ.normal _ _ ⟨x, HX.out.1, (by have h1 := HX.out.2; have h2 := HX.out.1.nn; show (costL n x).toNat < (costL n c).toNat; omega), ⟨by ((repeat (refine Hold.cons (by exact rfl) ?_)); exact Hold.nil), by ((repeat (refine Hold.cons (by exact rfl) ?_)); exact Hold.nil)⟩, .inr ⟨by ((repeat (refine hdl_cons rfl (by first | rfl | (simp [MV.lt, ltL, ltL_I, ltL_Ln, ltL_Cr])) ?_)); exact hdl_nil), by first | rfl | (simp [hltL, ltL, MV.lt, ltL, ltL_I, ltL_Ln, ltL_Cr])⟩, by first | exact rfl | (simp only [List.map_append, List.map_set]; exact rfl)⟩)
  · obtain rfl : j = 15 := by omega
    have hc := HC.out
    have okb : OkB n.ls.length c := ⟨hc.len, fun v => by have := hc.bd3 v; omega⟩
    have w2 := fun h => rCost_c (k + 1) n ok c okb h (v := .sl (c.map I64)) (frz_sl (ltL_I 0 c))
    clear hc
    rw [show stN 15 = 0 from rfl]
    repeat (first | apply ef_seq | (apply ef_mv; exact rfl; exact rfl) | (apply ef_bin; exact rfl; exact rfl; exact rfl; (exact cmp_f rfl (by simp only [cmpP]; omega))) | (apply ef_ldp; exact rfl; exact rfl; (exact rfl); exact rfl; (exact rfl); (exact rd_2 rfl rfl)) | apply ef_nil | apply seqQ.normal | apply loopQ.exit | apply ef_ret | apply ef_exit | apply seqQ.exit | apply blockQ.here | (apply ef_condf; exact rfl; (exact (rfl : false = false))) | (apply ef_call; exact rfl; ((repeat (apply XVs.cons; exact rfl)); exact XVs.nil); (with_reducible exact w2 _)))
    exact ⟨c, ⟨HC.out, HL.out rfl⟩, fin_sll rfl (by exact rfl) (by exact rfl) (ltL_I 0 c)⟩
theorem Best_c (k : Nat) (n : Nt) (ok : OkN n) : ∃ c, (CB n c ∧ LocB n c) ∧ ∀ h, orA (k + 5) 48 [encN n] h = some (.tup [.sl (c.map I64), I64 (costL n c)], h) := by
  obtain ⟨c, h1, h2⟩ := Best_z k n ok
  refine ⟨c, h1, fun h => ?_⟩
  have := callA (k := k + 4) (h := h) (args := [encN n]) (args' := [encN n]) (frzL_lt (by simp [ltL, MV.lt, ltL_Ln, ltL_Cr])) rfl h2 (by simp [okV, ok1, MV.lt, MV.pure, ltL, ltL_Ln, ltL_Cr, ltL_I]) rfl
  simpa [shV, sh1] using this
theorem mvU_P {n : Nt} (ok : OkN n) {c : List Int} (hl : c.length = n.ls.length) (S : Int → Bool) (h0 : S 0 = false) (b : Int) : costL n (mvU c (setN (fun i => S (i : Int)) n.ls.length) b c.length) = costP n.cs (mvP (cAt c) S b) n.cs.length := by
  rw [costL_P]
  refine costP_congr (m := n.ls.length) (fun x hx => ?_) (fun v h1 h2 => ?_) _ (Nat.le_refl _)
  · have o := ok.rg x hx
    exact ⟨⟨o.l0, o.l1⟩, o.t0, o.t1⟩
  · have e : ((v.toNat : Nat) : Int) = v := by omega
    have hm := mvU_at c (setN (fun i => S (i : Int)) n.ls.length) b _ (Nat.le_refl _) v.toNat
    rw [e] at hm
    rw [hm, setN_bit _ _ _ (by omega)]
    simp only [e]
    unfold mvP
    by_cases hv : v = 0
    · subst hv; rw [if_neg (by simp), h0]; simp
    · cases hS : S v
      · rw [if_neg (by simp)]; simp
      · rw [if_pos ⟨by omega, by omega, rfl⟩]; simp
theorem setN_zero {S : Nat → Bool} : ∀ {m : Nat}, setN S m = 0 → ∀ i, i < m → S i = false
  | 0, _, i, h => by omega
  | m + 1, hz, i, h => by
    rw [setN] at hz
    have h1 : setN S m = 0 := by omega
    by_cases e : i = m
    · subst e
      cases hs : S i
      · rfl
      · rw [hs, if_pos rfl] at hz
        have : 0 < 2 ^ i := Nat.pow_pos (by omega)
        omega
    · exact setN_zero h1 i (by omega)
theorem setN_even {S : Nat → Bool} (h0 : S 0 = false) {m : Nat} (hm : 0 < m) : setN S m % 2 = 0 := by
  have := setN_bit S m 0 hm
  rw [h0, Nat.testBit_zero] at this
  simpa using this
theorem locB_flow {n : Nt} (ok : OkN n) {c : List Int} (hc : CB n c) (hL : LocB n c) : costL n c = valU n.cs (flZ n) n.cs.length := by
  rw [costL_P]
  refine local_flow ok fun S h0 => ?_
  have l1 := ok.l1
  have e1 := mvU_P ok hc.len S h0 1
  have e2 := mvU_P ok hc.len S h0 (-1)
  by_cases hz : setN (fun i => S (i : Int)) n.ls.length = 0
  · have hm : ∀ b : Int, costP n.cs (mvP (cAt c) S b) n.cs.length = costP n.cs (cAt c) n.cs.length := fun b => by
      refine costP_congr (m := n.ls.length) (fun x hx => ?_) (fun v h1 h2 => ?_) _ (Nat.le_refl _)
      · have o := ok.rg x hx
        exact ⟨⟨o.l0, o.l1⟩, o.t0, o.t1⟩
      · have := setN_zero hz v.toNat (by omega)
        simp only [show ((v.toNat : Nat) : Int) = v by omega] at this
        unfold mvP
        rw [this]; simp
    rw [hm, hm]
    exact ⟨Int.le_refl _, Int.le_refl _⟩
  · have he := setN_even (S := fun i => S (i : Int)) h0 l1
    have hb := hL (setN (fun i => S (i : Int)) n.ls.length) (by omega) he (setN_lt _ _)
    have := hb.1 rfl
    rw [e1, show (0 - 1 : Int) = -1 from rfl, e2, costL_P] at this
    exact this
end Go.Proofs.Ytbdleggmdbihnaa

/- Contracts: which flows are accepted, and their values; the program, and the document. -/
namespace Go.Proofs.Ytbdleggmdbihnaa
open Go.RowKit
set_option linter.unusedVariables false
set_option linter.unusedSimpArgs false
end Go.Proofs.Ytbdleggmdbihnaa

/- Contracts of the document: the error and the value of a flow. -/
namespace Go.Proofs.Ytbdleggmdbihnaa
open Go.RowKit
set_option linter.unusedVariables false
set_option linter.unusedSimpArgs false
end Go.Proofs.Ytbdleggmdbihnaa

/- Contracts: the misclosure of a walk; the program, and the document. -/
namespace Go.Proofs.Ytbdleggmdbihnaa
open Go.RowKit
set_option linter.unusedVariables false
set_option linter.unusedSimpArgs false
end Go.Proofs.Ytbdleggmdbihnaa

/- What is kept of an anomaly: its bounds, walks, corrections' own differences; without a program. -/
namespace Go.Proofs.Ytbdleggmdbihnaa
set_option linter.unusedVariables false
set_option linter.unusedSimpArgs false
def kpV (n : Nt) (a : List Int) : Int := valU (nW n a).cs (flZ (nW n a)) (nW n a).cs.length
theorem nW_len (n : Nt) (a : List Int) : (nW n a).cs.length = n.cs.length := wiU_len _ _ _
theorem nW_getD (n : Nt) (a : List Int) {i : Nat} (h : i < n.cs.length) : (nW n a).cs.getD i default = setD (n.cs.getD i default) (cAt a i) := by
  rw [List.getD_eq_getElem?_getD, List.getElem?_eq_getElem (by rw [nW_len]; exact h), nW_get n a i h, List.getD_eq_getElem?_getD, List.getElem?_eq_getElem h]; rfl
theorem kp_nn {n : Nt} {a : List Int} (ok : OkN (nW n a)) : 0 ≤ kpV n a := by
  have := (flZ_max ok).1 _ (fl_zero ok)
  rwa [val_zero] at this
theorem resP_nW (n : Nt) (a : List Int) (p : Int → Int) {i : Nat} (h : i < n.cs.length) : resP ((nW n a).cs.getD i default) p = cAt a i - p (n.cs.getD i default).ln + p (n.cs.getD i default).ti := by
  rw [nW_getD n a h]; rfl
theorem kp_le {n : Nt} {a : List Int} (ok : OkN (nW n a)) : kpV n a ≤ wsU n.cs a n.cs.length := by
  have h1 := weak ok (flZ_ok ok).1 (fun _ => 0)
  have h2 : ∀ i, i ≤ n.cs.length → costP (nW n a).cs (fun _ => 0) i = wsU n.cs a i := fun i => by
    induction i with
    | zero => intro _; rfl
    | succ i ih =>
      intro hi
      rw [costP, wsU, ih (by omega), resP_nW n a _ (by omega), nW_getD n a (by omega)]
      simp only [Int.sub_zero, Int.add_zero]
      rfl
  rw [nW_len, h2 _ (Nat.le_refl _)] at h1
  unfold kpV
  rw [nW_len]; exact h1
end Go.Proofs.Ytbdleggmdbihnaa

/- Contracts: what is kept of an anomaly. -/
namespace Go.Proofs.Ytbdleggmdbihnaa
open Go.RowKit
set_option linter.unusedVariables false
set_option linter.unusedSimpArgs false
theorem cAt_ok {ds : List Int} (h : ds.any anB = false) (v : Int) : -10000 ≤ cAt ds v ∧ cAt ds v ≤ 10000 := by
  unfold cAt
  rw [List.getD_eq_getElem?_getD]
  cases hh : ds[v.toNat]? with
  | none => simp
  | some z =>
    rw [List.any_eq_false] at h
    have := h z (List.mem_of_getElem? hh)
    simp only [anB, Bool.not_eq_true', Bool.not_eq_false] at this
    exact inB_iff.1 this
theorem fin3l {x : MX2} {A : Sl} {h : MHeap} {a b c : Value} {m : MV} {t u v : Nat} (hx : outX x = true) (h1 : look A t = some (.lit a)) (h2 : look A u = some (.lit b)) (h3 : look A v = some (.lit c)) (he : MV.tup [.lit a, .lit b, .lit c] = m) : FinF [.tmp t, .tmp u, .tmp v] m [] x A h := by
  subst he
  exact ⟨hx, [.lit a, .lit b, .lit c], [.lit a, .lit b, .lit c], ⟨_, _, rfl, h1, _, _, rfl, h2, _, [], rfl, h3, rfl⟩, by simp [impIds], by simp [impIds, expL, frz, MV.lt], rfl⟩
def kpE (n : Nt) (ds : List Int) : Int := firstE [(netF n).2, unl (decide (ds.length = n.cs.length)) 10, unl (!ds.any anB) 2]
theorem kpE_is (n : Nt) (ds : List Int) : kpE n ds = if (netF n).2 = 0 then anE n.cs.length ds else (netF n).2 := by
  unfold kpE anE unl
  simp only [firstE]
  by_cases h1 : (netF n).2 = 0
  · by_cases h2 : ds.length = n.cs.length
    · cases h3 : ds.any anB <;> simp [h1, h2]
    · simp [h1, h2]
  · simp [h1]
theorem anE_ok {m : Nat} {ds : List Int} (h : anE m ds = 0) : ds.length = m ∧ ds.any anB = false := by
  unfold anE at h
  split at h
  · rename_i hl
    split at h
    · cases h
    · rename_i ha; exact ⟨hl, by simpa using ha⟩
  · cases h
theorem mf_KeptOf : MT.mf 11 = some mfW_l11 := mfW_q11
set_option maxHeartbeats 2000000 in
theorem KeptOf_z (k : Nat) (n : Nt) (hb : BdN n) (h0 : (netF n).2 = 0) (ds : List Int) (hd : ds.length = n.cs.length) (ha : ds.any anB = false) :
    runZ MT (orA (k + 6)) (itA (k + 6)) 4000000 11 [encN n, .sl (ds.map I64)] [] = some (.tup [I64 (kpV n ds), I64 (wsU n.cs ds n.cs.length - kpV n ds), I64 0], []) := by
  have ok := net_ok h0
  have hcb := fun v => cAt_ok ha v
  have okW := nW_ok ok hcb
  have hs3 : (MV.sl (ds.map I64)).slen = some ds.length := by simp [MV.slen]
  have hs2 : (MV.sl (n.cs.map encCr)).slen = some n.cs.length := by simp [MV.slen]
  have c16 := ok.c16
  have l8 := ok.l8
  have l1 := ok.l1
  have hz := (flZ_ok okW).1
  have w1 := fun h => open_c k n hb h
  have w2 := fun e h => unless_c (k + 5) true e h (e := 0) rfl
  have w3 := fun h => ContainsFuncI_c (k + 4) 38 [] anB ds h (v := .sl (ds.map I64)) (fv := .fn 38 0 []) (by omega) (fun z _ h => kp1_c (k + 1) z h) rfl (frz_sl (ltL_I 0 ds)) rfl ha
  have w4 := fun h => withN_c (k + 4) n l1 (by omega) (by omega) ds hd h
  have w5 := fun h => flow_c k (nW n ds) okW h
  have w6 := fun h => cost_c (k + 4) n ok ds hd (fun v => by have := hcb v; omega) h (v := .sl (ds.map I64)) (frz_sl (ltL_I 0 ds))
  have b1 := wsU_bd ok (ds := ds) (fun v => by have := hcb v; omega) _ (Nat.le_refl _)
  have b2 := valU_bd okW (hz.bd10 okW) _ (Nat.le_refl _)
  have w7 := fun h v hv => value_c (k + 5) (nW n ds) okW (flZ (nW n ds)) hz.len (hz.bd10 okW) h (v := v) hv
  have hwl : (nW n ds).cs.length = n.cs.length := wiU_len _ _ _
  rw [h0] at w1
  unfold kpV
  refine runZ_of mf_KeptOf (by simp) ?_
  simp only [argsL]
  generalize hW : nW n ds = W at *
  generalize hF : flZ W = F at *
  generalize valU W.cs F W.cs.length = val at *
  generalize wsU n.cs ds n.cs.length = ws at *
  repeat (first | apply ef_seq | (apply ef_mv; exact rfl; exact rfl) | (apply ef_bin; exact rfl; exact rfl; exact rfl; (first | exact cmp_t rfl (by first | exact rfl | (simp only [cmpP]; omega)) | exact rfl)) | (apply ef_len; exact rfl; exact rfl; (assumption)) | (apply ef_ldp; exact rfl; exact rfl; (exact rfl); exact rfl; (exact rfl); (first | exact rd_2 rfl rfl | exact rfl)) | (apply ef_fap; exact rfl; exact rfl) | (apply ef_notF; exact rfl; exact rfl) | (apply ef_ext; exact rfl; exact rfl; exact rfl) | (apply ef_box; exact rfl; exact rfl; exact rfl; exact rfl) | (apply ef_new; exact rfl) | (apply ef_bsl; exact rfl; (repeat (apply XVs.cons; exact rfl)); exact XVs.nil; exact rfl) | (apply ef_st; exact rfl; exact rfl; exact rfl; exact rfl; exact rfl; exact rfl; (exact rfl); exact rfl) | apply ef_nil | apply seqQ.normal | apply ef_skip | (apply ef_condf; exact rfl; (exact (rfl : false = false))) | (apply ef_call; exact rfl; ((repeat (apply XVs.cons; exact rfl)); exact XVs.nil); (with_reducible first | exact w1 _ | exact w2 _ _ | exact w3 _ | exact w4 _ | exact w5 _)) | (apply ef_call; exact rfl; ((repeat (apply XVs.cons; exact rfl)); exact XVs.nil); (with_reducible apply first3_c); exact rfl; exact rfl; exact rfl; (exact rfl)))
  have hzl := hz.len
  have hwr : IntKind.i64.wrap (ws - val) = ws - val := by
    exact wrap_of (by omega) (by omega)
  (apply ef_call; (· exact rfl); (· ((repeat (apply XVs.cons; exact rfl)); exact XVs.nil)); · exact w7 _ _ (frz_row (o := ⟨0, false, 1, F.map I64⟩) rfl rfl (by simp [hzl]) (ltL_I 0 F) rfl))
  repeat (first | apply ef_seq | (apply ef_mv; exact rfl; exact rfl) | (apply ef_bin; exact rfl; exact rfl; exact rfl; (((with_reducible refine bin_sub (wrap_of ?_ ?_)) <;> omega))) | (apply ef_ldp; exact rfl; exact rfl; (exact rfl); exact rfl; (exact rfl); (exact rd_2 rfl rfl)) | apply ef_nil | apply seqQ.normal | apply ef_ret | (apply ef_call; exact rfl; ((repeat (apply XVs.cons; exact rfl)); exact XVs.nil); (with_reducible exact w6 _)))
  (apply fin3l; (· exact rfl); (· exact rfl); (· exact rfl); (· exact rfl); (· rfl))
set_option maxHeartbeats 2000000 in
theorem KeptOf_e (k : Nat) (n : Nt) (hb : BdN n) (ds : List Int) (hl : ds.length ≤ 1000) (hc : n.cs.length ≤ 1000) (he : kpE n ds ≠ 0) :
    runZ MT (orA (k + 6)) (itA (k + 6)) 4000000 11 [encN n, .sl (ds.map I64)] [] = some (.tup [I64 0, I64 0, I64 (kpE n ds)], []) := by
  have hs3 : (MV.sl (ds.map I64)).slen = some ds.length := by simp [MV.slen]
  have hs2 : (MV.sl (n.cs.map encCr)).slen = some n.cs.length := by simp [MV.slen]
  have w1 := fun h => open_c k n hb h
  have w2 := fun b e h => unless_c (k + 5) b e h rfl
  obtain ⟨sb, hsb⟩ : ∃ sb, ds.any anB = sb := ⟨_, rfl⟩
  have w3 := fun h => ContainsFuncI_c (k + 4) 38 [] anB ds h (v := .sl (ds.map I64)) (fv := .fn 38 0 []) hl (fun z _ h => kp1_c (k + 1) z h) rfl (frz_sl (ltL_I 0 ds)) rfl hsb
  obtain ⟨e, hE⟩ : ∃ e, kpE n ds = e := ⟨_, rfl⟩
  have hE2 := hE
  unfold kpE at hE2
  rw [hsb] at hE2
  have hdl : (((ds.length : Nat) : Int) == ((n.cs.length : Nat) : Int)) = decide (ds.length = n.cs.length) := by
    rw [Bool.eq_iff_iff]; simp; omega
  rw [hE] at he ⊢
  refine runZ_of mf_KeptOf (by simp) ?_
  simp only [argsL]
  generalize (netF n).2 = e0 at *
  generalize decide (ds.length = n.cs.length) = db at *
  have hne : (e != 0) = true := by simpa using he
  repeat (first | apply ef_seq | (apply ef_mv; exact rfl; exact rfl) | (apply ef_bin; exact rfl; exact rfl; exact rfl; (exact rfl)) | (apply ef_len; exact rfl; exact rfl; (assumption)) | (apply ef_ldp; exact rfl; exact rfl; (exact rfl); exact rfl; (exact rfl); (first | exact rd_2 rfl rfl | exact rfl)) | (apply ef_fap; exact rfl; exact rfl) | (apply ef_not; exact rfl; exact rfl; exact rfl) | (apply ef_ext; exact rfl; exact rfl; exact rfl) | (apply ef_box; exact rfl; exact rfl; exact rfl; exact rfl) | (apply ef_new; exact rfl) | (apply ef_bsl; exact rfl; (repeat (apply XVs.cons; exact rfl)); exact XVs.nil; exact rfl) | (apply ef_st; exact rfl; exact rfl; exact rfl; exact rfl; exact rfl; exact rfl; (exact rfl); exact rfl) | apply ef_nil | apply seqQ.normal | (apply ef_call; exact rfl; ((repeat (apply XVs.cons; exact rfl)); exact XVs.nil); (with_reducible first | exact w1 _ | exact w2 _ _ _ | exact w3 _)) | (apply ef_call; exact rfl; ((repeat (apply XVs.cons; exact rfl)); exact XVs.nil); (with_reducible apply first3_c); exact rfl; exact rfl; exact rfl; (exact rfl)))
  rw [hdl, hE2]
  repeat (first | apply ef_seq | (apply ef_mv; exact rfl; exact rfl) | apply ef_nil | apply seqQ.normal | apply ef_ret | apply seqQ.ret | (apply ef_condt; exact rfl; (assumption)))
  (apply fin3l; (· exact rfl); (· exact rfl); (· exact rfl); (· exact rfl); (· rfl))
theorem KeptOf_c (k : Nat) (n : Nt) (hb : BdN n) (ds : List Int) (hl : ds.length ≤ 1000) (hc : n.cs.length ≤ 1000) (h : MHeap) {v : MV} (hv : frz 0 [] h 8 v = some (.sl (ds.map I64))) :
    orA (k + 7) 11 [encN n, v] h = some (.tup [I64 (if kpE n ds = 0 then kpV n ds else 0), I64 (if kpE n ds = 0 then wsU n.cs ds n.cs.length - kpV n ds else 0), I64 (kpE n ds)], h) := by
  have hz : runZ MT (orA (k + 6)) (itA (k + 6)) 4000000 11 [encN n, .sl (ds.map I64)] [] = some (.tup [I64 (if kpE n ds = 0 then kpV n ds else 0), I64 (if kpE n ds = 0 then wsU n.cs ds n.cs.length - kpV n ds else 0), I64 (kpE n ds)], []) := by
    by_cases he : kpE n ds = 0
    · have he2 := he
      rw [kpE_is] at he2
      split at he2
      case isFalse h0 => exact absurd he2 h0
      rename_i h0
      obtain ⟨h1, h2⟩ := anE_ok he2
      rw [he, if_pos rfl, if_pos rfl]
      exact KeptOf_z k n hb h0 ds h1 h2
    · rw [if_neg he, if_neg he]
      exact KeptOf_e k n hb ds hl hc he
  have := callA (k := k + 6) (h := h) (args := [encN n, v]) (args' := [encN n, .sl (ds.map I64)]) (by simp [List.mapM_cons, hv, frz_lt (ltL_N n 0)]) rfl hz (by simp [okV, ok1, MV.lt, MV.pure]) rfl
  simpa [shV, sh1] using this
end Go.Proofs.Ytbdleggmdbihnaa

/- LevelKept: the walk. -/
namespace Go.Proofs.Ytbdleggmdbihnaa
open Go.RowKit
set_option linter.unusedVariables false
set_option linter.unusedSimpArgs false
theorem mf_light : MT.mf 9 = some ⟨18, [(.tmp 2)], (.seq (.reg [⟨none, some 1, .box 2 (.s 0)⟩, ⟨none, some 2, .mv (.c (.lit (.bool false)))⟩]) (.seq (.reg [⟨none, some 3, .fa 0 (.s 1)⟩, ⟨none, some 4, .ld none (.s 3)⟩, ⟨none, some 5, .len (.s 4)⟩, ⟨none, some 6, .bin .leq (.s 5) (.c (.lit (.int .i64 6)))⟩, ⟨none, some 7, .mv (.s 6)⟩, ⟨some (7, true), some 8, .fa 1 (.s 1)⟩, ⟨some (7, true), some 9, .ld none (.s 8)⟩, ⟨some (7, true), some 10, .len (.s 9)⟩, ⟨some (7, true), some 11, .bin .leq (.s 10) (.c (.lit (.int .i64 10)))⟩, ⟨none, some 12, .pick (.s 7) (.s 11) (.c (.lit (.bool false)))⟩, ⟨none, some 13, .mv (.s 12)⟩, ⟨some (13, false), some 14, .ld (some 2) (.s 1)⟩, ⟨some (13, false), some 15, .call 14 [.s 14]⟩, ⟨some (13, false), some 16, .bin .neq (.s 15) (.c (.lit (.int .i64 0)))⟩, ⟨none, some 17, .pick (.s 13) (.c (.lit (.bool true))) (.s 16)⟩, ⟨none, some 2, .mv (.s 17)⟩]) .ret))⟩ := by kernel_rfl
def lightB (n : Nt) : Bool := (decide (n.ls.length ≤ 6) && decide (n.cs.length ≤ 10)) || decide ((netF n).2 ≠ 0)
theorem light_c (k : Nat) (n : Nt) (hb : BdN n) (h : MHeap) : orA (k + 5) 9 [encN n] h = some (Bo (lightB n), h) := by
  refine callL (args' := [encN n]) (frzL_lt (by simp [ltL, MV.lt, ltL_Ln, ltL_Cr])) rfl (runZ_of mf_light (by simp) ?_)
  simp only [argsL]
  have hs1 : (MV.sl (n.ls.map encLn)).slen = some n.ls.length := by simp [MV.slen]
  have hs2 : (MV.sl (n.cs.map encCr)).slen = some n.cs.length := by simp [MV.slen]
  have ho := fun h => NetErr_c k n hb h
  have HL := Bx.mk (show lightB n = ((decide (n.ls.length ≤ 6) && decide (n.cs.length ≤ 10)) || decide ((netF n).2 ≠ 0)) from rfl)
  generalize (netF n).2 = e at ho HL
  by_cases h1 : n.ls.length ≤ 6
  · by_cases h2 : n.cs.length ≤ 10
    · repeat (first | apply ef_seq | (apply ef_mv; exact rfl; exact rfl) | (apply ef_bin; exact rfl; exact rfl; exact rfl; (exact cmp_t rfl (by first | exact rfl | (simp only [cmpP]; omega)))) | (apply ef_gy; exact rfl; (exact (rfl : true = true))) | (apply ef_gn; exact rfl; (exact (rfl : true = true)); exact rfl) | (apply ef_pick; exact rfl; exact rfl; exact rfl) | (apply ef_len; exact rfl; exact rfl; (assumption)) | (apply ef_ldp; exact rfl; exact rfl; (exact rfl); exact rfl; (exact rfl); (exact rfl)) | (apply ef_fap; exact rfl; exact rfl) | (apply ef_box; exact rfl; exact rfl; exact rfl; exact rfl) | apply ef_nil | apply seqQ.normal | apply ef_ret)
      (refine fin1 rfl (by exact rfl) rfl ?_)
      rw [HL.out, decide_eq_true h1, decide_eq_true h2]; rfl
    · by_cases h3 : e = 0
      all_goals repeat (first | apply ef_seq | (apply ef_mv; exact rfl; exact rfl) | (apply ef_bin; exact rfl; exact rfl; exact rfl; (first | exact cmp_t rfl (by first | exact rfl | (simp only [cmpP]; omega)) | exact cmp_f rfl (by simp only [cmpP]; omega))) | (apply ef_gy; exact rfl; (first | exact (rfl : true = true) | exact (rfl : false = false))) | (apply ef_pick; exact rfl; exact rfl; exact rfl) | (apply ef_len; exact rfl; exact rfl; (assumption)) | (apply ef_ldp; exact rfl; exact rfl; (exact rfl); exact rfl; (exact rfl); (first | exact rd_2 rfl rfl | exact rfl)) | (apply ef_fap; exact rfl; exact rfl) | (apply ef_box; exact rfl; exact rfl; exact rfl; exact rfl) | apply ef_nil | apply seqQ.normal | apply ef_ret | (apply ef_call; exact rfl; ((repeat (apply XVs.cons; exact rfl)); exact XVs.nil); (with_reducible exact ho _)))
      all_goals (refine fin1 rfl (by exact rfl) rfl ?_)
      all_goals (rw [HL.out]; simp [h1, h2, h3])
  · by_cases h3 : e = 0
    all_goals repeat (first | apply ef_seq | (apply ef_mv; exact rfl; exact rfl) | (apply ef_bin; exact rfl; exact rfl; exact rfl; (first | exact cmp_t rfl (by first | exact rfl | (simp only [cmpP]; omega)) | exact cmp_f rfl (by simp only [cmpP]; omega))) | (apply ef_gy; exact rfl; (exact (rfl : false = false))) | (apply ef_gn; exact rfl; (exact (rfl : false = false)); exact rfl) | (apply ef_pick; exact rfl; exact rfl; exact rfl) | (apply ef_len; exact rfl; exact rfl; (assumption)) | (apply ef_ldp; exact rfl; exact rfl; (exact rfl); exact rfl; (exact rfl); (first | exact rd_2 rfl rfl | exact rfl)) | (apply ef_fap; exact rfl; exact rfl) | (apply ef_box; exact rfl; exact rfl; exact rfl; exact rfl) | apply ef_nil | apply seqQ.normal | apply ef_ret | (apply ef_call; exact rfl; ((repeat (apply XVs.cons; exact rfl)); exact XVs.nil); (with_reducible exact ho _)))
    all_goals (refine fin1 rfl (by exact rfl) rfl ?_)
    all_goals (rw [HL.out]; simp [h1, h3])
theorem mf_rKept : MT.mf 16 = some ⟨15, [(.tmp 4)], (.seq (.reg [⟨none, some 2, .box 2 (.s 0)⟩, ⟨none, some 4, .mv (.c (.lit (.int .i64 0)))⟩]) (.seq (.reg [⟨none, some 8, .ld (some 2) (.s 2)⟩, ⟨none, some 9, .mv (.s 1)⟩, ⟨none, some 10, .call 21 [.s 8, .s 9]⟩, ⟨none, some 11, .call 48 [.s 10]⟩, ⟨none, some 7, .mv (.s 11)⟩, ⟨none, some 12, .ext (.s 7) 0⟩, ⟨none, some 13, .ext (.s 7) 1⟩, ⟨none, some 5, .mv (.s 12)⟩, ⟨none, some 6, .mv (.s 13)⟩]) (.seq (.reg [⟨none, some 14, .mv (.s 6)⟩, ⟨none, some 4, .mv (.s 14)⟩]) .ret)))⟩ := by kernel_rfl
theorem rKept_c (k : Nat) (n : Nt) (hb : BdN n) (h0 : (netF n).2 = 0) (ds : List Int) (hd : ds.length = n.cs.length) (ha : ds.any anB = false) (h : MHeap) :
    orA (k + 6) 16 [encN n, .sl (ds.map I64)] h = some (I64 (kpV n ds), h) := by
  have ok := net_ok h0
  have okW := nW_ok ok (fun v => cAt_ok ha v)
  obtain ⟨c, ⟨hc, hL⟩, hB⟩ := Best_c k (nW n ds) okW
  have hk : costL (nW n ds) c = kpV n ds := locB_flow okW hc hL
  rw [hk] at hB
  have c16 := ok.c16
  refine callL (args' := [encN n, .sl (ds.map I64)]) (frzL_lt (by simp [ltL, MV.lt, ltL_Ln, ltL_Cr, ltL_I])) rfl (runZ_of mf_rKept (by simp) ?_)
  simp only [argsL]
  have w1 := fun h => rWithN_c (k + 3) n hb ok.l1 (by omega) ds hd h
  clear hk hc hL okW ok
  generalize kpV n ds = kk at *
  generalize nW n ds = W at *
  repeat (first | apply ef_seq | (apply ef_mv; exact rfl; exact rfl) | (apply ef_ldp; exact rfl; exact rfl; (exact rfl); exact rfl; (exact rfl); (exact rd_2 rfl rfl)) | (apply ef_ext; exact rfl; exact rfl; exact rfl) | (apply ef_box; exact rfl; exact rfl; exact rfl; exact rfl) | apply ef_nil | apply seqQ.normal | apply ef_ret | (apply ef_call; exact rfl; ((repeat (apply XVs.cons; exact rfl)); exact XVs.nil); (with_reducible first | exact w1 _ | exact hB _)))
  (refine fin1 rfl (by exact rfl) rfl ?_)
  rfl
theorem mf_LevelKept : MT.mf 3 = some ⟨73, [(.tmp 4)], (.seq (.reg [⟨none, some 2, .box 2 (.s 0)⟩, ⟨none, some 4, .mv (.c (.lit (.bool false)))⟩]) (.seq (.seq (.reg [⟨none, some 10, .call 7 []⟩, ⟨none, some 11, .un .not (.s 10)⟩]) (.cond (.s 11) (.seq (.reg [⟨none, some 4, .mv (.c (.lit (.bool false)))⟩]) .ret) .skip)) (.seq (.seq (.reg [⟨none, some 12, .ld (some 2) (.s 2)⟩, ⟨none, some 13, .call 8 [.s 12]⟩, ⟨none, some 14, .un .not (.s 13)⟩, ⟨none, some 15, .mv (.s 14)⟩, ⟨some (15, false), some 16, .ld (some 2) (.s 2)⟩, ⟨some (15, false), some 17, .call 9 [.s 16]⟩, ⟨some (15, false), some 18, .un .not (.s 17)⟩, ⟨none, some 19, .pick (.s 15) (.c (.lit (.bool true))) (.s 18)⟩, ⟨none, some 20, .mv (.s 19)⟩, ⟨some (20, false), some 21, .mv (.s 1)⟩, ⟨some (20, false), some 22, .call 10 [.s 21]⟩, ⟨some (20, false), some 23, .un .not (.s 22)⟩, ⟨none, some 24, .pick (.s 20) (.c (.lit (.bool true))) (.s 23)⟩]) (.cond (.s 24) (.seq (.reg [⟨none, some 4, .mv (.c (.lit (.bool true)))⟩]) .ret) .skip)) (.seq (.reg [⟨none, some 26, .ld (some 2) (.s 2)⟩, ⟨none, some 27, .call 12 [.s 26]⟩, ⟨none, some 28, .mv (.s 1)⟩, ⟨none, some 29, .call 13 [.s 28]⟩, ⟨none, some 30, .call 11 [.s 27, .s 29]⟩, ⟨none, some 25, .mv (.s 30)⟩, ⟨none, some 31, .ext (.s 25) 0⟩, ⟨none, some 32, .ext (.s 25) 1⟩, ⟨none, some 33, .ext (.s 25) 2⟩, ⟨none, some 5, .mv (.s 31)⟩, ⟨none, some 6, .mv (.s 32)⟩, ⟨none, some 7, .mv (.s 33)⟩]) (.seq (.reg [⟨none, some 34, .ld (some 2) (.s 2)⟩, ⟨none, some 35, .call 14 [.s 34]⟩, ⟨none, some 8, .mv (.s 35)⟩]) (.seq (.seq (.reg [⟨none, some 36, .mv (.s 8)⟩, ⟨none, some 37, .bin .eql (.s 36) (.c (.lit (.int .i64 0)))⟩]) (.cond (.s 37) (.reg [⟨none, some 38, .ld (some 2) (.s 2)⟩, ⟨none, some 39, .mv (.s 1)⟩, ⟨none, some 40, .call 15 [.s 38, .s 39]⟩, ⟨none, some 8, .mv (.s 40)⟩]) .skip)) (.seq (.seq (.reg [⟨none, some 41, .mv (.s 8)⟩, ⟨none, some 42, .bin .neq (.s 41) (.c (.lit (.int .i64 0)))⟩]) (.cond (.s 42) (.seq (.reg [⟨none, some 43, .mv (.s 7)⟩, ⟨none, some 44, .mv (.s 8)⟩, ⟨none, some 45, .bin .eql (.s 43) (.s 44)⟩, ⟨none, some 46, .mv (.s 45)⟩, ⟨some (46, true), some 47, .mv (.s 5)⟩, ⟨some (46, true), some 48, .bin .eql (.s 47) (.c (.lit (.int .i64 0)))⟩, ⟨none, some 49, .pick (.s 46) (.s 48) (.c (.lit (.bool false)))⟩, ⟨none, some 50, .mv (.s 49)⟩, ⟨some (50, true), some 51, .mv (.s 6)⟩, ⟨some (50, true), some 52, .bin .eql (.s 51) (.c (.lit (.int .i64 0)))⟩, ⟨none, some 53, .pick (.s 50) (.s 52) (.c (.lit (.bool false)))⟩, ⟨none, some 4, .mv (.s 53)⟩]) .ret) .skip)) (.seq (.reg [⟨none, some 54, .ld (some 2) (.s 2)⟩, ⟨none, some 55, .mv (.s 1)⟩, ⟨none, some 56, .call 16 [.s 54, .s 55]⟩, ⟨none, some 9, .mv (.s 56)⟩]) (.seq (.reg [⟨none, some 57, .mv (.s 7)⟩, ⟨none, some 58, .bin .eql (.s 57) (.c (.lit (.int .i64 0)))⟩, ⟨none, some 59, .mv (.s 58)⟩, ⟨some (59, true), some 60, .mv (.s 5)⟩, ⟨some (59, true), some 61, .mv (.s 9)⟩, ⟨some (59, true), some 62, .bin .eql (.s 60) (.s 61)⟩, ⟨none, some 63, .pick (.s 59) (.s 62) (.c (.lit (.bool false)))⟩, ⟨none, some 64, .mv (.s 63)⟩, ⟨some (64, true), some 65, .mv (.s 6)⟩, ⟨some (64, true), some 66, .ld (some 2) (.s 2)⟩, ⟨some (64, true), some 67, .mv (.s 1)⟩, ⟨some (64, true), some 68, .call 17 [.s 66, .s 67]⟩, ⟨some (64, true), some 69, .mv (.s 9)⟩, ⟨some (64, true), some 70, .bin .sub (.s 68) (.s 69)⟩, ⟨some (64, true), some 71, .bin .eql (.s 65) (.s 70)⟩, ⟨none, some 72, .pick (.s 64) (.s 71) (.c (.lit (.bool false)))⟩, ⟨none, some 4, .mv (.s 72)⟩]) .ret)))))))))⟩ := by kernel_rfl
set_option maxHeartbeats 4000000 in
theorem LevelKept_z (n : Nt) (a : List Int) (m1 : n.ls.length ≤ 9223372036854775807) (m2 : n.cs.length ≤ 9223372036854775807) (m3 : a.length ≤ 9223372036854775807) :
    runZ MT (orC LZ 13) (itA 14) 4000000 3 [encN n, .sl (a.map I64)] [] = some (Bo true, []) := by
  refine runZ_of mf_LevelKept (by simp) ?_
  simp only [argsL]
  have w0 : ∀ h, orC LZ 13 7 [] h = some (Bo true, h) := fun h => orC_of rfl (awake_c h)
  have w1 : ∀ h, orC LZ 13 8 [encN n] h = _ := fun h => orC_of rfl (Few_c 13 n m1 m2 h)
  cases hf : fewNt n
  · rw [hf] at w1
    repeat (first | apply ef_seq | (apply ef_mv; exact rfl; exact rfl) | (apply ef_gn; exact rfl; (exact (rfl : true = true)); exact rfl) | (apply ef_pick; exact rfl; exact rfl; exact rfl) | (apply ef_ldp; exact rfl; exact rfl; (exact rfl); exact rfl; (exact rfl); (exact rd_2 rfl rfl)) | (apply ef_notT; exact rfl; exact rfl) | (apply ef_notF; exact rfl; exact rfl) | (apply ef_box; exact rfl; exact rfl; exact rfl; exact rfl) | apply ef_nil | apply seqQ.normal | apply ef_ret | apply seqQ.ret | apply ef_skip | (apply ef_condt; exact rfl; (exact (rfl : true = true))) | (apply ef_condf; exact rfl; (exact (rfl : false = false))) | (apply ef_call; exact rfl; ((repeat (apply XVs.cons; exact rfl)); exact XVs.nil); (with_reducible first | exact w0 _ | exact w1 _)))
    (refine fin1 rfl (by exact rfl) rfl ?_)
    rfl
  obtain ⟨hb, n10, n18⟩ := fewNt_bd hf
  rw [hf] at w1
  have w2 : ∀ h, orC LZ 13 9 [encN n] h = _ := fun h => orC_of rfl (light_c 9 n hb h)
  cases hli : lightB n
  · rw [hli] at w2
    repeat (first | apply ef_seq | (apply ef_mv; exact rfl; exact rfl) | (apply ef_gy; exact rfl; (exact (rfl : false = false))) | (apply ef_gn; exact rfl; (exact (rfl : true = true)); exact rfl) | (apply ef_pick; exact rfl; exact rfl; exact rfl) | (apply ef_ldp; exact rfl; exact rfl; (exact rfl); exact rfl; (exact rfl); (exact rd_2 rfl rfl)) | (apply ef_notT; exact rfl; exact rfl) | (apply ef_notF; exact rfl; exact rfl) | (apply ef_box; exact rfl; exact rfl; exact rfl; exact rfl) | apply ef_nil | apply seqQ.normal | apply ef_ret | apply seqQ.ret | apply ef_skip | (apply ef_condt; exact rfl; (exact (rfl : true = true))) | (apply ef_condf; exact rfl; (exact (rfl : false = false))) | (apply ef_call; exact rfl; ((repeat (apply XVs.cons; exact rfl)); exact XVs.nil); (with_reducible first | exact w0 _ | exact w1 _ | exact w2 _)))
    (refine fin1 rfl (by exact rfl) rfl ?_)
    rfl
  rw [hli] at w2
  have w3 : ∀ h, orC LZ 13 10 [.sl (a.map I64)] h = _ := fun h => orC_of rfl (fewNumbers_c 13 a m3 h)
  by_cases hd1 : a.length ≤ 40
  rotate_left
  · rw [decide_eq_false hd1] at w3
    repeat (first | apply ef_seq | (apply ef_mv; exact rfl; exact rfl) | (apply ef_gy; exact rfl; (exact (rfl : false = false))) | (apply ef_pick; exact rfl; exact rfl; exact rfl) | (apply ef_ldp; exact rfl; exact rfl; (exact rfl); exact rfl; (exact rfl); (exact rd_2 rfl rfl)) | (apply ef_notT; exact rfl; exact rfl) | (apply ef_notF; exact rfl; exact rfl) | (apply ef_box; exact rfl; exact rfl; exact rfl; exact rfl) | apply ef_nil | apply seqQ.normal | apply ef_ret | apply seqQ.ret | apply ef_skip | (apply ef_condt; exact rfl; (exact (rfl : true = true))) | (apply ef_condf; exact rfl; (exact (rfl : false = false))) | (apply ef_call; exact rfl; ((repeat (apply XVs.cons; exact rfl)); exact XVs.nil); (with_reducible first | exact w0 _ | exact w1 _ | exact w2 _ | exact w3 _)))
    (refine fin1 rfl (by exact rfl) rfl ?_)
    rfl
  rw [decide_eq_true hd1] at w3
  have w7 := fun h => Copy_cc 13 n hb h
  have w8 : ∀ h, orC LZ 13 13 [.sl (a.map I64)] h = _ := fun h => orC_of rfl (bCopyInts_c 13 a h (v := .sl (a.map I64)) (by omega) (frz_sl (ltL_I 0 a)))
  have w9 : ∀ h v (hv : frz 0 [] h 8 v = some (.sl (a.map I64))), orC LZ 13 11 [encN n, v] h = _ := fun h v hv => orC_of rfl (KeptOf_c 7 n hb a (by omega) (by omega) h hv)
  have w4 : ∀ h, orC LZ 13 14 [encN n] h = _ := fun h => orC_of rfl (NetErr_c 10 n hb h)
  have w5 : ∀ h, orC LZ 13 15 [encN n, .sl (a.map I64)] h = _ := fun h => orC_of rfl (anErr_c 11 n a (by omega) (by omega) h (frz_sl (ltL_I 0 a)))
  have HK := Bx.mk (kpE_is n a)
  by_cases h0 : (netF n).2 = 0
  · rw [if_pos h0] at HK
    by_cases hd2 : anE n.cs.length a = 0
    · have ok := net_ok h0
      obtain ⟨hal, haB⟩ := anE_ok hd2
      have w6 : ∀ h, orC LZ 13 16 [encN n, .sl (a.map I64)] h = _ := fun h => orC_of rfl (rKept_c 8 n hb h0 a hal haB h)
      have w10 : ∀ h, orC LZ 13 17 [encN n, .sl (a.map I64)] h = _ := fun h => orC_of rfl (SumOf_c 12 n ok a hal (fun v => by have := cAt_ok haB v; omega) h (frz_sl (ltL_I 0 a)))
      have okA := nW_ok ok (cAt_ok haB)
      have kn := kp_nn okA
      have kl := kp_le okA
      have wb := wsU_bd ok (ds := a) (fun v => by have := cAt_ok haB v; omega) _ (Nat.le_refl _)
      have c16 := ok.c16
      have hwr : IntKind.i64.wrap (wsU n.cs a n.cs.length - kpV n a) = wsU n.cs a n.cs.length - kpV n a := wrap_of (by omega) (by omega)
      rw [HK.out, hd2, if_pos rfl, if_pos rfl] at w9
      rw [h0] at w4
      rw [hd2] at w5
      clear okA HK
      generalize kpV n a = kk at *
      generalize wsU n.cs a n.cs.length = ws at *
      repeat (first | apply ef_seq | (apply ef_mv; exact rfl; exact rfl) | (apply ef_gy; exact rfl; (exact (rfl : false = false))) | (apply ef_pick; exact rfl; exact rfl; exact rfl) | (apply ef_ldp; exact rfl; exact rfl; (exact rfl); exact rfl; (exact rfl); (exact rd_2 rfl rfl)) | (apply ef_notT; exact rfl; exact rfl) | (apply ef_box; exact rfl; exact rfl; exact rfl; exact rfl) | apply ef_nil | apply seqQ.normal | apply ef_skip | (apply ef_condf; exact rfl; (exact (rfl : false = false))) | (apply ef_call; exact rfl; ((repeat (apply XVs.cons; exact rfl)); exact XVs.nil); (with_reducible first | exact w0 _ | exact w1 _ | exact w2 _ | exact w3 _ | exact w7 _ | exact w8 _)))
      (apply ef_call; (· exact rfl); (· ((repeat (apply XVs.cons; exact rfl)); exact XVs.nil)); · exact w9 _ _ (frz_row (o := ⟨0, false, 1, a.map I64⟩) rfl rfl (by simp) (ltL_I 0 a) rfl))
      repeat (first | apply ef_seq | (apply ef_mv; exact rfl; exact rfl) | (apply ef_bin; exact rfl; exact rfl; exact rfl; (first | exact cmp_t rfl (by first | exact rfl | (simp only [cmpP]; omega)) | exact cmp_f rfl (by simp only [cmpP]; omega) | ((with_reducible refine bin_sub (wrap_of ?_ ?_)) <;> omega))) | (apply ef_gy; exact rfl; (exact (rfl : true = true))) | (apply ef_pick; exact rfl; exact rfl; exact rfl) | (apply ef_ldp; exact rfl; exact rfl; (exact rfl); exact rfl; (exact rfl); (exact rd_2 rfl rfl)) | (apply ef_ext; exact rfl; exact rfl; exact rfl) | apply ef_nil | apply seqQ.normal | apply ef_ret | apply ef_skip | (apply ef_condt; exact rfl; (exact (rfl : true = true))) | (apply ef_condf; exact rfl; (exact (rfl : false = false))) | (apply ef_call; exact rfl; ((repeat (apply XVs.cons; exact rfl)); exact XVs.nil); (with_reducible first | exact w4 _ | exact w5 _ | exact w6 _ | exact w10 _)))
      (refine fin1 rfl (by exact rfl) rfl ?_)
      simp
    · rw [HK.out, if_neg hd2, if_neg hd2] at w9
      rw [h0] at w4
      generalize anE n.cs.length a = e at *
      repeat (first | apply ef_seq | (apply ef_mv; exact rfl; exact rfl) | (apply ef_gy; exact rfl; (exact (rfl : false = false))) | (apply ef_pick; exact rfl; exact rfl; exact rfl) | (apply ef_ldp; exact rfl; exact rfl; (exact rfl); exact rfl; (exact rfl); (exact rd_2 rfl rfl)) | (apply ef_notT; exact rfl; exact rfl) | (apply ef_box; exact rfl; exact rfl; exact rfl; exact rfl) | apply ef_nil | apply seqQ.normal | apply ef_skip | (apply ef_condf; exact rfl; (exact (rfl : false = false))) | (apply ef_call; exact rfl; ((repeat (apply XVs.cons; exact rfl)); exact XVs.nil); (with_reducible first | exact w0 _ | exact w1 _ | exact w2 _ | exact w3 _ | exact w7 _ | exact w8 _)))
      (apply ef_call; (· exact rfl); (· ((repeat (apply XVs.cons; exact rfl)); exact XVs.nil)); · exact w9 _ _ (frz_row (o := ⟨0, false, 1, a.map I64⟩) rfl rfl (by simp) (ltL_I 0 a) rfl))
      repeat (first | apply ef_seq | (apply ef_mv; exact rfl; exact rfl) | (apply ef_bin; exact rfl; exact rfl; exact rfl; (exact cmp_t rfl (by first | exact rfl | (simp only [cmpP]; omega)))) | (apply ef_gy; exact rfl; (exact (rfl : true = true))) | (apply ef_pick; exact rfl; exact rfl; exact rfl) | (apply ef_ldp; exact rfl; exact rfl; (exact rfl); exact rfl; (exact rfl); (exact rd_2 rfl rfl)) | (apply ef_ext; exact rfl; exact rfl; exact rfl) | apply ef_nil | apply seqQ.normal | apply ef_ret | apply seqQ.ret | (apply ef_condt; exact rfl; (exact (rfl : true = true))) | (apply ef_call; exact rfl; ((repeat (apply XVs.cons; exact rfl)); exact XVs.nil); (with_reducible first | exact w4 _ | exact w5 _)))
      (refine fin1 rfl (by exact rfl) rfl ?_)
      simp
  · rw [if_neg h0] at HK
    rw [HK.out, if_neg h0, if_neg h0] at w9
    generalize (netF n).2 = e at *
    repeat (first | apply ef_seq | (apply ef_mv; exact rfl; exact rfl) | (apply ef_gy; exact rfl; (exact (rfl : false = false))) | (apply ef_pick; exact rfl; exact rfl; exact rfl) | (apply ef_ldp; exact rfl; exact rfl; (exact rfl); exact rfl; (exact rfl); (exact rd_2 rfl rfl)) | (apply ef_notT; exact rfl; exact rfl) | (apply ef_box; exact rfl; exact rfl; exact rfl; exact rfl) | apply ef_nil | apply seqQ.normal | apply ef_skip | (apply ef_condf; exact rfl; (exact (rfl : false = false))) | (apply ef_call; exact rfl; ((repeat (apply XVs.cons; exact rfl)); exact XVs.nil); (with_reducible first | exact w0 _ | exact w1 _ | exact w2 _ | exact w3 _ | exact w7 _ | exact w8 _)))
    (apply ef_call; (· exact rfl); (· ((repeat (apply XVs.cons; exact rfl)); exact XVs.nil)); · exact w9 _ _ (frz_row (o := ⟨0, false, 1, a.map I64⟩) rfl rfl (by simp) (ltL_I 0 a) rfl))
    repeat (first | apply ef_seq | (apply ef_mv; exact rfl; exact rfl) | (apply ef_bin; exact rfl; exact rfl; exact rfl; (first | exact cmp_t rfl (by first | exact rfl | (simp only [cmpP]; omega)) | exact cmp_f rfl (by simp only [cmpP]; omega))) | (apply ef_gy; exact rfl; (exact (rfl : true = true))) | (apply ef_pick; exact rfl; exact rfl; exact rfl) | (apply ef_ldp; exact rfl; exact rfl; (exact rfl); exact rfl; (exact rfl); (exact rd_2 rfl rfl)) | (apply ef_ext; exact rfl; exact rfl; exact rfl) | apply ef_nil | apply seqQ.normal | apply ef_ret | apply seqQ.ret | apply ef_skip | (apply ef_condt; exact rfl; (exact (rfl : true = true))) | (apply ef_condf; exact rfl; (exact (rfl : false = false))) | (apply ef_call; exact rfl; ((repeat (apply XVs.cons; exact rfl)); exact XVs.nil); (with_reducible exact w4 _)))
    (refine fin1 rfl (by exact rfl) rfl ?_)
    simp
end Go.Proofs.Ytbdleggmdbihnaa
