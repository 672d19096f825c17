/- LevelCrossed: the plain law and the walk. -/
import Derived.Test.YtbdleggmdbihnaaCrossedProofsPe
/- Valid nets; residuals. -/
namespace Go.Proofs.Ytbdleggmdbihnaa
open Go.RowKit
set_option linter.unusedVariables false
set_option linter.unusedSimpArgs false
structure OkX (m : Nat) (x : Cr) : Prop where
  l0 : 0 ≤ x.ln
  l1 : x.ln < (m : Int)
  t0 : 0 ≤ x.ti
  t1 : x.ti < (m : Int)
  pa : 0 ≤ x.pa ∧ x.pa ≤ 1000000
  pt : 0 ≤ x.pt ∧ x.pt ≤ 1000000
  df : -10000 ≤ x.df ∧ x.df ≤ 10000
  wt : 1 ≤ x.wt ∧ x.wt ≤ 10
structure OkN (n : Nt) : Prop where
  l1 : 0 < n.ls.length
  l8 : n.ls.length ≤ 8
  c16 : n.cs.length ≤ 16
  rg : ∀ x ∈ n.cs, OkX n.ls.length x
  kd : ∀ x ∈ n.cs, tieOf n.ls x.ln = false ∧ tieOf n.ls x.ti = true
  ds : ∀ (i j : Nat) (hi : i < n.cs.length) (hj : j < n.cs.length), j < i → dblB n.cs[i] n.cs[j] = false
theorem net_ok {n : Nt} (h : (netF n).2 = 0) : OkN n := by
  obtain ⟨q1, q2, q3⟩ := netF_pos h
  unfold netF at h
  rw [if_neg (by omega), if_neg (by omega)] at h
  split at h
  case isFalse h2 => exact absurd h h2
  rename_i hl
  obtain ⟨-, h2⟩ := scanE_ok h
  have key : ∀ (i : Nat) (hi : i < n.cs.length), (inB n.cs[i].ln 0 ((n.ls.length : Int) - 1) = true ∧ inB n.cs[i].ti 0 ((n.ls.length : Int) - 1) = true) ∧ (!tieOf n.ls n.cs[i].ln && tieOf n.ls n.cs[i].ti) = true ∧ rngB n.cs[i] = true ∧ (n.cs.take i).any (dblB n.cs[i]) = false := fun i hi => by
    have := h2 i hi
    rw [List.nil_append] at this
    unfold crossE at this
    split at this
    case isFalse => cases this
    rename_i hin
    rw [firstE_zero, firstE_zero, firstE_zero, unl_eq (by decide), unl_eq (by decide), unl_eq (by decide)] at this
    rw [Bool.and_eq_true] at hin
    exact ⟨hin, this.1, this.2.1, by simpa using this.2.2.1⟩
  refine ⟨q1, q2, q3, fun x hx => ?_, fun x hx => ?_, fun i j hi hj hji => ?_⟩
  · obtain ⟨i, hi, rfl⟩ := List.getElem_of_mem hx
    obtain ⟨⟨a1, a2⟩, -, a4, -⟩ := key i hi
    have b1 := inB_iff.1 a1
    have b2 := inB_iff.1 a2
    simp only [rngB, Bool.and_eq_true] at a4
    obtain ⟨r1, r2, r3, r4⟩ := a4
    exact ⟨b1.1, by omega, b2.1, by omega, inB_iff.1 r1, inB_iff.1 r2, inB_iff.1 r3, inB_iff.1 r4⟩
  · obtain ⟨i, hi, rfl⟩ := List.getElem_of_mem hx
    obtain ⟨-, a3, -, -⟩ := key i hi
    simpa using a3
  · obtain ⟨-, -, -, a5⟩ := key i hi
    rw [List.any_eq_false] at a5
    have := a5 n.cs[j] (List.mem_of_getElem? (i := j) (by rw [List.getElem?_take, if_pos hji, List.getElem?_eq_getElem hj]))
    simpa using this
structure OkC (m : Nat) (c : List Int) : Prop where
  len : c.length = m
  rg : ∀ z ∈ c, -1000000 ≤ z ∧ z ≤ 1000000
  z0 : c.getD 0 0 = 0
theorem corr_ok {m : Nat} {c : List Int} (h : corrE m c = 0) : OkC m c := by
  unfold corrE at h
  split at h
  case isFalse => cases h
  rename_i hl
  split at h
  · cases h
  · rename_i hs
    split at h
    · rename_i hz
      refine ⟨hl, fun z hz => ?_, hz⟩
      simp only [Bool.not_eq_true, List.any_eq_false] at hs
      have := hs z hz
      exact inB_iff.1 (by simpa [strB] using this)
    · cases h
theorem both_ok {n : Nt} {c : List Int} (h : bothE n c = 0) : OkN n ∧ OkC n.ls.length c ∧ (netF n).2 = 0 := by
  unfold bothE at h
  split at h
  · rename_i h0
    exact ⟨net_ok h0, corr_ok h, h0⟩
  · rename_i h0; exact absurd h h0
def cAt (c : List Int) (i : Int) : Int := c.getD i.toNat 0
theorem cAt_at {m : Nat} {c : List Int} (hl : c.length = m) {i : Int} (h0 : 0 ≤ i) (h1 : i < (m : Int)) : (c.map I64)[i.toNat]? = some (I64 (cAt c i)) := by
  have hlt : i.toNat < c.length := by omega
  unfold cAt
  rw [List.getElem?_map, List.getD_eq_getElem?_getD, List.getElem?_eq_getElem hlt]; rfl
theorem OkC.at {m : Nat} {c : List Int} (h : OkC m c) (i : Int) : -1000000 ≤ cAt c i ∧ cAt c i ≤ 1000000 := by
  unfold cAt
  rw [List.getD_eq_getElem?_getD]
  cases hh : c[i.toNat]? with
  | none => simp
  | some z => exact h.rg z (List.mem_of_getElem? hh)
def resI (c : List Int) (x : Cr) : Int := x.df - cAt c x.ln + cAt c x.ti
def resL (n : Nt) (c : List Int) : List Int := n.cs.map (resI c)
theorem resI_bd {m : Nat} {c : List Int} (hc : OkC m c) {x : Cr} (hx : OkX m x) : -2010000 ≤ resI c x ∧ resI c x ≤ 2010000 := by
  have h1 := hc.at x.ln
  have h2 := hc.at x.ti
  have h3 := hx.df
  unfold resI
  omega
def rowL (xs : List Int) (i : Nat) : List MV := (xs.take i).map I64
theorem rowL_len {xs : List Int} {i : Nat} (h : i ≤ xs.length) : (rowL xs i).length = i := by simp [rowL]; omega
theorem ltL_row (m : Nat) (xs : List Int) (i : Nat) : ltL m (rowL xs i) = true := ltL_I m _
theorem row_next {xs : List Int} {i : Nat} {z : Int} (h : xs[i]? = some z) : rowL xs (i + 1) = rowL xs i ++ [I64 z] := by
  unfold rowL; rw [List.take_add_one, h]; simp
theorem row_all (xs : List Int) : rowL xs xs.length = xs.map I64 := by simp [rowL]
abbrev rowO (xs : List Int) (i : Nat) : MObj := ⟨i, decide (i = 0), 1, rowL xs i⟩
theorem mf_residuals : MT.mf 55 = some ⟨35, [(.tmp 4)], (.seq (.reg [⟨none, some 2, .box 2 (.s 0)⟩, ⟨none, some 4, .nil0 1⟩]) (.seq (.reg [⟨none, some 5, .nil0 1⟩]) (.seq (.seq (.reg [⟨none, some 8, .fa 0 (.s 2)⟩, ⟨none, some 9, .fa 1 (.s 8)⟩, ⟨none, some 10, .ld none (.s 9)⟩, ⟨none, some 11, .len (.s 10)⟩, ⟨none, some 12, .mv (.c (.lit (.int .i64 0)))⟩]) (.block 0 (.loop [12, 11, 10, 5, 1] (.seq (.reg [⟨none, some 13, .bin .lss (.s 12) (.s 11)⟩]) (.seq (.cond (.s 13) .skip (.exit 0)) (.seq (.block 1 (.seq (.reg [⟨none, some 14, .ia 6 (.s 10) (.s 12)⟩, ⟨none, some 15, .ld (some 6) (.s 14)⟩, ⟨none, some 7, .new (.agg [(.lit (.int .i64 0)), (.lit (.int .i64 0)), (.lit (.int .i64 0)), (.lit (.int .i64 0)), (.lit (.int .i64 0)), (.lit (.int .i64 0))])⟩, ⟨none, none, .st 6 (.s 7) (.s 15)⟩]) (.reg [⟨none, some 16, .mv (.s 5)⟩, ⟨none, some 17, .fa 4 (.s 7)⟩, ⟨none, some 18, .ld none (.s 17)⟩, ⟨none, some 19, .mv (.s 1)⟩, ⟨none, some 20, .fa 0 (.s 7)⟩, ⟨none, some 21, .ld none (.s 20)⟩, ⟨none, some 22, .ia 1 (.s 19) (.s 21)⟩, ⟨none, some 23, .ld none (.s 22)⟩, ⟨none, some 24, .bin .sub (.s 18) (.s 23)⟩, ⟨none, some 25, .mv (.s 1)⟩, ⟨none, some 26, .fa 1 (.s 7)⟩, ⟨none, some 27, .ld none (.s 26)⟩, ⟨none, some 28, .ia 1 (.s 25) (.s 27)⟩, ⟨none, some 29, .ld none (.s 28)⟩, ⟨none, some 30, .bin .add (.s 24) (.s 29)⟩, ⟨none, some 31, .bsl (.lit (.int .i64 0)) 1 1 [(0, (.s 30))]⟩, ⟨none, some 32, .app 1 (.s 16) (.s 31)⟩, ⟨none, some 5, .mv (.s 32)⟩]))) (.reg [⟨none, some 33, .bin .add (.s 12) (.c (.lit (.int .i64 1)))⟩, ⟨none, some 12, .mv (.s 33)⟩]))))))) (.seq (.reg [⟨none, some 34, .mv (.s 5)⟩, ⟨none, some 4, .mv (.s 34)⟩]) .ret))))⟩ := by kernel_rfl
set_option maxHeartbeats 1000000 in
theorem residuals_z (k : Nat) (n : Nt) (c : List Int) (hn : n.cs.length ≤ 1000) (hx : ∀ x ∈ n.cs, OkX n.ls.length x) (hc : OkC n.ls.length c) (hl : n.ls.length ≤ 1000) :
    runZ MT (orA k) (itA k) 4000000 55 [encN n, .sl (c.map I64)] [] = some (.arr 0 0 n.cs.length 0, [⟨0, decide (n.cs.length = 0), 1, (resL n c).map I64⟩]) := by
  have hs2 : (MV.sl (n.cs.map encCr)).slen = some n.cs.length := by simp [MV.slen]
  have hrl : (resL n c).length = n.cs.length := by simp [resL]
  refine runZ_of mf_residuals (by simp) ?_
  simp only [argsL]
  repeat (first | apply ef_seq | (apply ef_mv; exact rfl; exact rfl) | (apply ef_len; exact rfl; exact rfl; (assumption)) | (apply ef_ldp; exact rfl; exact rfl; (exact rfl); exact rfl; (exact rfl); (exact rfl)) | (apply ef_fap; exact rfl; exact rfl) | (apply ef_box; exact rfl; exact rfl; exact rfl; exact rfl) | (apply ef_nil0; exact rfl) | apply ef_nil | apply seqQ.normal | apply ef_block)
  refine ef_loopf (α := Nat) (fun i => i ≤ n.cs.length) (fun i => [(12, I64 (i : Int)), (5, .arr 2 0 i i)]) [(11, I64 (n.cs.length : Int)), (10, .sl (n.cs.map encCr)), (1, .sl (c.map I64))] (fun i => [⟨0, false, 2, [encN n]⟩, ⟨0, true, 1, []⟩, rowO (resL n c) i]) (fun i => n.cs.length - i) 0 [12, 5] (fun _ => rfl) (by ((repeat (refine Hold.cons (by exact rfl) ?_)); exact Hold.nil)) (by ((repeat (refine Hold.cons (by exact rfl) ?_)); exact Hold.nil)) rfl rfl (by omega) (by simp; omega) ?_
  intro i hi
  try simp only at hi ⊢
  by_cases hlt : i < n.cs.length
  · have e1 := at_map encCr n.cs i hlt
    have hxx := hx n.cs[i] (List.getElem_mem hlt)
    have HT := row_next (xs := resL n c) (i := i) (z := resI c n.cs[i]) (by simp [resL, hlt])
    have hrb := resI_bd hc hxx
    have hri : resI c n.cs[i] = n.cs[i].df - cAt c n.cs[i].ln + cAt c n.cs[i].ti := rfl
    generalize n.cs[i] = x at e1 hxx HT hrb hri
    have f1 := cAt_at hc.len hxx.l0 hxx.l1
    have f2 := cAt_at hc.len hxx.t0 hxx.t1
    have g1 := hc.at x.ln
    have g2 := hc.at x.ti
    have g3 := hxx.df
    have g4 := hxx.l0
    have g5 := hxx.t0
    generalize cAt c x.ln = u at *
    generalize cAt c x.ti = w at *
    rw [hri] at HT
    repeat (first | apply ef_seq | (apply ef_mv; exact rfl; exact rfl) | (apply ef_bin; exact rfl; exact rfl; exact rfl; (first | exact cmp_t rfl (by first | exact rfl | (simp only [cmpP]; omega)) | ((with_reducible refine bin_add (wrap_of ?_ ?_)) <;> omega) | ((with_reducible refine bin_sub (wrap_of ?_ ?_)) <;> omega))) | (apply ef_ldr; exact rfl; exact rfl; (first | exact rd_6 rfl rfl rfl rfl rfl rfl | exact rfl)) | (apply ef_ldp; exact rfl; exact rfl; (exact rfl); exact rfl; (exact rfl); (exact rfl)) | (apply ef_ias; exact rfl; exact rfl; exact rfl; (omega); assumption; exact rfl) | (apply ef_fap; exact rfl; exact rfl) | (apply ef_new; exact rfl) | (apply ef_bsl; exact rfl; (repeat (apply XVs.cons; exact rfl)); exact XVs.nil; exact rfl) | (apply ef_st; exact rfl; exact rfl; exact rfl; exact rfl; exact rfl; exact rfl; (exact rfl); exact rfl) | apply ef_nil | apply seqQ.normal | apply ef_block | apply ef_skip | (apply ef_condt; exact rfl; (exact (rfl : true = true))))
    (apply ef_app; (· exact rfl); (· exact rfl); (· exact rfl); (· exact rfl); (· exact rfl); (· exact rfl); (· (simp [rowL_len (xs := resL n c) (i := i) (by omega)])); (· exact rfl); (· (simp [rowL_len (xs := resL n c) (i := i) (by omega)]; omega)); (· (simp [MV.sOk, MV.cells, MV.one, Value.oneCell'])); (· exact rfl))
    repeat (first | (apply ef_mv; exact rfl; exact rfl) | (apply ef_bin; exact rfl; exact rfl; exact rfl; (((with_reducible refine bin_add (wrap_of ?_ ?_)) <;> omega))) | apply ef_nil | apply seqQ.normal | apply blockQ.normal)
    (refine loopQ.normal _ _ ⟨i + 1, hlt, (by first | (simp only; omega) | omega), ⟨by ((repeat (refine Hold.cons (by exact rfl) ?_)); exact Hold.nil), by ((repeat (refine Hold.cons (by exact rfl) ?_)); exact Hold.nil)⟩, .inr ⟨by ((repeat (refine hdl_cons rfl (by first | rfl | (simp [MV.lt, ltL, ltL_Ln, ltL_Cr, ltL_I, ltL_row, ltL_app2])) ?_)); exact hdl_nil), by (simp [hltL, ltL, MV.lt, ltL, ltL_Ln, ltL_Cr, ltL_I, ltL_row, ltL_app2])⟩, by (show _ = ([⟨0, false, 2, [encN n]⟩, ⟨0, true, 1, []⟩, (⟨i + 1, decide (i + 1 = 0), 1, rowL (resL n c) (i + 1)⟩ : MObj)] : MHeap); rw [HT]; exact rfl)⟩)
  · obtain rfl : i = n.cs.length := by omega
    have hra := row_all (resL n c)
    rw [hrl] at hra
    repeat (first | apply ef_seq | (apply ef_mv; exact rfl; exact rfl) | (apply ef_bin; exact rfl; exact rfl; exact rfl; (exact cmp_f rfl (by simp only [cmpP]; omega))) | apply ef_nil | apply seqQ.normal | apply loopQ.exit | apply ef_ret | apply ef_exit | apply seqQ.exit | apply blockQ.here | (apply ef_condf; exact rfl; (exact (rfl : false = false))))
    (apply fin_arr; (· exact rfl); (· exact rfl); (· exact rfl); (· exact rfl); (· (show 0 + n.cs.length ≤ (rowL (resL n c) n.cs.length).length; rw [hra]; simp [hrl])); (· (exact ltL_row 0 _ _)); (· (show ((rowL (resL n c) n.cs.length).drop 0).take n.cs.length = _; rw [hra, List.drop_zero, List.take_of_length_le (by simp [hrl])])); (· exact rfl); (· exact rfl); (· rfl))
theorem residuals_c (k : Nat) (n : Nt) (c : List Int) (hn : n.cs.length ≤ 1000) (hx : ∀ x ∈ n.cs, OkX n.ls.length x) (hc : OkC n.ls.length c) (hl : n.ls.length ≤ 1000) (h : MHeap) :
    orA (k + 1) 55 [encN n, .sl (c.map I64)] h = some (.arr h.length 0 n.cs.length 0, h ++ [⟨0, decide (n.cs.length = 0), 1, (resL n c).map I64⟩]) := by
  have := callA (k := k) (h := h) (frzL_lt (ms := [encN n, .sl (c.map I64)]) (by simp [ltL, MV.lt, ltL_Ln, ltL_Cr, ltL_I])) rfl (residuals_z k n c hn hx hc hl) rfl (by simp [okH, ltL_I, pureL_I])
  simpa [shV, sh1] using this
end Go.Proofs.Ytbdleggmdbihnaa

/- Contracts: the piece of a line at a position; quotients rounded down and up. -/
namespace Go.Proofs.Ytbdleggmdbihnaa
open Go.RowKit
set_option linter.unusedVariables false
def cmpI (a b : Int) : Int := if a < b then -1 else if b < a then 1 else 0
theorem mf_isNaN : MT.mf 81 = some ⟨6, [(.tmp 2)], (.seq (.reg [⟨none, some 2, .mv (.c (.lit (.bool false)))⟩]) (.seq (.reg [⟨none, some 3, .mv (.s 0)⟩, ⟨none, some 4, .mv (.s 0)⟩, ⟨none, some 5, .bin .neq (.s 3) (.s 4)⟩, ⟨none, some 2, .mv (.s 5)⟩]) .ret))⟩ := by kernel_rfl
theorem isNaN_c (k : Nat) (a : Int) (h : MHeap) : orA (k + 1) 81 [I64 a] h = some (Bo false, h) := by
  refine callL (args' := [I64 a]) (frzL_lt rfl) rfl (runZ_of mf_isNaN (by simp) ?_)
  simp only [argsL]
  repeat (first | apply ef_seq | (apply ef_mv; exact rfl; exact rfl) | (apply ef_bin; exact rfl; exact rfl; exact rfl; (exact cmp_f rfl (by simp only [cmpP]; omega))) | apply ef_nil | apply seqQ.normal | apply ef_ret)
  (refine fin1 rfl (by exact rfl) rfl ?_)
  rfl
theorem mf_Compare : MT.mf 58 = some ⟨20, [(.tmp 4)], (.seq (.reg [⟨none, some 4, .mv (.c (.lit (.int .i64 0)))⟩]) (.seq (.reg [⟨none, some 7, .mv (.s 0)⟩, ⟨none, some 8, .call 81 [.s 7]⟩, ⟨none, some 5, .mv (.s 8)⟩]) (.seq (.reg [⟨none, some 9, .mv (.s 1)⟩, ⟨none, some 10, .call 81 [.s 9]⟩, ⟨none, some 6, .mv (.s 10)⟩]) (.seq (.seq (.reg [⟨none, some 11, .mv (.s 5)⟩]) (.cond (.s 11) (.seq (.seq (.reg [⟨none, some 12, .mv (.s 6)⟩]) (.cond (.s 12) (.seq (.reg [⟨none, some 4, .mv (.c (.lit (.int .i64 0)))⟩]) .ret) .skip)) (.seq (.reg [⟨none, some 4, .mv (.c (.lit (.int .i64 (-1))))⟩]) .ret)) .skip)) (.seq (.seq (.reg [⟨none, some 13, .mv (.s 6)⟩]) (.cond (.s 13) (.seq (.reg [⟨none, some 4, .mv (.c (.lit (.int .i64 1)))⟩]) .ret) .skip)) (.seq (.seq (.reg [⟨none, some 14, .mv (.s 0)⟩, ⟨none, some 15, .mv (.s 1)⟩, ⟨none, some 16, .bin .lss (.s 14) (.s 15)⟩]) (.cond (.s 16) (.seq (.reg [⟨none, some 4, .mv (.c (.lit (.int .i64 (-1))))⟩]) .ret) .skip)) (.seq (.seq (.reg [⟨none, some 17, .mv (.s 0)⟩, ⟨none, some 18, .mv (.s 1)⟩, ⟨none, some 19, .bin .gtr (.s 17) (.s 18)⟩]) (.cond (.s 19) (.seq (.reg [⟨none, some 4, .mv (.c (.lit (.int .i64 1)))⟩]) .ret) .skip)) (.seq (.reg [⟨none, some 4, .mv (.c (.lit (.int .i64 0)))⟩]) .ret))))))))⟩ := by kernel_rfl
theorem Compare_c (k : Nat) (a b : Int) (h : MHeap) : orA (k + 2) 58 [I64 a, I64 b] h = some (I64 (cmpI a b), h) := by
  refine callL (args' := [I64 a, I64 b]) (frzL_lt rfl) rfl (runZ_of mf_Compare (by simp) ?_)
  simp only [argsL]
  have hn := fun a h => isNaN_c k a h
  by_cases h1 : a < b
  · repeat (first | apply ef_seq | (apply ef_mv; exact rfl; exact rfl) | (apply ef_bin; exact rfl; exact rfl; exact rfl; (exact cmp_t rfl (by first | exact rfl | (simp only [cmpP]; omega)))) | apply ef_nil | apply seqQ.normal | apply ef_ret | apply seqQ.ret | apply ef_skip | (apply ef_condt; exact rfl; (exact (rfl : true = true))) | (apply ef_condf; exact rfl; (exact (rfl : false = false))) | (apply ef_call; exact rfl; ((repeat (apply XVs.cons; exact rfl)); exact XVs.nil); (with_reducible exact hn _ _)))
    (refine fin1 rfl (by exact rfl) rfl ?_)
    simp [cmpI, h1]
  · by_cases h2 : b < a
    · repeat (first | apply ef_seq | (apply ef_mv; exact rfl; exact rfl) | (apply ef_bin; exact rfl; exact rfl; exact rfl; (first | exact cmp_t rfl (by first | exact rfl | (simp only [cmpP]; omega)) | exact cmp_f rfl (by simp only [cmpP]; omega))) | apply ef_nil | apply seqQ.normal | apply ef_ret | apply seqQ.ret | apply ef_skip | (apply ef_condt; exact rfl; (exact (rfl : true = true))) | (apply ef_condf; exact rfl; (exact (rfl : false = false))) | (apply ef_call; exact rfl; ((repeat (apply XVs.cons; exact rfl)); exact XVs.nil); (with_reducible exact hn _ _)))
      (refine fin1 rfl (by exact rfl) rfl ?_)
      simp [cmpI, h1, h2]
    · repeat (first | apply ef_seq | (apply ef_mv; exact rfl; exact rfl) | (apply ef_bin; exact rfl; exact rfl; exact rfl; (exact cmp_f rfl (by simp only [cmpP]; omega))) | apply ef_nil | apply seqQ.normal | apply ef_ret | apply ef_skip | (apply ef_condf; exact rfl; (exact (rfl : false = false))) | (apply ef_call; exact rfl; ((repeat (apply XVs.cons; exact rfl)); exact XVs.nil); (with_reducible exact hn _ _)))
      (refine fin1 rfl (by exact rfl) rfl ?_)
      simp [cmpI, h1, h2]
theorem mf_piece1 : MT.mf 83 = some ⟨9, [(.tmp 4)], (.seq (.reg [⟨none, some 2, .box 2 (.s 0)⟩, ⟨none, some 4, .mv (.c (.lit (.int .i64 0)))⟩]) (.seq (.reg [⟨none, some 5, .fa 0 (.s 2)⟩, ⟨none, some 6, .ld none (.s 5)⟩, ⟨none, some 7, .mv (.s 1)⟩, ⟨none, some 8, .call 58 [.s 6, .s 7]⟩, ⟨none, some 4, .mv (.s 8)⟩]) .ret))⟩ := by kernel_rfl
theorem piece1_c (k : Nat) (p : Int × Int) (a : Int) (h : MHeap) : orA (k + 3) 83 [encR p, I64 a] h = some (I64 (cmpI p.1 a), h) := by
  obtain ⟨p1, p2⟩ := p
  refine callL (args' := [encR (p1, p2), I64 a]) (frzL_lt rfl) rfl (runZ_of mf_piece1 (by simp) ?_)
  simp only [argsL]
  have hn := fun h => Compare_c k p1 a h
  repeat (first | apply ef_seq | (apply ef_mv; exact rfl; exact rfl) | (apply ef_ldp; exact rfl; exact rfl; (exact rfl); exact rfl; (exact rfl); (exact rfl)) | (apply ef_fap; exact rfl; exact rfl) | (apply ef_box; exact rfl; exact rfl; exact rfl; exact rfl) | apply ef_nil | apply seqQ.normal | apply ef_ret | (apply ef_call; exact rfl; ((repeat (apply XVs.cons; exact rfl)); exact XVs.nil); (with_reducible exact hn _)))
  (refine fin1 rfl (by exact rfl) rfl ?_)
  rfl
def lowI (a : Int) (ks : List (Int × Int)) : Nat := (ks.takeWhile fun p => decide (p.1 < a)).length
abbrev SrtK (ks : List (Int × Int)) : Prop := ks.Pairwise (fun p q => p.1 < q.1)
theorem lowI_le (a : Int) (ks : List (Int × Int)) : lowI a ks ≤ ks.length := by
  unfold lowI
  exact (List.takeWhile_sublist _).length_le
theorem lowI_iff {a : Int} : ∀ {ks : List (Int × Int)}, SrtK ks → ∀ (i : Nat) (h : i < ks.length), (ks[i].1 < a ↔ i < lowI a ks)
  | [], _, i, h => absurd h (by simp)
  | p :: ks, hs, i, h => by
    rw [SrtK, List.pairwise_cons] at hs
    by_cases hp : p.1 < a
    · have e : lowI a (p :: ks) = lowI a ks + 1 := by simp [lowI, hp]
      rw [e]
      cases i with
      | zero => simp [hp]
      | succ i =>
        have := lowI_iff (a := a) hs.2 i (by simpa using h)
        simp only [List.getElem_cons_succ]
        rw [this]; omega
    · have e : lowI a (p :: ks) = 0 := by simp [lowI, hp]
      rw [e]
      constructor
      · intro hi
        cases i with
        | zero => exact absurd hi hp
        | succ i =>
          have hi2 : i < ks.length := by simpa using h
          have := hs.1 ks[i] (List.getElem_mem hi2)
          simp only [List.getElem_cons_succ] at hi
          omega
      · intro hi; omega
def hasK (a : Int) (ks : List (Int × Int)) : Bool := match ks[lowI a ks]? with | some p => decide (p.1 = a) | none => false
theorem mid_eq (i j : Nat) (h : i + j ≤ 1000) : IntKind.i64.wrap ((IntKind.u64.wrap ((i : Int) + (j : Int))).fdiv (2 ^ min (1 : Int).toNat IntKind.u64.bits)) = (((i + j) / 2 : Nat) : Int) := by
  have h1 : IntKind.u64.wrap ((i : Int) + (j : Int)) = ((i + j : Nat) : Int) := by simp [IntKind.wrap, IntKind.bits, IntKind.signed]; omega
  have h2 : (2 : Int) ^ min (1 : Int).toNat IntKind.u64.bits = 2 := rfl
  rw [h1, h2, Int.fdiv_eq_ediv_of_nonneg _ (by omega), show (((i + j : Nat) : Int) / 2) = (((i + j) / 2 : Nat) : Int) by omega]
  exact wrap_of (by omega) (by omega)
theorem mf_BSF : MT.mf 82 = some ⟨49, [(.tmp 6), (.tmp 7)], (.seq (.reg [⟨none, some 6, .mv (.c (.lit (.int .i64 0)))⟩, ⟨none, some 7, .mv (.c (.lit (.bool false)))⟩]) (.seq (.reg [⟨none, some 12, .mv (.s 0)⟩, ⟨none, some 13, .len (.s 12)⟩, ⟨none, some 8, .mv (.s 13)⟩]) (.seq (.reg [⟨none, some 14, .mv (.s 8)⟩, ⟨none, some 9, .mv (.c (.lit (.int .i64 0)))⟩, ⟨none, some 10, .mv (.s 14)⟩]) (.seq (.block 0 (.loop [9, 10, 2, 0, 1, 8] (.seq (.seq (.reg [⟨none, some 15, .mv (.s 9)⟩, ⟨none, some 16, .mv (.s 10)⟩, ⟨none, some 17, .bin .lss (.s 15) (.s 16)⟩]) (.cond (.s 17) .skip (.exit 0))) (.block 1 (.seq (.reg [⟨none, some 18, .mv (.s 9)⟩, ⟨none, some 19, .mv (.s 10)⟩, ⟨none, some 20, .bin .add (.s 18) (.s 19)⟩, ⟨none, some 21, .cv .u64 (.s 20)⟩, ⟨none, some 22, .shf .shr (.s 21) (.c (.lit (.int .u64 1)))⟩, ⟨none, some 23, .cv .i64 (.s 22)⟩, ⟨none, some 11, .mv (.s 23)⟩]) (.seq (.reg [⟨none, some 24, .mv (.s 2)⟩, ⟨none, some 25, .mv (.s 0)⟩, ⟨none, some 26, .mv (.s 11)⟩, ⟨none, some 27, .ia 2 (.s 25) (.s 26)⟩, ⟨none, some 28, .ld (some 2) (.s 27)⟩, ⟨none, some 29, .mv (.s 1)⟩, ⟨none, some 30, .callv (.s 24) [.s 28, .s 29]⟩, ⟨none, some 31, .bin .lss (.s 30) (.c (.lit (.int .i64 0)))⟩]) (.cond (.s 31) (.reg [⟨none, some 32, .mv (.s 11)⟩, ⟨none, some 33, .bin .add (.s 32) (.c (.lit (.int .i64 1)))⟩, ⟨none, some 9, .mv (.s 33)⟩]) (.reg [⟨none, some 34, .mv (.s 11)⟩, ⟨none, some 10, .mv (.s 34)⟩])))))))) (.seq (.reg [⟨none, some 35, .mv (.s 9)⟩, ⟨none, some 36, .mv (.s 9)⟩, ⟨none, some 37, .mv (.s 8)⟩, ⟨none, some 38, .bin .lss (.s 36) (.s 37)⟩, ⟨none, some 39, .mv (.s 38)⟩, ⟨some (39, true), some 40, .mv (.s 2)⟩, ⟨some (39, true), some 41, .mv (.s 0)⟩, ⟨some (39, true), some 42, .mv (.s 9)⟩, ⟨some (39, true), some 43, .ia 2 (.s 41) (.s 42)⟩, ⟨some (39, true), some 44, .ld (some 2) (.s 43)⟩, ⟨some (39, true), some 45, .mv (.s 1)⟩, ⟨some (39, true), some 46, .callv (.s 40) [.s 44, .s 45]⟩, ⟨some (39, true), some 47, .bin .eql (.s 46) (.c (.lit (.int .i64 0)))⟩, ⟨none, some 48, .pick (.s 39) (.s 47) (.c (.lit (.bool false)))⟩, ⟨none, some 6, .mv (.s 35)⟩, ⟨none, some 7, .mv (.s 48)⟩]) .ret)))))⟩ := by kernel_rfl
theorem knot_at {ks : List (Int × Int)} {i : Nat} (h : i < ks.length) : (ks.map encR)[((i : Nat) : Int).toNat]? = some (.agg [I64 ks[i].1, I64 ks[i].2]) := by
  rw [Int.toNat_natCast, List.getElem?_map, List.getElem?_eq_getElem h]
  obtain ⟨a, b⟩ := ks[i]; rfl
set_option maxHeartbeats 1000000 in
theorem BSF_z (k : Nat) (ks : List (Int × Int)) (a : Int) (hs : SrtK ks) (hl : ks.length ≤ 100) : runZ MT (orA (k + 3)) (itA (k + 3)) 4000000 82 [.sl (ks.map encR), I64 a, .fn 83 0 []] [] = some (.tup [I64 (lowI a ks : Nat), Bo (hasK a ks)], []) := by
  have hsl : (MV.sl (ks.map encR)).slen = some ks.length := by simp [MV.slen]
  have hle := lowI_le a ks
  refine runZ_of mf_BSF (by simp) ?_
  simp only [argsL]
  repeat (first | apply ef_seq | (apply ef_mv; exact rfl; exact rfl) | (apply ef_len; exact rfl; exact rfl; (assumption)) | apply ef_nil | apply seqQ.normal | apply ef_block)
  refine ef_loopf (α := Nat × Nat) (fun s => s.1 ≤ lowI a ks ∧ lowI a ks ≤ s.2 ∧ s.2 ≤ ks.length) (fun s => [(9, I64 (s.1 : Int)), (10, I64 (s.2 : Int))]) [(2, .fn 83 0 []), (0, .sl (ks.map encR)), (1, I64 a), (8, I64 (ks.length : Int))] (fun _ => []) (fun s => s.2 - s.1) (0, ks.length) [9, 10] (fun _ => rfl) (by ((repeat (refine Hold.cons (by exact rfl) ?_)); exact Hold.nil)) (by ((repeat (refine Hold.cons (by exact rfl) ?_)); exact Hold.nil)) rfl rfl ⟨by omega, by simpa using hle, by simp⟩ (by simp; omega) ?_
  rintro ⟨i, j⟩ ⟨h1, h2, h3⟩
  try simp only at h1 h2 h3 ⊢
  by_cases hlt : i < j
  · have hm := mid_eq i j (by omega)
    obtain ⟨m, hmm⟩ : ∃ m, (i + j) / 2 = m := ⟨_, rfl⟩
    rw [hmm] at hm
    have hml : m < ks.length := by omega
    have e1 := knot_at hml
    have hiff := lowI_iff (a := a) hs m hml
    have hcv := fun h => piece1_c k (ks[m].1, ks[m].2) a h
    generalize ks[m].1 = p1 at e1 hiff hcv
    generalize ks[m].2 = p2 at e1 hcv
    by_cases hp : p1 < a
    · have hci : cmpI p1 a = -1 := by simp [cmpI, hp]
      simp only [hci] at hcv
      repeat (first | apply ef_seq | (apply ef_mv; exact rfl; exact rfl) | (apply ef_bin; exact rfl; exact rfl; exact rfl; (first | exact cmp_t rfl (by first | exact rfl | (simp only [cmpP]; omega)) | ((with_reducible refine bin_add (wrap_of ?_ ?_)) <;> omega))) | (apply ef_cv; exact rfl; exact rfl; (exact rfl)) | (apply ef_shf; exact rfl; exact rfl; exact rfl; exact rfl) | apply ef_nil | apply seqQ.normal | apply ef_block | apply ef_skip | (apply ef_condt; exact rfl; (exact (rfl : true = true))))
      rw [hm]
      repeat (first | (apply ef_mv; exact rfl; exact rfl) | (apply ef_ldr; exact rfl; exact rfl; (exact rd_2 rfl rfl)) | (apply ef_ias; exact rfl; exact rfl; exact rfl; (omega); assumption; exact rfl))
      (apply ef_callv; (· exact rfl); (· exact rfl); (· ((repeat (apply XVs.cons; exact rfl)); exact XVs.nil)); (· exact rfl); (· exact hcv _))
      repeat (first | (apply ef_mv; exact rfl; exact rfl) | (apply ef_bin; exact rfl; exact rfl; exact rfl; (first | exact cmp_t rfl (by first | exact rfl | (simp only [cmpP]; omega)) | ((with_reducible refine bin_add (wrap_of ?_ ?_)) <;> omega))) | apply ef_nil | apply seqQ.normal | apply blockQ.normal | (apply ef_condt; exact rfl; (exact (rfl : true = true))))
      (refine loopQ.normal _ _ ⟨(m + 1, j), ⟨hiff.1 hp, h2, h3⟩, (by first | (simp only; omega) | omega), ⟨by ((repeat (refine Hold.cons (by exact rfl) ?_)); exact Hold.nil), by ((repeat (refine Hold.cons (by exact rfl) ?_)); exact Hold.nil)⟩, .inl (Nat.le_refl _), (by first | exact List.take_length | exact rfl | exact takeF rfl rfl)⟩)
    · have hci : 0 ≤ cmpI p1 a := by unfold cmpI; rw [if_neg hp]; split <;> omega
      generalize cmpI p1 a = cv at hci hcv
      repeat (first | apply ef_seq | (apply ef_mv; exact rfl; exact rfl) | (apply ef_bin; exact rfl; exact rfl; exact rfl; (first | exact cmp_t rfl (by first | exact rfl | (simp only [cmpP]; omega)) | ((with_reducible refine bin_add (wrap_of ?_ ?_)) <;> omega))) | (apply ef_cv; exact rfl; exact rfl; (exact rfl)) | (apply ef_shf; exact rfl; exact rfl; exact rfl; exact rfl) | apply ef_nil | apply seqQ.normal | apply ef_block | apply ef_skip | (apply ef_condt; exact rfl; (exact (rfl : true = true))))
      rw [hm]
      repeat (first | (apply ef_mv; exact rfl; exact rfl) | (apply ef_ldr; exact rfl; exact rfl; (exact rd_2 rfl rfl)) | (apply ef_ias; exact rfl; exact rfl; exact rfl; (omega); assumption; exact rfl))
      (apply ef_callv; (· exact rfl); (· exact rfl); (· ((repeat (apply XVs.cons; exact rfl)); exact XVs.nil)); (· exact rfl); (· exact hcv _))
      repeat (first | (apply ef_mv; exact rfl; exact rfl) | (apply ef_bin; exact rfl; exact rfl; exact rfl; (exact cmp_f rfl (by simp only [cmpP]; omega))) | apply ef_nil | apply seqQ.normal | apply blockQ.normal | (apply ef_condf; exact rfl; (exact (rfl : false = false))))
      (refine loopQ.normal _ _ ⟨(i, m), ⟨h1, (by simp only; omega), (by simp only; omega)⟩, (by first | (simp only; omega) | omega), ⟨by ((repeat (refine Hold.cons (by exact rfl) ?_)); exact Hold.nil), by ((repeat (refine Hold.cons (by exact rfl) ?_)); exact Hold.nil)⟩, .inl (Nat.le_refl _), (by first | exact List.take_length | exact rfl | exact takeF rfl rfl)⟩)
  · obtain rfl : i = lowI a ks := by omega
    by_cases hin : lowI a ks < ks.length
    · have e1 := knot_at hin
      have hh : hasK a ks = decide (ks[lowI a ks].1 = a) := by unfold hasK; rw [List.getElem?_eq_getElem hin]
      have hcv := fun h => piece1_c k (ks[lowI a ks].1, ks[lowI a ks].2) a h
      have HH := Lib.hid hh
      clear hh
      generalize ks[lowI a ks].1 = p1 at e1 HH hcv
      generalize ks[lowI a ks].2 = p2 at e1 hcv
      generalize lowI a ks = q at *
      by_cases hp : p1 = a
      · have hci : cmpI p1 a = 0 := by simp [cmpI, hp]
        simp only [hci] at hcv
        repeat (first | apply ef_seq | (apply ef_mv; exact rfl; exact rfl) | (apply ef_bin; exact rfl; exact rfl; exact rfl; (first | exact cmp_t rfl (by first | exact rfl | (simp only [cmpP]; omega)) | exact cmp_f rfl (by simp only [cmpP]; omega))) | (apply ef_gy; exact rfl; (exact (rfl : true = true))) | (apply ef_ldr; exact rfl; exact rfl; (exact rd_2 rfl rfl)) | (apply ef_ias; exact rfl; exact rfl; exact rfl; (omega); assumption; exact rfl) | apply ef_nil | apply seqQ.normal | apply loopQ.exit | apply ef_exit | apply seqQ.exit | apply blockQ.here | (apply ef_condf; exact rfl; (exact (rfl : false = false))))
        (apply ef_callv; (· exact rfl); (· exact rfl); (· ((repeat (apply XVs.cons; exact rfl)); exact XVs.nil)); (· exact rfl); (· exact hcv _))
        repeat (first | (apply ef_mv; exact rfl; exact rfl) | (apply ef_bin; exact rfl; exact rfl; exact rfl; (exact cmp_t rfl (by first | exact rfl | (simp only [cmpP]; omega)))) | (apply ef_gy; exact rfl; (exact (rfl : true = true))) | (apply ef_pick; exact rfl; exact rfl; exact rfl) | apply ef_nil | apply seqQ.normal | apply ef_ret)
        (apply fin2; (· exact rfl); (· exact rfl); (· exact rfl); (· rw [HH.out, decide_eq_true hp]))
      · have hci : cmpI p1 a ≠ 0 := by unfold cmpI; split; omega; split; omega; omega
        generalize cmpI p1 a = cv at hci hcv
        repeat (first | apply ef_seq | (apply ef_mv; exact rfl; exact rfl) | (apply ef_bin; exact rfl; exact rfl; exact rfl; (first | exact cmp_t rfl (by first | exact rfl | (simp only [cmpP]; omega)) | exact cmp_f rfl (by simp only [cmpP]; omega))) | (apply ef_gy; exact rfl; (exact (rfl : true = true))) | (apply ef_ldr; exact rfl; exact rfl; (exact rd_2 rfl rfl)) | (apply ef_ias; exact rfl; exact rfl; exact rfl; (omega); assumption; exact rfl) | apply ef_nil | apply seqQ.normal | apply loopQ.exit | apply ef_exit | apply seqQ.exit | apply blockQ.here | (apply ef_condf; exact rfl; (exact (rfl : false = false))))
        (apply ef_callv; (· exact rfl); (· exact rfl); (· ((repeat (apply XVs.cons; exact rfl)); exact XVs.nil)); (· exact rfl); (· exact hcv _))
        repeat (first | (apply ef_mv; exact rfl; exact rfl) | (apply ef_bin; exact rfl; exact rfl; exact rfl; (exact cmp_f rfl (by simp only [cmpP]; omega))) | (apply ef_gy; exact rfl; (exact (rfl : true = true))) | (apply ef_pick; exact rfl; exact rfl; exact rfl) | apply ef_nil | apply seqQ.normal | apply ef_ret)
        (apply fin2; (· exact rfl); (· exact rfl); (· exact rfl); (· rw [HH.out, decide_eq_false hp]))
    · have HH := Lib.hid (show hasK a ks = false by unfold hasK; rw [List.getElem?_eq_none (by omega)])
      generalize lowI a ks = q at *
      repeat (first | apply ef_seq | (apply ef_mv; exact rfl; exact rfl) | (apply ef_bin; exact rfl; exact rfl; exact rfl; (exact cmp_f rfl (by simp only [cmpP]; omega))) | (apply ef_gn; exact rfl; (exact (rfl : false = false)); exact rfl) | (apply ef_pick; exact rfl; exact rfl; exact rfl) | apply ef_nil | apply seqQ.normal | apply loopQ.exit | apply ef_ret | apply ef_exit | apply seqQ.exit | apply blockQ.here | (apply ef_condf; exact rfl; (exact (rfl : false = false))))
      (apply fin2; (· exact rfl); (· exact rfl); (· exact rfl); (· rw [HH.out]))
theorem BSF_c (k : Nat) (ks : List (Int × Int)) (a : Int) (hs : SrtK ks) (hl : ks.length ≤ 100) (h : MHeap) : orA (k + 4) 82 [.sl (ks.map encR), I64 a, .fn 83 0 []] h = some (.tup [I64 (lowI a ks : Nat), Bo (hasK a ks)], h) :=
  callTT (args' := [.sl (ks.map encR), I64 a, .fn 83 0 []]) (frzL_lt (by simp [ltL, MV.lt, ltL_R])) rfl (BSF_z k ks a hs hl)
end Go.Proofs.Ytbdleggmdbihnaa

/- Contracts: the piece of a line; rounding. -/
namespace Go.Proofs.Ytbdleggmdbihnaa
open Go.RowKit
set_option linter.unusedVariables false
set_option linter.unusedSimpArgs false
theorem mul_bd {a b A B : Int} (h1 : -A ≤ a) (h2 : a ≤ A) (h3 : -B ≤ b) (h4 : b ≤ B) : -(A * B) ≤ a * b ∧ a * b ≤ A * B := by
  have p1 := Int.mul_nonneg (a := A - a) (b := B + b) (by omega) (by omega)
  have p2 := Int.mul_nonneg (a := A + a) (b := B - b) (by omega) (by omega)
  have p3 := Int.mul_nonneg (a := A - a) (b := B - b) (by omega) (by omega)
  have p4 := Int.mul_nonneg (a := A + a) (b := B + b) (by omega) (by omega)
  simp only [Int.sub_mul, Int.mul_sub, Int.add_mul, Int.mul_add] at p1 p2 p3 p4
  omega
theorem mul_w {a b : Int} (A B : Int) (h1 : -A ≤ a) (h2 : a ≤ A) (h3 : -B ≤ b) (h4 : b ≤ B) (h5 : A * B ≤ 1000000000000000000) : IntKind.i64.wrap (a * b) = a * b := by
  have := mul_bd h1 h2 h3 h4
  exact wrap_of (by omega) (by omega)
def rndP (n b : Int) : Int × Int := (n / b, if n / b * b = n then n / b else n / b + 1)
theorem quo_facts {n b : Int} (hb : 0 < b) : (n.tmod b < 0 → n / b = n.tdiv b - 1) ∧ (0 ≤ n.tmod b → n / b = n.tdiv b) := by
  have h1 : b * n.tdiv b + n.tmod b = n := Int.mul_tdiv_add_tmod n b
  have h2 : b * (n / b) + n % b = n := Int.mul_ediv_add_emod n b
  have h3 := Int.emod_nonneg n (show b ≠ 0 by omega)
  have h4 := Int.emod_lt_of_pos n hb
  have h5 : n.tmod b < b := by
    by_cases hn : 0 ≤ n
    · exact Int.tmod_lt_of_pos n hb
    · have := Int.tmod_nonneg (a := -n) b (by omega)
      rw [Int.neg_tmod] at this; omega
  have h6 : -b < n.tmod b := by
    by_cases hn : 0 ≤ n
    · have := Int.tmod_nonneg (a := n) b hn; omega
    · have := Int.tmod_lt_of_pos (-n) hb
      rw [Int.neg_tmod] at this; omega
  generalize n / b = e at *
  generalize n.tdiv b = q at *
  generalize n.tmod b = r at *
  generalize n % b = m at *
  have key : b * (e - q) = r - m := by rw [Int.mul_sub]; omega
  have lo : e - q ≤ -2 → b * (e - q) ≤ b * (-2) := fun h => Int.mul_le_mul_of_nonneg_left h (by omega)
  have hi : 1 ≤ e - q → b * 1 ≤ b * (e - q) := fun h => Int.mul_le_mul_of_nonneg_left h (by omega)
  have z : e - q = 0 → b * (e - q) = 0 := fun h => by rw [h]; exact Int.mul_zero b
  have o : e - q = -1 → b * (e - q) = b * (-1) := fun h => by rw [h]
  constructor
  · intro hr
    by_cases a1 : e - q ≤ -2
    · have := lo a1; omega
    · by_cases a2 : 1 ≤ e - q
      · have := hi a2; omega
      · by_cases a3 : e - q = 0
        · have := z a3; omega
        · omega
  · intro hr
    by_cases a1 : e - q ≤ -2
    · have := lo a1; omega
    · by_cases a2 : 1 ≤ e - q
      · have := hi a2; omega
      · by_cases a3 : e - q = -1
        · have := o a3; omega
        · omega
theorem mf_rounded : MT.mf 60 = some ⟨27, [(.cell 4 (some 2))], (.seq (.reg [⟨none, some 4, .new (.agg [(.lit (.int .i64 0)), (.lit (.int .i64 0))])⟩]) (.seq (.reg [⟨none, some 7, .mv (.s 0)⟩, ⟨none, some 8, .mv (.s 1)⟩, ⟨none, some 9, .bin .quo (.s 7) (.s 8)⟩, ⟨none, some 5, .mv (.s 9)⟩]) (.seq (.seq (.reg [⟨none, some 10, .mv (.s 0)⟩, ⟨none, some 11, .mv (.s 1)⟩, ⟨none, some 12, .bin .rem (.s 10) (.s 11)⟩, ⟨none, some 13, .bin .lss (.s 12) (.c (.lit (.int .i64 0)))⟩]) (.cond (.s 13) (.reg [⟨none, some 14, .mv (.s 5)⟩, ⟨none, some 15, .bin .sub (.s 14) (.c (.lit (.int .i64 1)))⟩, ⟨none, some 5, .mv (.s 15)⟩]) .skip)) (.seq (.reg [⟨none, some 16, .mv (.s 5)⟩, ⟨none, some 6, .mv (.s 16)⟩]) (.seq (.seq (.reg [⟨none, some 17, .mv (.s 5)⟩, ⟨none, some 18, .mv (.s 1)⟩, ⟨none, some 19, .bin .mul (.s 17) (.s 18)⟩, ⟨none, some 20, .mv (.s 0)⟩, ⟨none, some 21, .bin .neq (.s 19) (.s 20)⟩]) (.cond (.s 21) (.reg [⟨none, some 22, .mv (.s 6)⟩, ⟨none, some 23, .bin .add (.s 22) (.c (.lit (.int .i64 1)))⟩, ⟨none, some 6, .mv (.s 23)⟩]) .skip)) (.seq (.reg [⟨none, some 24, .mv (.s 5)⟩, ⟨none, some 25, .mv (.s 6)⟩, ⟨none, some 26, .build [(.lit (.int .i64 0)), (.lit (.int .i64 0))] [(0, (1, (.s 24))), (1, (1, (.s 25)))]⟩, ⟨none, none, .st 2 (.s 4) (.s 26)⟩]) .ret))))))⟩ := by kernel_rfl
theorem fin_pr {x : MX2} {A : Sl} {h : MHeap} {t it : Nat} {ot : MObj} {a b : Int} {p : Int × Int} (hx : outX x = true) (h1 : look A t = some (.ptr it 0 0 0)) (h2 : h[it]? = some ot) (h3 : ot.g = 0) (h4 : ot.es = [.agg [I64 a, I64 b]]) (hp : p = (a, b)) : FinF [.cell t (some 2)] (encR p) [] x A h := by
  subst hp
  exact ⟨hx, [.agg [I64 a, I64 b]], [.agg [I64 a, I64 b]], ⟨_, [], rfl, ⟨it, 0, 0, 0, ot, _, h1, h2, h3, by rw [h4]; rfl, rd_2 rfl rfl⟩, rfl⟩, by simp [impIds], by simp [expL, frz, MV.lt, ltL, impIds], rfl⟩
set_option maxHeartbeats 1000000 in
theorem rounded_z (k : Nat) (n b : Int) (hb : 0 < b) (hb2 : b ≤ 1000000000000) (h1 : -1000000000000000 ≤ n) (h2 : n ≤ 1000000000000000) : runZ MT (orA k) (itA k) 4000000 60 [I64 n, I64 b] [] = some (encR (rndP n b), []) := by
  obtain ⟨f1, f2⟩ := quo_facts (n := n) hb
  have e2 : b * (n / b) + n % b = n := Int.mul_ediv_add_emod n b
  have e3 := Int.emod_nonneg n (show b ≠ 0 by omega)
  have e4 := Int.emod_lt_of_pos n hb
  rw [Int.mul_comm] at e2
  have hd : -1000000000000001 ≤ n / b ∧ n / b ≤ 1000000000000001 := by
    constructor
    · by_cases hc : -1000000000000001 ≤ n / b
      · exact hc
      · have hneg : n / b ≤ -1000000000000002 := by omega
        have := Int.mul_le_mul_of_nonneg_right hneg (show 0 ≤ b by omega)
        omega
    · by_cases hc : n / b ≤ 1000000000000001
      · exact hc
      · have hpos : 1000000000000002 ≤ n / b := by omega
        have := Int.mul_le_mul_of_nonneg_right hpos (show 0 ≤ b by omega)
        omega
  have hq : binI .quo .i64 n b = some (.int .i64 (n.tdiv b)) := by
    show (if b = 0 then none else some (Value.int .i64 (IntKind.i64.wrap (n.tdiv b)))) = _
    rw [if_neg (by omega), wrap_of]
    · by_cases hr : n.tmod b < 0
      · have := f1 hr; omega
      · have := f2 (by omega); omega
    · by_cases hr : n.tmod b < 0
      · have := f1 hr; omega
      · have := f2 (by omega); omega
  have hrm : binI .rem .i64 n b = some (.int .i64 (n.tmod b)) := by
    show (if b = 0 then none else some (Value.int .i64 (n.tmod b))) = _
    rw [if_neg (by omega)]
  have HR := Lib.hid (show rndP n b = (n / b, if n / b * b = n then n / b else n / b + 1) from rfl)
  have hmw : IntKind.i64.wrap (n / b * b) = n / b * b := wrap_of (by omega) (by omega)
  generalize n.tmod b = r at *
  generalize n.tdiv b = q at *
  generalize n / b = e at *
  refine runZ_of mf_rounded (by simp) ?_
  simp only [argsL]
  by_cases hr : r < 0
  · obtain rfl : e = q - 1 := f1 hr
    clear f1 f2
    by_cases hx : (q - 1) * b = n
    · repeat (first | apply ef_seq | (apply ef_mv; exact rfl; exact rfl) | (apply ef_bin; exact rfl; exact rfl; exact rfl; (first | assumption | exact cmp_t rfl (by first | exact rfl | (simp only [cmpP]; omega)) | exact cmp_f rfl (by simp only [cmpP]; omega) | ((with_reducible refine bin_sub (wrap_of ?_ ?_)) <;> omega) | ((with_reducible refine bin_mul (wrap_of ?_ ?_)) <;> omega))) | (apply ef_new; exact rfl) | (apply ef_build; exact rfl; (repeat (apply XVs.cons; exact rfl)); exact XVs.nil; exact rfl; exact rfl) | (apply ef_st; exact rfl; exact rfl; exact rfl; exact rfl; exact rfl; exact rfl; (exact rfl); exact rfl) | apply ef_nil | apply seqQ.normal | apply ef_ret | apply ef_skip | (apply ef_condt; exact rfl; (exact (rfl : true = true))) | (apply ef_condf; exact rfl; (exact (rfl : false = false))))
      (apply fin_pr; (· exact rfl); (· exact rfl); (· exact rfl); (· exact rfl); (· exact rfl))
      rw [HR.out, if_pos hx]
    · repeat (first | apply ef_seq | (apply ef_mv; exact rfl; exact rfl) | (apply ef_bin; exact rfl; exact rfl; exact rfl; (first | assumption | exact cmp_t rfl (by first | exact rfl | (simp only [cmpP]; omega)) | ((with_reducible refine bin_add (wrap_of ?_ ?_)) <;> omega) | ((with_reducible refine bin_sub (wrap_of ?_ ?_)) <;> omega) | ((with_reducible refine bin_mul (wrap_of ?_ ?_)) <;> omega))) | (apply ef_new; exact rfl) | (apply ef_build; exact rfl; (repeat (apply XVs.cons; exact rfl)); exact XVs.nil; exact rfl; exact rfl) | (apply ef_st; exact rfl; exact rfl; exact rfl; exact rfl; exact rfl; exact rfl; (exact rfl); exact rfl) | apply ef_nil | apply seqQ.normal | apply ef_ret | (apply ef_condt; exact rfl; (exact (rfl : true = true))))
      (apply fin_pr; (· exact rfl); (· exact rfl); (· exact rfl); (· exact rfl); (· exact rfl))
      rw [HR.out, if_neg hx]
  · obtain rfl : e = q := f2 (by omega)
    clear f1 f2
    by_cases hx : e * b = n
    · repeat (first | apply ef_seq | (apply ef_mv; exact rfl; exact rfl) | (apply ef_bin; exact rfl; exact rfl; exact rfl; (first | assumption | exact cmp_f rfl (by simp only [cmpP]; omega) | ((with_reducible refine bin_mul (wrap_of ?_ ?_)) <;> omega))) | (apply ef_new; exact rfl) | (apply ef_build; exact rfl; (repeat (apply XVs.cons; exact rfl)); exact XVs.nil; exact rfl; exact rfl) | (apply ef_st; exact rfl; exact rfl; exact rfl; exact rfl; exact rfl; exact rfl; (exact rfl); exact rfl) | apply ef_nil | apply seqQ.normal | apply ef_ret | apply ef_skip | (apply ef_condf; exact rfl; (exact (rfl : false = false))))
      (apply fin_pr; (· exact rfl); (· exact rfl); (· exact rfl); (· exact rfl); (· exact rfl))
      rw [HR.out, if_pos hx]
    · repeat (first | apply ef_seq | (apply ef_mv; exact rfl; exact rfl) | (apply ef_bin; exact rfl; exact rfl; exact rfl; (first | assumption | exact cmp_t rfl (by first | exact rfl | (simp only [cmpP]; omega)) | exact cmp_f rfl (by simp only [cmpP]; omega) | ((with_reducible refine bin_add (wrap_of ?_ ?_)) <;> omega) | ((with_reducible refine bin_mul (wrap_of ?_ ?_)) <;> omega))) | (apply ef_new; exact rfl) | (apply ef_build; exact rfl; (repeat (apply XVs.cons; exact rfl)); exact XVs.nil; exact rfl; exact rfl) | (apply ef_st; exact rfl; exact rfl; exact rfl; exact rfl; exact rfl; exact rfl; (exact rfl); exact rfl) | apply ef_nil | apply seqQ.normal | apply ef_ret | apply ef_skip | (apply ef_condt; exact rfl; (exact (rfl : true = true))) | (apply ef_condf; exact rfl; (exact (rfl : false = false))))
      (apply fin_pr; (· exact rfl); (· exact rfl); (· exact rfl); (· exact rfl); (· exact rfl))
      rw [HR.out, if_neg hx]
theorem encR_pair (p : Int × Int) : encR p = .agg [I64 p.1, I64 p.2] := by obtain ⟨a, b⟩ := p; rfl
theorem rounded_c (k : Nat) (n b : Int) (hb : 0 < b) (hb2 : b ≤ 1000000000000) (h1 : -1000000000000000 ≤ n) (h2 : n ≤ 1000000000000000) (h : MHeap) : orA (k + 1) 60 [I64 n, I64 b] h = some (encR (rndP n b), h) := by
  have := callA (k := k) (h := h) (frzL_lt (ms := [I64 n, I64 b]) rfl) rfl (rounded_z k n b hb hb2 h1 h2) (by rw [encR_pair]; simp [okV, ok1, MV.lt, ltL, pureL, MV.pure]) rfl
  rw [encR_pair] at this ⊢
  simpa [shV, sh1] using this
def pieceP (ks : List (Int × Int)) (a : Int) : Int × Int :=
  if ks.length = 0 then (0, 1)
  else if hasK a ks = true then ((ks.getD (lowI a ks) (0, 0)).2, 1)
  else if lowI a ks = 0 then ((ks.getD 0 (0, 0)).2, 1)
  else if lowI a ks = ks.length then ((ks.getD (ks.length - 1) (0, 0)).2, 1)
  else
    let p := ks.getD (lowI a ks - 1) (0, 0)
    let q := ks.getD (lowI a ks) (0, 0)
    (p.2 * (q.1 - p.1) + (q.2 - p.2) * (a - p.1), q.1 - p.1)
theorem hasK_lt {a : Int} {ks : List (Int × Int)} (h : hasK a ks = true) : lowI a ks < ks.length := by
  unfold hasK at h
  split at h
  · rename_i p hp; exact (List.getElem?_eq_some_iff.1 hp).1
  · cases h
theorem knot_atD {ks : List (Int × Int)} {i : Nat} (h : i < ks.length) : (ks.map encR)[((i : Nat) : Int).toNat]? = some (.agg [I64 (ks.getD i (0, 0)).1, I64 (ks.getD i (0, 0)).2]) := by
  rw [knot_at h, List.getD_eq_getElem?_getD, List.getElem?_eq_getElem h]; rfl
theorem mf_piece : MT.mf 59 = some ⟨77, [(.tmp 4), (.tmp 5)], (.seq (.reg [⟨none, some 4, .mv (.c (.lit (.int .i64 0)))⟩, ⟨none, some 5, .mv (.c (.lit (.int .i64 0)))⟩]) (.seq (.seq (.reg [⟨none, some 10, .mv (.s 0)⟩, ⟨none, some 11, .len (.s 10)⟩, ⟨none, some 12, .bin .eql (.s 11) (.c (.lit (.int .i64 0)))⟩]) (.cond (.s 12) (.seq (.reg [⟨none, some 4, .mv (.c (.lit (.int .i64 0)))⟩, ⟨none, some 5, .mv (.c (.lit (.int .i64 1)))⟩]) .ret) .skip)) (.seq (.reg [⟨none, some 14, .mv (.s 0)⟩, ⟨none, some 15, .mv (.s 1)⟩, ⟨none, some 16, .call 82 [.s 14, .s 15, (.c (.fn 83 0 []))]⟩, ⟨none, some 13, .mv (.s 16)⟩, ⟨none, some 17, .ext (.s 13) 0⟩, ⟨none, some 18, .ext (.s 13) 1⟩, ⟨none, some 6, .mv (.s 17)⟩, ⟨none, some 7, .mv (.s 18)⟩]) (.seq (.block 0 (.seq (.reg [⟨none, some 20, .mv (.s 7)⟩, ⟨none, some 19, .mv (.s 20)⟩]) (.cond (.s 19) (.seq (.reg [⟨none, some 21, .mv (.s 0)⟩, ⟨none, some 22, .mv (.s 6)⟩, ⟨none, some 23, .ia 2 (.s 21) (.s 22)⟩, ⟨none, some 24, .fa 1 (.s 23)⟩, ⟨none, some 25, .ld none (.s 24)⟩, ⟨none, some 4, .mv (.s 25)⟩, ⟨none, some 5, .mv (.c (.lit (.int .i64 1)))⟩]) .ret) (.seq (.reg [⟨none, some 27, .mv (.s 6)⟩, ⟨none, some 28, .bin .eql (.s 27) (.c (.lit (.int .i64 0)))⟩, ⟨none, some 26, .mv (.s 28)⟩]) (.cond (.s 26) (.seq (.reg [⟨none, some 29, .mv (.s 0)⟩, ⟨none, some 30, .ia 2 (.s 29) (.c (.lit (.int .i64 0)))⟩, ⟨none, some 31, .fa 1 (.s 30)⟩, ⟨none, some 32, .ld none (.s 31)⟩, ⟨none, some 4, .mv (.s 32)⟩, ⟨none, some 5, .mv (.c (.lit (.int .i64 1)))⟩]) .ret) (.seq (.reg [⟨none, some 34, .mv (.s 6)⟩, ⟨none, some 35, .mv (.s 0)⟩, ⟨none, some 36, .len (.s 35)⟩, ⟨none, some 37, .bin .eql (.s 34) (.s 36)⟩, ⟨none, some 33, .mv (.s 37)⟩]) (.cond (.s 33) (.seq (.reg [⟨none, some 38, .mv (.s 0)⟩, ⟨none, some 39, .mv (.s 6)⟩, ⟨none, some 40, .bin .sub (.s 39) (.c (.lit (.int .i64 1)))⟩, ⟨none, some 41, .ia 2 (.s 38) (.s 40)⟩, ⟨none, some 42, .fa 1 (.s 41)⟩, ⟨none, some 43, .ld none (.s 42)⟩, ⟨none, some 4, .mv (.s 43)⟩, ⟨none, some 5, .mv (.c (.lit (.int .i64 1)))⟩]) .ret) .skip))))))) (.seq (.reg [⟨none, some 8, .new (.agg [(.lit (.int .i64 0)), (.lit (.int .i64 0))])⟩, ⟨none, some 9, .new (.agg [(.lit (.int .i64 0)), (.lit (.int .i64 0))])⟩, ⟨none, some 44, .mv (.s 0)⟩, ⟨none, some 45, .mv (.s 6)⟩, ⟨none, some 46, .bin .sub (.s 45) (.c (.lit (.int .i64 1)))⟩, ⟨none, some 47, .ia 2 (.s 44) (.s 46)⟩, ⟨none, some 48, .ld (some 2) (.s 47)⟩, ⟨none, some 49, .mv (.s 0)⟩, ⟨none, some 50, .mv (.s 6)⟩, ⟨none, some 51, .ia 2 (.s 49) (.s 50)⟩, ⟨none, some 52, .ld (some 2) (.s 51)⟩, ⟨none, some 8, .nilck (.s 8)⟩, ⟨none, some 9, .nilck (.s 9)⟩, ⟨none, none, .st 2 (.s 8) (.s 48)⟩, ⟨none, none, .st 2 (.s 9) (.s 52)⟩, ⟨none, none, .ne (.s 51) (.s 8)⟩]) (.seq (.reg [⟨none, some 53, .fa 1 (.s 8)⟩, ⟨none, some 54, .ld none (.s 53)⟩, ⟨none, some 55, .fa 0 (.s 9)⟩, ⟨none, some 56, .ld none (.s 55)⟩, ⟨none, some 57, .fa 0 (.s 8)⟩, ⟨none, some 58, .ld none (.s 57)⟩, ⟨none, some 59, .bin .sub (.s 56) (.s 58)⟩, ⟨none, some 60, .bin .mul (.s 54) (.s 59)⟩, ⟨none, some 61, .fa 1 (.s 9)⟩, ⟨none, some 62, .ld none (.s 61)⟩, ⟨none, some 63, .fa 1 (.s 8)⟩, ⟨none, some 64, .ld none (.s 63)⟩, ⟨none, some 65, .bin .sub (.s 62) (.s 64)⟩, ⟨none, some 66, .mv (.s 1)⟩, ⟨none, some 67, .fa 0 (.s 8)⟩, ⟨none, some 68, .ld none (.s 67)⟩, ⟨none, some 69, .bin .sub (.s 66) (.s 68)⟩, ⟨none, some 70, .bin .mul (.s 65) (.s 69)⟩, ⟨none, some 71, .bin .add (.s 60) (.s 70)⟩, ⟨none, some 72, .fa 0 (.s 9)⟩, ⟨none, some 73, .ld none (.s 72)⟩, ⟨none, some 74, .fa 0 (.s 8)⟩, ⟨none, some 75, .ld none (.s 74)⟩, ⟨none, some 76, .bin .sub (.s 73) (.s 75)⟩, ⟨none, some 4, .mv (.s 71)⟩, ⟨none, some 5, .mv (.s 76)⟩]) .ret))))))⟩ := by kernel_rfl
set_option maxHeartbeats 2000000 in
theorem piece_z (k : Nat) (ks : List (Int × Int)) (a : Int) (hs : SrtK ks) (hl : ks.length ≤ 100) (ha : 0 ≤ a ∧ a ≤ 1000000) (hb : ∀ p ∈ ks, (0 ≤ p.1 ∧ p.1 ≤ 1000000) ∧ (-3000000 ≤ p.2 ∧ p.2 ≤ 3000000)) :
    runZ MT (orA (k + 4)) (itA (k + 4)) 4000000 59 [.sl (ks.map encR), I64 a] [] = some (.tup [I64 (pieceP ks a).1, I64 (pieceP ks a).2], []) := by
  have hsl : (MV.sl (ks.map encR)).slen = some ks.length := by simp [MV.slen]
  have hbs := fun h => BSF_c k ks a hs hl h
  have hle := lowI_le a ks
  have hbd : ∀ i, i < ks.length → (0 ≤ (ks.getD i (0, 0)).1 ∧ (ks.getD i (0, 0)).1 ≤ 1000000) ∧ (-3000000 ≤ (ks.getD i (0, 0)).2 ∧ (ks.getD i (0, 0)).2 ≤ 3000000) := fun i hi => by
    rw [List.getD_eq_getElem?_getD, List.getElem?_eq_getElem hi]; exact hb _ (List.getElem_mem hi)
  refine runZ_of mf_piece (by simp) ?_
  simp only [argsL]
  by_cases h0 : ks.length = 0
  · have HP := Lib.hid (show pieceP ks a = (0, 1) by unfold pieceP; rw [if_pos h0])
    repeat (first | apply ef_seq | (apply ef_mv; exact rfl; exact rfl) | (apply ef_bin; exact rfl; exact rfl; exact rfl; (exact cmp_t rfl (by first | exact rfl | (simp only [cmpP]; omega)))) | (apply ef_len; exact rfl; exact rfl; (assumption)) | apply ef_nil | apply seqQ.normal | apply ef_ret | apply seqQ.ret | (apply ef_condt; exact rfl; (exact (rfl : true = true))))
    (apply fin2; (· exact rfl); (· exact rfl); (· exact rfl); (· rw [HP.out]))
  · cases hk : hasK a ks
    · by_cases h1 : lowI a ks = 0
      · have HP := Lib.hid (show pieceP ks a = ((ks.getD 0 (0, 0)).2, 1) by unfold pieceP; rw [if_neg h0, hk, if_neg (by simp), if_pos h1])
        have e1 := knot_atD (ks := ks) (i := 0) (by omega)
        rw [hk, h1] at hbs
        repeat (first | apply ef_seq | (apply ef_mv; exact rfl; exact rfl) | (apply ef_bin; exact rfl; exact rfl; exact rfl; (first | exact cmp_t rfl (by first | exact rfl | (simp only [cmpP]; omega)) | exact cmp_f rfl (by simp only [cmpP]; omega))) | (apply ef_len; exact rfl; exact rfl; (assumption)) | (apply ef_ldr; exact rfl; exact rfl; (exact rfl)) | (apply ef_ias; exact rfl; exact rfl; exact rfl; (omega); assumption; exact rfl) | (apply ef_far; exact rfl; exact rfl) | (apply ef_ext; exact rfl; exact rfl; exact rfl) | apply ef_nil | apply seqQ.normal | apply ef_ret | apply seqQ.ret | apply blockQ.ret | apply ef_block | apply ef_skip | (apply ef_condt; exact rfl; (exact (rfl : true = true))) | (apply ef_condf; exact rfl; (exact (rfl : false = false))) | (apply ef_call; exact rfl; ((repeat (apply XVs.cons; exact rfl)); exact XVs.nil); (with_reducible exact hbs _)))
        (apply fin2; (· exact rfl); (· exact rfl); (· exact rfl); (· rw [HP.out]))
      · by_cases h2 : lowI a ks = ks.length
        · have HP := Lib.hid (show pieceP ks a = ((ks.getD (ks.length - 1) (0, 0)).2, 1) by unfold pieceP; rw [if_neg h0, hk, if_neg (by simp), if_neg h1, if_pos h2])
          have e1 := knot_atD (ks := ks) (i := ks.length - 1) (by omega)
          have e2 : (((ks.length - 1 : Nat) : Int)) = (ks.length : Int) - 1 := by omega
          rw [e2] at e1
          rw [hk, h2] at hbs
          generalize ks.getD (ks.length - 1) (0, 0) = p at *
          repeat (first | apply ef_seq | (apply ef_mv; exact rfl; exact rfl) | (apply ef_bin; exact rfl; exact rfl; exact rfl; (first | exact cmp_t rfl (by first | exact rfl | (simp only [cmpP]; omega)) | exact cmp_f rfl (by simp only [cmpP]; omega) | ((with_reducible refine bin_sub (wrap_of ?_ ?_)) <;> omega))) | (apply ef_len; exact rfl; exact rfl; (assumption)) | (apply ef_ldr; exact rfl; exact rfl; (exact rfl)) | (apply ef_ias; exact rfl; exact rfl; exact rfl; (omega); assumption; exact rfl) | (apply ef_far; exact rfl; exact rfl) | (apply ef_ext; exact rfl; exact rfl; exact rfl) | apply ef_nil | apply seqQ.normal | apply ef_ret | apply seqQ.ret | apply blockQ.ret | apply ef_block | apply ef_skip | (apply ef_condt; exact rfl; (exact (rfl : true = true))) | (apply ef_condf; exact rfl; (exact (rfl : false = false))) | (apply ef_call; exact rfl; ((repeat (apply XVs.cons; exact rfl)); exact XVs.nil); (with_reducible exact hbs _)))
          (apply fin2; (· exact rfl); (· exact rfl); (· exact rfl); (· rw [HP.out]))
        · have HP := Lib.hid (show pieceP ks a = ((ks.getD (lowI a ks - 1) (0, 0)).2 * ((ks.getD (lowI a ks) (0, 0)).1 - (ks.getD (lowI a ks - 1) (0, 0)).1) + ((ks.getD (lowI a ks) (0, 0)).2 - (ks.getD (lowI a ks - 1) (0, 0)).2) * (a - (ks.getD (lowI a ks - 1) (0, 0)).1), (ks.getD (lowI a ks) (0, 0)).1 - (ks.getD (lowI a ks - 1) (0, 0)).1) by unfold pieceP; rw [if_neg h0, hk, if_neg (by simp), if_neg h1, if_neg h2])
          have e1 := knot_atD (ks := ks) (i := lowI a ks - 1) (by omega)
          have e2 : (((lowI a ks - 1 : Nat) : Int)) = (lowI a ks : Int) - 1 := by omega
          rw [e2] at e1
          have e3 := knot_atD (ks := ks) (i := lowI a ks) (by omega)
          obtain ⟨⟨b1, b2⟩, b3, b4⟩ := hbd (lowI a ks - 1) (by omega)
          obtain ⟨⟨b5, b6⟩, b7, b8⟩ := hbd (lowI a ks) (by omega)
          rw [hk] at hbs
          generalize ks.getD (lowI a ks - 1) (0, 0) = p at *
          generalize ks.getD (lowI a ks) (0, 0) = q at *
          generalize lowI a ks = w at *
          obtain ⟨p1, p2⟩ := p
          obtain ⟨q1, q2⟩ := q
          simp only at b1 b2 b3 b4 b5 b6 b7 b8 e1 e3
          have m1 := mul_w (a := p2) (b := q1 - p1) 3000000 1000000 (by omega) (by omega) (by omega) (by omega) (by omega)
          have m2 := mul_w (a := q2 - p2) (b := a - p1) 6000000 1000000 (by omega) (by omega) (by omega) (by omega) (by omega)
          have m3 := mul_bd (a := p2) (b := q1 - p1) (A := 3000000) (B := 1000000) (by omega) (by omega) (by omega) (by omega)
          have m4 := mul_bd (a := q2 - p2) (b := a - p1) (A := 6000000) (B := 1000000) (by omega) (by omega) (by omega) (by omega)
          repeat (first | apply ef_seq | (apply ef_mv; exact rfl; exact rfl) | (apply ef_bin; exact rfl; exact rfl; exact rfl; (first | exact cmp_f rfl (by simp only [cmpP]; omega) | ((with_reducible refine bin_add (wrap_of ?_ ?_)) <;> omega) | ((with_reducible refine bin_sub (wrap_of ?_ ?_)) <;> omega) | ((with_reducible refine bin_mul (wrap_of ?_ ?_)) <;> omega))) | (apply ef_len; exact rfl; exact rfl; (assumption)) | (apply ef_ldr; exact rfl; exact rfl; (exact rd_2 rfl rfl)) | (apply ef_ldp; exact rfl; exact rfl; (exact rfl); exact rfl; (exact rfl); (exact rfl)) | (apply ef_ias; exact rfl; exact rfl; exact rfl; (omega); assumption; exact rfl) | (apply ef_fap; exact rfl; exact rfl) | (apply ef_ext; exact rfl; exact rfl; exact rfl) | (apply ef_new; exact rfl) | (apply ef_nilck; exact rfl; exact rfl; exact rfl) | (apply ef_ne; exact rfl; exact rfl; (exact rfl)) | (apply ef_st; exact rfl; exact rfl; exact rfl; exact rfl; exact rfl; exact rfl; (exact rfl); exact rfl) | apply ef_nil | apply seqQ.normal | apply ef_ret | apply blockQ.normal | apply ef_block | apply ef_skip | (apply ef_condf; exact rfl; (exact (rfl : false = false))) | (apply ef_call; exact rfl; ((repeat (apply XVs.cons; exact rfl)); exact XVs.nil); (with_reducible exact hbs _)))
          (apply fin2; (· exact rfl); (· exact rfl); (· exact rfl); (· rw [HP.out]))
    · have h1 := hasK_lt hk
      have HP := Lib.hid (show pieceP ks a = ((ks.getD (lowI a ks) (0, 0)).2, 1) by unfold pieceP; rw [if_neg h0, if_pos hk])
      have e1 := knot_atD h1
      rw [hk] at hbs
      generalize ks.getD (lowI a ks) (0, 0) = p at *
      generalize lowI a ks = w at *
      repeat (first | apply ef_seq | (apply ef_mv; exact rfl; exact rfl) | (apply ef_bin; exact rfl; exact rfl; exact rfl; (exact cmp_f rfl (by simp only [cmpP]; omega))) | (apply ef_len; exact rfl; exact rfl; (assumption)) | (apply ef_ldr; exact rfl; exact rfl; (exact rfl)) | (apply ef_ias; exact rfl; exact rfl; exact rfl; (omega); assumption; exact rfl) | (apply ef_far; exact rfl; exact rfl) | (apply ef_ext; exact rfl; exact rfl; exact rfl) | apply ef_nil | apply seqQ.normal | apply ef_ret | apply seqQ.ret | apply blockQ.ret | apply ef_block | apply ef_skip | (apply ef_condt; exact rfl; (exact (rfl : true = true))) | (apply ef_condf; exact rfl; (exact (rfl : false = false))) | (apply ef_call; exact rfl; ((repeat (apply XVs.cons; exact rfl)); exact XVs.nil); (with_reducible exact hbs _)))
      (apply fin2; (· exact rfl); (· exact rfl); (· exact rfl); (· rw [HP.out]))
theorem piece_c (k : Nat) (ks : List (Int × Int)) (a : Int) (hs : SrtK ks) (hl : ks.length ≤ 100) (ha : 0 ≤ a ∧ a ≤ 1000000) (hb : ∀ p ∈ ks, (0 ≤ p.1 ∧ p.1 ≤ 1000000) ∧ (-3000000 ≤ p.2 ∧ p.2 ≤ 3000000)) (h : MHeap) {v : MV} (hv : frz 0 [] h 8 v = some (.sl (ks.map encR))) :
    orA (k + 5) 59 [v, I64 a] h = some (.tup [I64 (pieceP ks a).1, I64 (pieceP ks a).2], h) :=
  callTT (args' := [.sl (ks.map encR), I64 a]) (by simp [List.mapM_cons, hv, frz_lt (m := I64 a) rfl]) rfl (piece_z k ks a hs hl ha hb)
end Go.Proofs.Ytbdleggmdbihnaa

/- The knots of a line, sorted; levelled values; their contract. -/
namespace Go.Proofs.Ytbdleggmdbihnaa
open Go.RowKit
set_option linter.unusedVariables false
def insP (x : Int × Int) : List (Int × Int) → List (Int × Int)
  | [] => [x]
  | y :: ys => if x.1 < y.1 then x :: y :: ys else y :: insP x ys
def sortP : List (Int × Int) → List (Int × Int)
  | [] => []
  | x :: xs => insP x (sortP xs)
abbrev rowP (p : Int × Int) : List Int := [p.1, p.2]
theorem insP_row (x : Int × Int) : ∀ ys : List (Int × Int), insS 0 (rowP x) (ys.map rowP) = (insP x ys).map rowP
  | [] => rfl
  | y :: ys => by
    rw [List.map_cons, insS, insP]
    have e : sortLt 0 (rowP x) (rowP y) = decide (x.1 < y.1) := rfl
    rw [e]
    by_cases h : x.1 < y.1
    · simp [h]
    · simp [h, insP_row x ys]
theorem sortP_row : ∀ ys : List (Int × Int), sortS 0 (ys.map rowP) = (sortP ys).map rowP
  | [] => rfl
  | y :: ys => by rw [List.map_cons, sortS, sortP_row ys, insP_row, sortP]
theorem insP_mem {x y : Int × Int} : ∀ {ys : List (Int × Int)}, y ∈ insP x ys ↔ y = x ∨ y ∈ ys
  | [] => by simp [insP]
  | z :: ys => by
    unfold insP
    split
    · simp
    · simp only [List.mem_cons, insP_mem (ys := ys)]
      constructor
      · rintro (h | h | h)
        · exact .inr (.inl h)
        · exact .inl h
        · exact .inr (.inr h)
      · rintro (h | h | h)
        · exact .inr (.inl h)
        · exact .inl h
        · exact .inr (.inr h)
theorem sortP_mem {y : Int × Int} : ∀ {ys : List (Int × Int)}, y ∈ sortP ys ↔ y ∈ ys
  | [] => by simp [sortP]
  | z :: ys => by rw [sortP, insP_mem, sortP_mem (ys := ys), List.mem_cons]
theorem insP_len (x : Int × Int) : ∀ ys : List (Int × Int), (insP x ys).length = ys.length + 1
  | [] => rfl
  | y :: ys => by
    unfold insP
    split
    · rfl
    · simp [insP_len x ys]
theorem sortP_len : ∀ ys : List (Int × Int), (sortP ys).length = ys.length
  | [] => rfl
  | y :: ys => by rw [sortP, insP_len, sortP_len ys]; rfl
theorem insP_srt {x : Int × Int} : ∀ {ys : List (Int × Int)}, SrtK ys → (∀ y ∈ ys, y.1 ≠ x.1) → SrtK (insP x ys)
  | [], _, _ => by simp [insP, SrtK]
  | y :: ys, hs, hd => by
    rw [SrtK, List.pairwise_cons] at hs
    unfold insP
    split
    · rename_i h
      rw [SrtK, List.pairwise_cons, List.pairwise_cons]
      refine ⟨fun z hz => ?_, hs⟩
      rcases List.mem_cons.1 hz with rfl | hz
      · exact h
      · exact Int.lt_trans h (hs.1 z hz)
    · rename_i h
      rw [SrtK, List.pairwise_cons]
      refine ⟨fun z hz => ?_, insP_srt hs.2 fun z hz => hd z (List.mem_cons_of_mem _ hz)⟩
      rcases insP_mem.1 hz with rfl | hz
      · have := hd y List.mem_cons_self
        omega
      · exact hs.1 z hz
abbrev DisK (ks : List (Int × Int)) : Prop := ks.Pairwise (fun p q => p.1 ≠ q.1)
theorem sortP_srt : ∀ {ys : List (Int × Int)}, DisK ys → SrtK (sortP ys)
  | [], _ => by simp [sortP, SrtK]
  | y :: ys, hd => by
    rw [DisK, List.pairwise_cons] at hd
    rw [sortP]
    exact insP_srt (sortP_srt hd.2) fun z hz => fun e => hd.1 z (sortP_mem.1 hz) e.symm
theorem ord_srt : ∀ {ys : List (Int × Int)}, SrtK ys → ordS 0 (ys.map rowP) = true
  | [], _ => rfl
  | y :: ys, hs => by
    rw [SrtK, List.pairwise_cons] at hs
    rw [List.map_cons, ordS, ord_srt hs.2, Bool.and_true, List.all_eq_true]
    intro z hz
    obtain ⟨p, hp, rfl⟩ := List.mem_map.1 hz
    have e : sortLt 0 (rowP y) (rowP p) = decide (y.1 < p.1) := rfl
    rw [e, decide_eq_true (hs.1 p hp)]; rfl
theorem rows_pairs : ∀ ks : List (Int × Int), rowsOf (ks.map encR) = some (ks.map rowP)
  | [] => rfl
  | (a, b) :: ks => by simp [rowsOf, rowOf, i64s, encR, rows_pairs ks]
theorem pair_row (ks : List (Int × Int)) : (ks.map rowP).map pairM = ks.map encR := by
  rw [List.map_map]
  refine List.map_congr_left fun p _ => ?_
  obtain ⟨a, b⟩ := p; rfl
theorem srt_pairs {ks : List (Int × Int)} (hd : DisK ks) (hb : ∀ p ∈ ks, (-1000000000 < p.1 ∧ p.1 < 1000000000) ∧ (-1000000000 < p.2 ∧ p.2 < 1000000000)) : srtM 0 (ks.map encR) = some ((sortP ks).map encR) := by
  unfold srtM
  rw [rows_pairs]
  simp only
  have h1 : (ks.map rowP).all (okRow 0) = true := by
    rw [List.all_eq_true]
    intro x hx
    obtain ⟨p, hp, rfl⟩ := List.mem_map.1 hx
    have := hb p hp
    simp [okRow, this]
  rw [h1, sortP_row, ord_srt (sortP_srt hd), pair_row]; rfl
def lvF (c : List Int) (line : Int) (x : Cr) : Option (Int × Int) := if line = x.ln then some (x.pa, 0 - resI c x) else if line = x.ti then some (x.pt, resI c x) else none
def knU (n : Nt) (c : List Int) (line : Int) (i : Nat) : List (Int × Int) := (n.cs.take i).filterMap (lvF c line)
def knS (n : Nt) (c : List Int) (line : Int) : List (Int × Int) := sortP (n.cs.filterMap (lvF c line))
theorem knU_all (n : Nt) (c : List Int) (line : Int) : knU n c line n.cs.length = n.cs.filterMap (lvF c line) := by simp [knU]
theorem knU_len (n : Nt) (c : List Int) (line : Int) (i : Nat) : (knU n c line i).length ≤ i := by
  unfold knU
  have h1 := List.length_filterMap_le (lvF c line) (n.cs.take i)
  simp at h1; omega
theorem knU_some {n : Nt} {c : List Int} {line : Int} {i : Nat} {x : Cr} {p : Int × Int} (h : n.cs[i]? = some x) (hp : lvF c line x = some p) : knU n c line (i + 1) = knU n c line i ++ [p] := by
  unfold knU; rw [List.take_add_one, h, List.filterMap_append]; simp [hp]
theorem knU_none {n : Nt} {c : List Int} {line : Int} {i : Nat} {x : Cr} (h : n.cs[i]? = some x) (hp : lvF c line x = none) : knU n c line (i + 1) = knU n c line i := by
  unfold knU; rw [List.take_add_one, h, List.filterMap_append]; simp [hp]
theorem knots_dis {n : Nt} (ok : OkN n) (c : List Int) (line : Int) : DisK (n.cs.filterMap (lvF c line)) := by
  unfold DisK
  rw [List.pairwise_filterMap]
  rw [List.pairwise_iff_getElem]
  intro i j hi hj hij p hp q hq e
  have hd := ok.ds j i hj hi hij
  have k1 := ok.kd n.cs[i] (List.getElem_mem hi)
  have k2 := ok.kd n.cs[j] (List.getElem_mem hj)
  unfold lvF at hp hq
  simp only [dblB, Bool.or_eq_false_iff, Bool.and_eq_false_iff, decide_eq_false_iff_not] at hd
  split at hp
  · rename_i h1
    cases hp
    split at hq
    · rename_i h2
      cases hq
      simp only at e
      rcases hd.1 with h | h
      · exact h (by rw [← h1, h2])
      · exact h (by rw [e])
    · split at hq
      · rename_i h2
        rw [← h1] at k1
        rw [← h2] at k2
        rw [k1.1] at k2
        exact absurd k2.2 (by simp)
      · cases hq
  · split at hp
    · rename_i h1
      cases hp
      split at hq
      · rename_i h2
        rw [← h1] at k1
        rw [← h2] at k2
        rw [k1.2] at k2
        exact absurd k2.1 (by simp)
      · split at hq
        · rename_i h2
          cases hq
          simp only at e
          rcases hd.2 with h | h
          · exact h (by rw [← h1, h2])
          · exact h (by rw [e])
        · cases hq
    · cases hp
theorem knots_bd {n : Nt} (ok : OkN n) {c : List Int} (hc : OkC n.ls.length c) (line : Int) : ∀ p ∈ n.cs.filterMap (lvF c line), (0 ≤ p.1 ∧ p.1 ≤ 1000000) ∧ (-2010000 ≤ p.2 ∧ p.2 ≤ 2010000) := by
  intro p hp
  obtain ⟨x, hx, hf⟩ := List.mem_filterMap.1 hp
  have ox := ok.rg x hx
  have hr := resI_bd hc ox
  unfold lvF at hf
  split at hf
  · cases hf
    exact ⟨ox.pa, by simp only; omega⟩
  · split at hf
    · cases hf
      exact ⟨ox.pt, hr⟩
    · cases hf
theorem knS_srt {n : Nt} (ok : OkN n) (c : List Int) (line : Int) : SrtK (knS n c line) := sortP_srt (knots_dis ok c line)
theorem knS_bd {n : Nt} (ok : OkN n) {c : List Int} (hc : OkC n.ls.length c) (line : Int) : ∀ p ∈ knS n c line, (0 ≤ p.1 ∧ p.1 ≤ 1000000) ∧ (-3000000 ≤ p.2 ∧ p.2 ≤ 3000000) := fun p hp => by
  have := knots_bd ok hc line p (sortP_mem.1 hp)
  exact ⟨this.1, by omega⟩
theorem knS_len (n : Nt) (c : List Int) (line : Int) : (knS n c line).length ≤ n.cs.length := by
  unfold knS
  rw [sortP_len]
  exact List.length_filterMap_le _ _
def lvP (n : Nt) (c : List Int) (line : Int) (s : Int × Int) : Int × Int :=
  rndP (2 * (pieceP (knS n c line) s.1).2 * (s.2 - cAt c line) + (pieceP (knS n c line) s.1).1) (2 * (pieceP (knS n c line) s.1).2)
theorem piece_bd {ks : List (Int × Int)} {a : Int} (hs : SrtK ks) (ha : 0 ≤ a ∧ a ≤ 1000000) (hb : ∀ p ∈ ks, (0 ≤ p.1 ∧ p.1 ≤ 1000000) ∧ (-3000000 ≤ p.2 ∧ p.2 ≤ 3000000)) :
    (1 ≤ (pieceP ks a).2 ∧ (pieceP ks a).2 ≤ 1000000) ∧ (-10000000000000 ≤ (pieceP ks a).1 ∧ (pieceP ks a).1 ≤ 10000000000000) := by
  have hle := lowI_le a ks
  have hbd : ∀ i, i < ks.length → (0 ≤ (ks.getD i (0, 0)).1 ∧ (ks.getD i (0, 0)).1 ≤ 1000000) ∧ (-3000000 ≤ (ks.getD i (0, 0)).2 ∧ (ks.getD i (0, 0)).2 ≤ 3000000) := fun i hi => by
    rw [List.getD_eq_getElem?_getD, List.getElem?_eq_getElem hi]; exact hb _ (List.getElem_mem hi)
  unfold pieceP
  split
  · simp
  · rename_i h0
    split
    · rename_i hk
      have := hbd _ (hasK_lt hk)
      simp only; omega
    · split
      · have := hbd 0 (by omega)
        simp only; omega
      · split
        · have := hbd (ks.length - 1) (by omega)
          simp only; omega
        · rename_i h1 h2
          have p1 := hbd (lowI a ks - 1) (by omega)
          have p2 := hbd (lowI a ks) (by omega)
          have hlt : (ks.getD (lowI a ks - 1) (0, 0)).1 < (ks.getD (lowI a ks) (0, 0)).1 := by
            rw [List.getD_eq_getElem?_getD, List.getD_eq_getElem?_getD, List.getElem?_eq_getElem (show lowI a ks - 1 < ks.length by omega), List.getElem?_eq_getElem (show lowI a ks < ks.length by omega)]
            exact List.pairwise_iff_getElem.1 hs _ _ _ _ (by omega)
          simp only
          generalize ks.getD (lowI a ks - 1) (0, 0) = p at *
          generalize ks.getD (lowI a ks) (0, 0) = q at *
          have m3 := mul_bd (a := p.2) (b := q.1 - p.1) (A := 3000000) (B := 1000000) (by omega) (by omega) (by omega) (by omega)
          have m4 := mul_bd (a := q.2 - p.2) (b := a - p.1) (A := 6000000) (B := 1000000) (by omega) (by omega) (by omega) (by omega)
          omega
end Go.Proofs.Ytbdleggmdbihnaa

/- The contract of Levelled. -/
namespace Go.Proofs.Ytbdleggmdbihnaa
open Go.RowKit
set_option linter.unusedVariables false
abbrev encS2 (s : Int × Int) : MV := .agg [I64 s.1, I64 s.2]
theorem mf_IndexFuncS : MT.mf 78 = some ⟨19, [(.tmp 4)], (.seq (.reg [⟨none, some 4, .mv (.c (.lit (.int .i64 0)))⟩]) (.seq (.seq (.reg [⟨none, some 6, .mv (.s 0)⟩, ⟨none, some 7, .len (.s 6)⟩, ⟨none, some 8, .mv (.c (.lit (.int .i64 0)))⟩]) (.block 0 (.loop [8, 7, 1, 0] (.seq (.reg [⟨none, some 9, .bin .lss (.s 8) (.s 7)⟩]) (.seq (.cond (.s 9) .skip (.exit 0)) (.seq (.block 1 (.seq (.reg [⟨none, some 10, .mv (.s 8)⟩, ⟨none, some 5, .mv (.s 10)⟩]) (.seq (.reg [⟨none, some 11, .mv (.s 1)⟩, ⟨none, some 12, .mv (.s 0)⟩, ⟨none, some 13, .mv (.s 5)⟩, ⟨none, some 14, .ia 2 (.s 12) (.s 13)⟩, ⟨none, some 15, .ld (some 2) (.s 14)⟩, ⟨none, some 16, .callv (.s 11) [.s 15]⟩]) (.cond (.s 16) (.seq (.reg [⟨none, some 17, .mv (.s 5)⟩, ⟨none, some 4, .mv (.s 17)⟩]) .ret) .skip)))) (.reg [⟨none, some 18, .bin .add (.s 8) (.c (.lit (.int .i64 1)))⟩, ⟨none, some 8, .mv (.s 18)⟩]))))))) (.seq (.reg [⟨none, some 4, .mv (.c (.lit (.int .i64 (-1))))⟩]) .ret)))⟩ := by kernel_rfl
theorem IndexFuncS_z (k g : Nat) (caps : List MV) (P : (Int × Int) → Bool) (zs : List (Int × Int)) (hx : zs.length ≤ 1000) (hg : ∀ z ∈ zs, ∀ h, orA k g (encS2 z :: caps) h = some (Bo (P z), h)) :
    runZ MT (orA k) (itA k) 4000000 78 [.sl (zs.map encS2), .fn g 0 caps] [] = some (I64 (fIxG P zs 0), []) := by
  have hl : (MV.sl (zs.map encS2)).slen = some zs.length := by simp [MV.slen]
  refine runZ_of mf_IndexFuncS (by simp) ?_
  simp only [argsL]
  repeat (first | apply ef_seq | (apply ef_mv; exact rfl; exact rfl) | (apply ef_len; exact rfl; exact rfl; (assumption)) | apply ef_nil | apply seqQ.normal | apply ef_block)
  refine ef_loop (α := Nat) (fun i => i ≤ zs.length ∧ fIxG P zs 0 = fIxG P (zs.drop i) i) (fun i => [(8, I64 (i : Int)), (7, I64 (zs.length : Int)), (1, .fn g 0 caps), (0, .sl (zs.map encS2))]) (fun _ => []) (fun i => zs.length - i) 0 [8, 7, 1, 0] (fun _ => rfl) rfl ⟨by omega, rfl⟩ (by simp; omega) (by ((repeat (refine Hold.cons (by exact rfl) ?_)); exact Hold.nil)) rfl ?_
  rintro i ⟨hi, hz⟩
  by_cases hlt : i < zs.length
  · have e1 := at_map encS2 zs i hlt
    have HD := Lib.hid (drop_at zs i hlt)
    have HZ := Lib.hid hz
    have hg1 := hg zs[i] (List.getElem_mem hlt)
    clear hz hg
    obtain ⟨t, ht⟩ : ∃ t, P zs[i] = t := ⟨_, rfl⟩
    have HT := Lib.hid ht
    rw [ht] at hg1
    clear ht
    generalize zs[i] = z at e1 HD hg1 HT
    cases t
    · repeat (first | apply ef_seq | (apply ef_mv; exact rfl; exact rfl) | (apply ef_bin; exact rfl; exact rfl; exact rfl; (exact cmp_t rfl (by first | exact rfl | (simp only [cmpP]; omega)))) | (apply ef_ldr; exact rfl; exact rfl; (exact rd_2 rfl rfl)) | (apply ef_ias; exact rfl; exact rfl; exact rfl; (omega); assumption; exact rfl) | apply ef_nil | apply seqQ.normal | apply ef_block | apply ef_skip | (apply ef_condt; exact rfl; (exact (rfl : true = true))))
      (apply ef_callv; exact rfl; exact rfl; ((repeat (apply XVs.cons; exact rfl)); exact XVs.nil); exact rfl; exact hg1 _)
      repeat (first | (apply ef_mv; exact rfl; exact rfl) | (apply ef_bin; exact rfl; exact rfl; exact rfl; (((with_reducible refine bin_add (wrap_of ?_ ?_)) <;> omega))) | apply ef_nil | apply seqQ.normal | apply blockQ.normal | apply ef_skip | (apply ef_condf; exact rfl; (exact (rfl : false = false))))
      (refine loopQ.normal _ _ ⟨i + 1, ⟨hlt, by rw [HZ.out, HD.out]; simp [fIxG, HT.out]⟩, (by first | (simp only; omega) | omega), by ((repeat (refine Hold.cons (by exact rfl) ?_)); exact Hold.nil), .inl (Nat.le_refl _), (by first | exact List.take_length | exact rfl)⟩)
    · repeat (first | apply ef_seq | (apply ef_mv; exact rfl; exact rfl) | (apply ef_bin; exact rfl; exact rfl; exact rfl; (exact cmp_t rfl (by first | exact rfl | (simp only [cmpP]; omega)))) | (apply ef_ldr; exact rfl; exact rfl; (exact rd_2 rfl rfl)) | (apply ef_ias; exact rfl; exact rfl; exact rfl; (omega); assumption; exact rfl) | apply ef_nil | apply seqQ.normal | apply ef_block | apply ef_skip | (apply ef_condt; exact rfl; (exact (rfl : true = true))))
      (apply ef_callv; exact rfl; exact rfl; ((repeat (apply XVs.cons; exact rfl)); exact XVs.nil); exact rfl; exact hg1 _)
      repeat (first | apply ef_seq | (apply ef_mv; exact rfl; exact rfl) | apply ef_nil | apply seqQ.normal | apply loopQ.ret | apply ef_ret | apply seqQ.ret | apply blockQ.ret | (apply ef_condt; exact rfl; (exact (rfl : true = true))))
      (refine fin1 rfl (by exact rfl) rfl ?_)
      rw [HZ.out, HD.out]; simp [fIxG, HT.out]
  · repeat (first | apply ef_seq | (apply ef_mv; exact rfl; exact rfl) | (apply ef_bin; exact rfl; exact rfl; exact rfl; (exact cmp_f rfl (by simp only [cmpP]; omega))) | apply ef_nil | apply seqQ.normal | apply loopQ.exit | apply ef_ret | apply ef_exit | apply seqQ.exit | apply blockQ.here | (apply ef_condf; exact rfl; (exact (rfl : false = false))))
    (refine fin1 rfl (by exact rfl) rfl ?_)
    rw [hz, List.drop_eq_nil_of_le (by omega)]; rfl
theorem IndexFuncS_c (k g : Nat) (caps : List MV) (P : (Int × Int) → Bool) (zs : List (Int × Int)) (h : MHeap) {v fv : MV} (hx : zs.length ≤ 1000) (hg : ∀ z ∈ zs, ∀ h, orA k g (encS2 z :: caps) h = some (Bo (P z), h)) (hv : frz 0 [] h 8 v = some (.sl (zs.map encS2))) (hf : frz 0 [] h 8 fv = some (.fn g 0 caps)) :
    orA (k + 1) 78 [v, fv] h = some (I64 (fIxG P zs 0), h) :=
  callL (args' := [.sl (zs.map encS2), .fn g 0 caps]) (by simp [List.mapM_cons, hv, hf]) rfl (IndexFuncS_z k g caps P zs hx hg)
theorem mf_ContainsFuncS : MT.mf 52 = some ⟨9, [(.tmp 4)], (.seq (.reg [⟨none, some 4, .mv (.c (.lit (.bool false)))⟩]) (.seq (.reg [⟨none, some 5, .mv (.s 0)⟩, ⟨none, some 6, .mv (.s 1)⟩, ⟨none, some 7, .call 78 [.s 5, .s 6]⟩, ⟨none, some 8, .bin .geq (.s 7) (.c (.lit (.int .i64 0)))⟩, ⟨none, some 4, .mv (.s 8)⟩]) .ret))⟩ := by kernel_rfl
theorem ContainsFuncS_c (k g : Nat) (caps : List MV) (P : (Int × Int) → Bool) (zs : List (Int × Int)) (h : MHeap) {v fv : MV} {t : Bool} (hx : zs.length ≤ 1000) (hg : ∀ z ∈ zs, ∀ h, orA k g (encS2 z :: caps) h = some (Bo (P z), h)) (hl : ltL 0 caps = true) (hv : frz 0 [] h 8 v = some (.sl (zs.map encS2))) (hf : frz 0 [] h 8 fv = some (.fn g 0 caps))
    (ht : zs.any P = t) : orA (k + 2) 52 [v, fv] h = some (Bo t, h) := by
  refine callL (args' := [.sl (zs.map encS2), .fn g 0 caps]) (by simp [List.mapM_cons, hv, hf]) rfl (runZ_of mf_ContainsFuncS (by simp) ?_)
  simp only [argsL]
  have hi := fun h => IndexFuncS_c k g caps P zs h (v := .sl (zs.map encS2)) (fv := .fn g 0 caps) hx hg (frz_sl (ltL_lits (fun _ => by simp [MV.lt, ltL]) zs)) (by simp [frz, MV.lt, hl])
  repeat (first | apply ef_seq | (apply ef_mv; exact rfl; exact rfl) | (apply ef_bin; exact rfl; exact rfl; exact rfl; (exact rfl)) | apply ef_nil | apply seqQ.normal | apply ef_ret | (apply ef_call; exact rfl; ((repeat (apply XVs.cons; exact rfl)); exact XVs.nil); (with_reducible exact hi _)))
  (refine fin1 rfl (by exact rfl) rfl ?_)
  rw [← ht]
  exact fIxG_any P zs
theorem mf_Lev1 : MT.mf 53 = some ⟨13, [(.tmp 2)], (.seq (.reg [⟨none, some 1, .box 2 (.s 0)⟩, ⟨none, some 2, .mv (.c (.lit (.bool false)))⟩]) (.seq (.reg [⟨none, some 3, .fa 0 (.s 1)⟩, ⟨none, some 4, .ld none (.s 3)⟩, ⟨none, some 5, .call 54 [.s 4]⟩, ⟨none, some 6, .un .not (.s 5)⟩, ⟨none, some 7, .mv (.s 6)⟩, ⟨some (7, false), some 8, .fa 1 (.s 1)⟩, ⟨some (7, false), some 9, .ld none (.s 8)⟩, ⟨some (7, false), some 10, .call 39 [.s 9, (.c (.lit (.int .i64 1000000)))]⟩, ⟨some (7, false), some 11, .un .not (.s 10)⟩, ⟨none, some 12, .pick (.s 7) (.c (.lit (.bool true))) (.s 11)⟩, ⟨none, some 2, .mv (.s 12)⟩]) .ret))⟩ := by kernel_rfl
def smpB (s : Int × Int) : Bool := !inB s.1 0 1000000 || !inB s.2 (-1000000) 1000000
theorem Lev1_c (k : Nat) (s : Int × Int) (h : MHeap) : orA (k + 3) 53 [encS2 s] h = some (Bo (smpB s), h) := by
  refine callL (args' := [encS2 s]) (frzL_lt rfl) rfl (runZ_of mf_Lev1 (by simp) ?_)
  simp only [argsL]
  have HS := Lib.hid (show smpB s = (!inB s.1 0 1000000 || !inB s.2 (-1000000) 1000000) from rfl)
  have e : inB s.2 (-1000000) 1000000 = inB s.2 (-(1000000 : Int)) 1000000 := rfl
  generalize q1 : inB s.1 0 1000000 = b1 at HS
  generalize q2 : inB s.2 (-1000000) 1000000 = b2 at HS
  have h1 := fun h => isPosition_c k s.1 h q1
  have h2 := fun h => isSized_c k s.2 1000000 h (by omega) (by omega) q2
  cases b1
  · repeat (first | apply ef_seq | (apply ef_mv; exact rfl; exact rfl) | (apply ef_gn; exact rfl; (exact (rfl : true = true)); exact rfl) | (apply ef_pick; exact rfl; exact rfl; exact rfl) | (apply ef_ldp; exact rfl; exact rfl; (exact rfl); exact rfl; (exact rfl); (exact rfl)) | (apply ef_fap; exact rfl; exact rfl) | (apply ef_notF; exact rfl; exact rfl) | (apply ef_box; exact rfl; exact rfl; exact rfl; exact rfl) | apply ef_nil | apply seqQ.normal | apply ef_ret | (apply ef_call; exact rfl; ((repeat (apply XVs.cons; exact rfl)); exact XVs.nil); (with_reducible exact h1 _)))
    (refine fin1 rfl (by exact rfl) rfl ?_)
    rw [HS.out]; rfl
  · repeat (first | apply ef_seq | (apply ef_mv; exact rfl; exact rfl) | (apply ef_gy; exact rfl; (exact (rfl : false = false))) | (apply ef_pick; exact rfl; exact rfl; exact rfl) | (apply ef_ldp; exact rfl; exact rfl; (exact rfl); exact rfl; (exact rfl); (exact rfl)) | (apply ef_fap; exact rfl; exact rfl) | (apply ef_notT; exact rfl; exact rfl) | (apply ef_not; exact rfl; exact rfl; exact rfl) | (apply ef_box; exact rfl; exact rfl; exact rfl; exact rfl) | apply ef_nil | apply seqQ.normal | apply ef_ret | (apply ef_call; exact rfl; ((repeat (apply XVs.cons; exact rfl)); exact XVs.nil); (with_reducible first | exact h1 _ | exact h2 _)))
    (refine fin1 rfl (by exact rfl) rfl ?_)
    rw [HS.out]; cases b2 <;> rfl
theorem first4_c {k id : Nat} {a0 a1 a2 a3 e : Int} {h : MHeap} {o : MObj} (ho : h[id]? = some o) (hg : o.g = 0) (hes : o.es = [I64 a0, I64 a1, I64 a2, I64 a3]) (he : firstE [a0, a1, a2, a3] = e) : orA (k + 1) 40 [.arr id 0 4 0] h = some (I64 e, h) :=
  first_c k [a0, a1, a2, a3] h (fz_arr ho hg rfl rfl hes).now he
def levE (n : Nt) (c : List Int) (line : Int) (ss : List (Int × Int)) : Int := firstE [bothE n c, unl (inB line 0 ((n.ls.length : Int) - 1)) 6, unl (decide (ss.length ≤ 40)) 8, unl (!(ss.any smpB)) 2]
abbrev encT2 (line : Int) (ss : List (Int × Int)) : MV := .agg [I64 line, .sl (ss.map encS2)]
theorem ltL_S2 (n : Nat) (xs : List (Int × Int)) : ltL n (xs.map encS2) = true := ltL_lits (fun _ => rfl) xs
theorem encS2_R : encS2 = encR := by funext p; obtain ⟨a, b⟩ := p; rfl
end Go.Proofs.Ytbdleggmdbihnaa

/- Levelled: the walk. -/
namespace Go.Proofs.Ytbdleggmdbihnaa
open Go.RowKit
set_option linter.unusedVariables false
set_option linter.unusedSimpArgs false
theorem mf_Levelled : MT.mf 25 = some ⟨131, [(.tmp 6), (.tmp 7)], (.seq (.reg [⟨none, some 3, .box 2 (.s 0)⟩, ⟨none, some 5, .box 2 (.s 2)⟩, ⟨none, some 6, .nil0 2⟩, ⟨none, some 7, .mv (.c (.lit (.int .i64 0)))⟩]) (.seq (.reg [⟨none, some 21, .ld (some 2) (.s 3)⟩, ⟨none, some 22, .mv (.s 1)⟩, ⟨none, some 23, .call 51 [.s 21, .s 22]⟩, ⟨none, some 20, .mv (.s 23)⟩, ⟨none, some 24, .ext (.s 20) 0⟩, ⟨none, some 25, .ext (.s 20) 1⟩, ⟨none, some 8, .new (.agg [(.lit (.slice none 0 0)), (.lit (.slice none 0 0))])⟩, ⟨none, none, .st 2 (.s 8) (.s 24)⟩, ⟨none, some 9, .mv (.s 25)⟩]) (.seq (.reg [⟨none, some 26, .fa 1 (.s 5)⟩, ⟨none, some 27, .ld none (.s 26)⟩, ⟨none, some 28, .call 52 [.s 27, (.c (.fn 53 0 []))]⟩, ⟨none, some 10, .mv (.s 28)⟩]) (.seq (.reg [⟨none, some 29, .mv (.s 9)⟩, ⟨none, some 30, .fa 0 (.s 5)⟩, ⟨none, some 31, .ld none (.s 30)⟩, ⟨none, some 32, .fa 0 (.s 3)⟩, ⟨none, some 33, .ld none (.s 32)⟩, ⟨none, some 34, .len (.s 33)⟩, ⟨none, some 35, .bin .sub (.s 34) (.c (.lit (.int .i64 1)))⟩, ⟨none, some 36, .call 50 [.s 31, (.c (.lit (.int .i64 0))), .s 35]⟩, ⟨none, some 37, .call 41 [.s 36, (.c (.lit (.int .i64 6)))]⟩, ⟨none, some 38, .fa 1 (.s 5)⟩, ⟨none, some 39, .ld none (.s 38)⟩, ⟨none, some 40, .len (.s 39)⟩, ⟨none, some 41, .bin .leq (.s 40) (.c (.lit (.int .i64 40)))⟩, ⟨none, some 42, .call 41 [.s 41, (.c (.lit (.int .i64 8)))]⟩, ⟨none, some 43, .mv (.s 10)⟩, ⟨none, some 44, .un .not (.s 43)⟩, ⟨none, some 45, .call 41 [.s 44, (.c (.lit (.int .i64 2)))]⟩, ⟨none, some 46, .bsl (.lit (.int .i64 0)) 1 4 [(0, (.s 29)), (1, (.s 37)), (2, (.s 42)), (3, (.s 45))]⟩, ⟨none, some 47, .call 40 [.s 46]⟩, ⟨none, some 9, .mv (.s 47)⟩]) (.seq (.seq (.reg [⟨none, some 48, .mv (.s 9)⟩, ⟨none, some 49, .bin .neq (.s 48) (.c (.lit (.int .i64 0)))⟩]) (.cond (.s 49) (.seq (.reg [⟨none, some 50, .mv (.s 9)⟩, ⟨none, some 6, .nil0 2⟩, ⟨none, some 7, .mv (.s 50)⟩]) .ret) .skip)) (.seq (.reg [⟨none, some 11, .nil0 2⟩]) (.seq (.reg [⟨none, some 51, .ld (some 2) (.s 8)⟩, ⟨none, some 52, .mv (.s 1)⟩, ⟨none, some 53, .call 55 [.s 51, .s 52]⟩, ⟨none, some 12, .mv (.s 53)⟩]) (.seq (.seq (.reg [⟨none, some 54, .fa 1 (.s 3)⟩, ⟨none, some 55, .ld none (.s 54)⟩, ⟨none, some 56, .len (.s 55)⟩, ⟨none, some 57, .mv (.c (.lit (.int .i64 0)))⟩]) (.block 0 (.loop [57, 56, 55, 5, 11, 12, 1] (.seq (.reg [⟨none, some 58, .bin .lss (.s 57) (.s 56)⟩]) (.seq (.cond (.s 58) .skip (.exit 0)) (.seq (.block 1 (.seq (.reg [⟨none, some 59, .mv (.s 57)⟩, ⟨none, some 60, .ia 6 (.s 55) (.s 57)⟩, ⟨none, some 61, .ld (some 6) (.s 60)⟩, ⟨none, some 14, .new (.agg [(.lit (.int .i64 0)), (.lit (.int .i64 0)), (.lit (.int .i64 0)), (.lit (.int .i64 0)), (.lit (.int .i64 0)), (.lit (.int .i64 0))])⟩, ⟨none, some 13, .mv (.s 59)⟩, ⟨none, none, .st 6 (.s 14) (.s 61)⟩]) (.seq (.reg [⟨none, some 62, .fa 0 (.s 5)⟩, ⟨none, some 63, .ld none (.s 62)⟩]) (.block 2 (.seq (.reg [⟨none, some 65, .fa 0 (.s 14)⟩, ⟨none, some 66, .ld none (.s 65)⟩, ⟨none, some 67, .bin .eql (.s 63) (.s 66)⟩, ⟨none, some 64, .mv (.s 67)⟩]) (.cond (.s 64) (.reg [⟨none, some 68, .mv (.s 11)⟩, ⟨none, some 69, .fa 2 (.s 14)⟩, ⟨none, some 70, .ld none (.s 69)⟩, ⟨none, some 71, .mv (.s 12)⟩, ⟨none, some 72, .mv (.s 13)⟩, ⟨none, some 73, .ia 1 (.s 71) (.s 72)⟩, ⟨none, some 74, .ld none (.s 73)⟩, ⟨none, some 75, .un .neg (.s 74)⟩, ⟨none, some 76, .build [(.lit (.int .i64 0)), (.lit (.int .i64 0))] [(0, (1, (.s 70))), (1, (1, (.s 75)))]⟩, ⟨none, some 77, .bsl (.agg [(.lit (.int .i64 0)), (.lit (.int .i64 0))]) 2 1 [(0, (.s 76))]⟩, ⟨none, some 78, .app 2 (.s 68) (.s 77)⟩, ⟨none, some 11, .mv (.s 78)⟩]) (.seq (.reg [⟨none, some 80, .fa 1 (.s 14)⟩, ⟨none, some 81, .ld none (.s 80)⟩, ⟨none, some 82, .bin .eql (.s 63) (.s 81)⟩, ⟨none, some 79, .mv (.s 82)⟩]) (.cond (.s 79) (.reg [⟨none, some 83, .mv (.s 11)⟩, ⟨none, some 84, .fa 3 (.s 14)⟩, ⟨none, some 85, .ld none (.s 84)⟩, ⟨none, some 86, .mv (.s 12)⟩, ⟨none, some 87, .mv (.s 13)⟩, ⟨none, some 88, .ia 1 (.s 86) (.s 87)⟩, ⟨none, some 89, .ld none (.s 88)⟩, ⟨none, some 90, .build [(.lit (.int .i64 0)), (.lit (.int .i64 0))] [(0, (1, (.s 85))), (1, (1, (.s 89)))]⟩, ⟨none, some 91, .bsl (.agg [(.lit (.int .i64 0)), (.lit (.int .i64 0))]) 2 1 [(0, (.s 90))]⟩, ⟨none, some 92, .app 2 (.s 83) (.s 91)⟩, ⟨none, some 11, .mv (.s 92)⟩]) .skip)))))))) (.reg [⟨none, some 93, .bin .add (.s 57) (.c (.lit (.int .i64 1)))⟩, ⟨none, some 57, .mv (.s 93)⟩]))))))) (.seq (.reg [⟨none, some 94, .mv (.s 11)⟩, ⟨none, some 95, .srt 56 57 (.s 94)⟩]) (.seq (.reg [⟨none, some 15, .nil0 2⟩]) (.seq (.seq (.reg [⟨none, some 96, .fa 1 (.s 5)⟩, ⟨none, some 97, .ld none (.s 96)⟩, ⟨none, some 98, .len (.s 97)⟩, ⟨none, some 99, .mv (.c (.lit (.int .i64 0)))⟩]) (.block 3 (.loop [99, 98, 97, 11, 15, 1, 5] (.seq (.reg [⟨none, some 100, .bin .lss (.s 99) (.s 98)⟩]) (.seq (.cond (.s 100) .skip (.exit 3)) (.seq (.block 4 (.seq (.reg [⟨none, some 101, .ia 2 (.s 97) (.s 99)⟩, ⟨none, some 102, .ld (some 2) (.s 101)⟩, ⟨none, some 17, .new (.agg [(.lit (.int .i64 0)), (.lit (.int .i64 0))])⟩, ⟨none, none, .st 2 (.s 17) (.s 102)⟩]) (.seq (.reg [⟨none, some 104, .mv (.s 11)⟩, ⟨none, some 105, .fa 0 (.s 17)⟩, ⟨none, some 106, .ld none (.s 105)⟩, ⟨none, some 107, .call 59 [.s 104, .s 106]⟩, ⟨none, some 103, .mv (.s 107)⟩, ⟨none, some 108, .ext (.s 103) 0⟩, ⟨none, some 109, .ext (.s 103) 1⟩, ⟨none, some 18, .mv (.s 108)⟩, ⟨none, some 19, .mv (.s 109)⟩]) (.reg [⟨none, some 110, .mv (.s 15)⟩, ⟨none, some 111, .mv (.s 19)⟩, ⟨none, some 112, .bin .mul (.c (.lit (.int .i64 2))) (.s 111)⟩, ⟨none, some 113, .fa 1 (.s 17)⟩, ⟨none, some 114, .ld none (.s 113)⟩, ⟨none, some 115, .mv (.s 1)⟩, ⟨none, some 116, .fa 0 (.s 5)⟩, ⟨none, some 117, .ld none (.s 116)⟩, ⟨none, some 118, .ia 1 (.s 115) (.s 117)⟩, ⟨none, some 119, .ld none (.s 118)⟩, ⟨none, some 120, .bin .sub (.s 114) (.s 119)⟩, ⟨none, some 121, .bin .mul (.s 112) (.s 120)⟩, ⟨none, some 122, .mv (.s 18)⟩, ⟨none, some 123, .bin .add (.s 121) (.s 122)⟩, ⟨none, some 124, .mv (.s 19)⟩, ⟨none, some 125, .bin .mul (.c (.lit (.int .i64 2))) (.s 124)⟩, ⟨none, some 126, .call 60 [.s 123, .s 125]⟩, ⟨none, some 127, .bsl (.agg [(.lit (.int .i64 0)), (.lit (.int .i64 0))]) 2 1 [(0, (.s 126))]⟩, ⟨none, some 128, .app 2 (.s 110) (.s 127)⟩, ⟨none, some 15, .mv (.s 128)⟩])))) (.reg [⟨none, some 129, .bin .add (.s 99) (.c (.lit (.int .i64 1)))⟩, ⟨none, some 99, .mv (.s 129)⟩]))))))) (.seq (.reg [⟨none, some 130, .mv (.s 15)⟩, ⟨none, some 6, .mv (.s 130)⟩, ⟨none, some 7, .mv (.c (.lit (.int .i64 0)))⟩]) .ret))))))))))))⟩ := by kernel_rfl
abbrev lvH1 (n : Nt) (c : List Int) (line : Int) (ss : List (Int × Int)) (m : Nat) (rs : List MV) : MHeap := [⟨0, false, 2, [encN n]⟩, ⟨0, false, 2, [encT2 line ss]⟩, ⟨0, true, 2, []⟩, ⟨0, false, 2, [encN n]⟩, ⟨0, false, 1, [I64 0, I64 0, I64 0, I64 0]⟩, ⟨m, decide (m = 0), 2, rs⟩, ⟨0, decide (n.cs.length = 0), 1, (resL n c).map I64⟩]
abbrev lvS (n : Nt) (c : List Int) (line : Int) (ss : List (Int × Int)) (j : Nat) : List MV := (ss.take j).map (fun s => encS2 (lvP n c line s))
abbrev lvH2 (n : Nt) (c : List Int) (line : Int) (ss : List (Int × Int)) (m : Nat) (ks : List MV) (j : Nat) (rs : List MV) : MHeap := [⟨0, false, 2, [encN n]⟩, ⟨0, false, 2, [encT2 line ss]⟩, ⟨0, true, 2, []⟩, ⟨0, false, 2, [encN n]⟩, ⟨0, false, 1, [I64 0, I64 0, I64 0, I64 0]⟩, ⟨m, decide (m = 0), 2, ks⟩, ⟨0, decide (n.cs.length = 0), 1, (resL n c).map I64⟩, ⟨j, decide (j = 0), 2, rs⟩]
theorem lvS_next {n : Nt} {c : List Int} {line : Int} {ss : List (Int × Int)} {j : Nat} {s : Int × Int} (h : ss[j]? = some s) : lvS n c line ss (j + 1) = lvS n c line ss j ++ [encS2 (lvP n c line s)] := by
  unfold lvS; rw [List.take_add_one, h]; simp
theorem ltL_lvS (n : Nt) (c : List Int) (line : Int) (ss : List (Int × Int)) (j k : Nat) : ltL k (lvS n c line ss j) = true := ltL_lits (fun _ => rfl) _
theorem resL_at (n : Nt) (c : List Int) {i : Nat} (hi : i < n.cs.length) : ((resL n c).map I64)[0 + ((i : Nat) : Int).toNat]? = some (I64 (resI c n.cs[i])) := by
  simp [resL, hi]
set_option maxHeartbeats 2000000 in
theorem Levelled_z (k : Nat) (n : Nt) (hb : BdN n) (c : List Int) (hc : c.length ≤ 1000) (line : Int) (ss : List (Int × Int)) (hs : ss.length ≤ 1000) (he : levE n c line ss = 0) :
    runZ MT (orA (k + 7)) (itA (k + 7)) 4000000 25 [encN n, .sl (c.map I64), encT2 line ss] [] = some (.tup [.arr 0 0 ss.length 0, I64 0], [⟨0, decide (ss.length = 0), 2, ss.map (fun s => encS2 (lvP n c line s))⟩]) := by
  have he' := he
  unfold levE at he'
  rw [firstE_zero, firstE_zero, firstE_zero, firstE_zero, unl_eq (by decide), unl_eq (by decide), unl_eq (by decide)] at he'
  obtain ⟨e1, e2, e3, e4, -⟩ := he'
  obtain ⟨ok, okc, -⟩ := both_ok e1
  have e4' : ss.any smpB = false := by simpa using e4
  have hl := inB_iff.1 e2
  have hsl : ss.length ≤ 40 := of_decide_eq_true e3
  have hs1 : (MV.sl (ss.map encS2)).slen = some ss.length := by simp [MV.slen]
  have hs2 : (MV.sl (n.cs.map encCr)).slen = some n.cs.length := by simp [MV.slen]
  have hs3 : (MV.sl (n.ls.map encLn)).slen = some n.ls.length := by simp [MV.slen]
  have l1 := ok.l1
  have l8 := ok.l8
  have c16 := ok.c16
  have c1 := fun h => openCorr_c k n hb c hc h
  have c2 := fun h => ContainsFuncS_c (k + 5) 53 [] smpB ss h (v := .sl (ss.map encS2)) (fv := .fn 53 0 []) (by omega) (fun z _ h => Lev1_c (k + 2) z h) rfl (frz_sl (ltL_S2 0 _)) (by simp [frz, MV.lt, ltL]) e4'
  have c3 := fun h => within_c (k + 6) line 0 ((n.ls.length : Int) - 1) h e2
  have c4 := fun e h => unless_c (k + 6) true e h (e := 0) rfl
  have c5 := fun h => residuals_c (k + 6) n c (by omega) ok.rg okc (by omega) h
  rw [e1] at c1
  refine runZ_of mf_Levelled (by simp) ?_
  simp only [argsL]
  repeat (first | apply ef_seq | (apply ef_mv; exact rfl; exact rfl) | (apply ef_bin; exact rfl; exact rfl; exact rfl; (first | exact cmp_t rfl (by first | exact rfl | (simp only [cmpP]; omega)) | ((with_reducible refine bin_sub (wrap_of ?_ ?_)) <;> omega) | exact rfl)) | (apply ef_len; exact rfl; exact rfl; (assumption)) | (apply ef_ldp; exact rfl; exact rfl; (exact rfl); exact rfl; (exact rfl); (first | exact rd_2 rfl rfl | exact rfl)) | (apply ef_fap; exact rfl; exact rfl) | (apply ef_notF; exact rfl; exact rfl) | (apply ef_ext; exact rfl; exact rfl; exact rfl) | (apply ef_box; exact rfl; exact rfl; exact rfl; exact rfl) | (apply ef_new; exact rfl) | (apply ef_nil0; exact rfl) | (apply ef_bsl; exact rfl; (repeat (apply XVs.cons; exact rfl)); exact XVs.nil; exact rfl) | (apply ef_st; exact rfl; exact rfl; exact rfl; exact rfl; exact rfl; exact rfl; (exact rfl); exact rfl) | apply ef_nil | apply seqQ.normal | apply ef_block | apply ef_skip | (apply ef_condf; exact rfl; (exact (rfl : false = false))) | (apply ef_call; exact rfl; ((repeat (apply XVs.cons; exact rfl)); exact XVs.nil); (with_reducible first | exact c1 _ | exact c2 _ | exact c3 _ | exact c4 _ _ | exact c5 _)) | (apply ef_call; exact rfl; ((repeat (apply XVs.cons; exact rfl)); exact XVs.nil); (with_reducible apply first4_c); exact rfl; exact rfl; exact rfl; exact rfl))
  refine ef_loopf (α := Nat × Nat × List MV) (fun p => p.1 ≤ n.cs.length ∧ p.2.1 = (knU n c line p.1).length ∧ p.2.2 = (knU n c line p.1).map encS2) (fun p => [(57, I64 (p.1 : Int)), (11, .arr 5 0 p.2.1 p.2.1)]) [(56, I64 (n.cs.length : Int)), (55, .sl (n.cs.map encCr)), (5, .ptr 1 0 0 0), (12, .arr 6 0 n.cs.length 0), (1, .sl (c.map I64))] (fun p => lvH1 n c line ss p.2.1 p.2.2) (fun p => n.cs.length - p.1) (0, 0, []) [57, 11] (fun _ => rfl) (by ((repeat (refine Hold.cons (by exact rfl) ?_)); exact Hold.nil)) (by ((repeat (refine Hold.cons (by exact rfl) ?_)); exact Hold.nil)) rfl rfl ⟨by omega, rfl, rfl⟩ (by simp; omega) ?_
  rintro ⟨i, m, rs⟩ ⟨hi, hm, hrs⟩
  try simp only at hi hm hrs ⊢
  have kl := knU_len n c line i
  have hrl : rs.length = m := by rw [hrs, hm]; simp
  have hlr : ∀ j, ltL j rs = true := fun j => by rw [hrs]; exact ltL_S2 j _
  by_cases hlt : i < n.cs.length
  · have f1 := at_map encCr n.cs i hlt
    have f2 := resL_at n c hlt
    have hxx := ok.rg n.cs[i] (List.getElem_mem hlt)
    have hrb := resI_bd okc hxx
    have hat : n.cs[i]? = some n.cs[i] := List.getElem?_eq_getElem hlt
    generalize n.cs[i] = x at f1 f2 hxx hrb hat
    have HF := Lib.hid (show lvF c line x = if line = x.ln then some (x.pa, 0 - resI c x) else if line = x.ti then some (x.pt, resI c x) else none from rfl)
    generalize resI c x = r at *
    have x1 := hxx.l0
    have x2 := hxx.t0
    by_cases q1 : line = x.ln
    · have HK := Lib.hid (knU_some hat (HF.out.trans (by rw [if_pos q1])))
      repeat (first | apply ef_seq | (apply ef_mv; exact rfl; exact rfl) | (apply ef_bin; exact rfl; exact rfl; exact rfl; (exact cmp_t rfl (by first | exact rfl | (simp only [cmpP]; omega)))) | (apply ef_ldr; exact rfl; exact rfl; (exact rd_6 rfl rfl rfl rfl rfl rfl)) | (apply ef_ldp; exact rfl; exact rfl; (exact rfl); exact rfl; (first | exact rfl | assumption); (exact rfl)) | (apply ef_ias; exact rfl; exact rfl; exact rfl; (omega); assumption; exact rfl) | (apply ef_iaa; exact rfl; exact rfl; exact rfl; (omega); (omega); (exact rfl)) | (apply ef_fap; exact rfl; exact rfl) | (apply ef_neg; exact rfl; exact rfl; exact wrap_of (by omega) (by omega)) | (apply ef_new; exact rfl) | (apply ef_build; exact rfl; (repeat (apply XVs.cons; exact rfl)); exact XVs.nil; exact rfl; exact rfl) | (apply ef_bsl; exact rfl; (repeat (apply XVs.cons; exact rfl)); exact XVs.nil; exact rfl) | (apply ef_st; exact rfl; exact rfl; exact rfl; exact rfl; exact rfl; exact rfl; (exact rfl); exact rfl) | apply ef_nil | apply seqQ.normal | apply ef_block | apply ef_skip | (apply ef_condt; exact rfl; (exact (rfl : true = true))))
      (apply ef_app; (· exact rfl); (· exact rfl); (· exact rfl); (· exact rfl); (· exact rfl); (· exact rfl); (· (simp [hrl])); (· exact rfl); (· (simp [hrl]; omega)); (· (exact rfl)); (· exact rfl))
      repeat (first | (apply ef_mv; exact rfl; exact rfl) | (apply ef_bin; exact rfl; exact rfl; exact rfl; (((with_reducible refine bin_add (wrap_of ?_ ?_)) <;> omega))) | apply ef_nil | apply seqQ.normal | apply blockQ.normal)
      (refine loopQ.normal _ _ ⟨(i + 1, m + 1, rs ++ [encS2 (x.pa, 0 - r)]), ⟨hlt, by rw [HK.out, hm]; simp, by rw [HK.out, hrs]; simp⟩, (by first | (simp only; omega) | omega), ⟨by ((repeat (refine Hold.cons (by exact rfl) ?_)); exact Hold.nil), by ((repeat (refine Hold.cons (by exact rfl) ?_)); exact Hold.nil)⟩, .inr ⟨by ((repeat (refine hdl_cons rfl (by first | rfl | (simp [MV.lt, ltL, ltL_Ln, ltL_Cr, ltL_I, hlr, ltL_app2, ltL_S2, splice, MV.cells])) ?_)); exact hdl_nil), by (simp [hltL, ltL, MV.lt, ltL, ltL_Ln, ltL_Cr, ltL_I, hlr, ltL_app2, ltL_S2, splice, MV.cells])⟩, by exact rfl⟩)
    · by_cases q2 : line = x.ti
      · have HK := Lib.hid (knU_some hat (HF.out.trans (by rw [if_neg q1, if_pos q2])))
        repeat (first | apply ef_seq | (apply ef_mv; exact rfl; exact rfl) | (apply ef_bin; exact rfl; exact rfl; exact rfl; (first | exact cmp_t rfl (by first | exact rfl | (simp only [cmpP]; omega)) | exact cmp_f rfl (by simp only [cmpP]; omega))) | (apply ef_ldr; exact rfl; exact rfl; (exact rd_6 rfl rfl rfl rfl rfl rfl)) | (apply ef_ldp; exact rfl; exact rfl; (exact rfl); exact rfl; (first | exact rfl | assumption); (exact rfl)) | (apply ef_ias; exact rfl; exact rfl; exact rfl; (omega); assumption; exact rfl) | (apply ef_iaa; exact rfl; exact rfl; exact rfl; (omega); (omega); (exact rfl)) | (apply ef_fap; exact rfl; exact rfl) | (apply ef_new; exact rfl) | (apply ef_build; exact rfl; (repeat (apply XVs.cons; exact rfl)); exact XVs.nil; exact rfl; exact rfl) | (apply ef_bsl; exact rfl; (repeat (apply XVs.cons; exact rfl)); exact XVs.nil; exact rfl) | (apply ef_st; exact rfl; exact rfl; exact rfl; exact rfl; exact rfl; exact rfl; (exact rfl); exact rfl) | apply ef_nil | apply seqQ.normal | apply ef_block | apply ef_skip | (apply ef_condt; exact rfl; (exact (rfl : true = true))) | (apply ef_condf; exact rfl; (exact (rfl : false = false))))
        (apply ef_app; (· exact rfl); (· exact rfl); (· exact rfl); (· exact rfl); (· exact rfl); (· exact rfl); (· (simp [hrl])); (· exact rfl); (· (simp [hrl]; omega)); (· (exact rfl)); (· exact rfl))
        repeat (first | (apply ef_mv; exact rfl; exact rfl) | (apply ef_bin; exact rfl; exact rfl; exact rfl; (((with_reducible refine bin_add (wrap_of ?_ ?_)) <;> omega))) | apply ef_nil | apply seqQ.normal | apply blockQ.normal)
        (refine loopQ.normal _ _ ⟨(i + 1, m + 1, rs ++ [encS2 (x.pt, r)]), ⟨hlt, by rw [HK.out, hm]; simp, by rw [HK.out, hrs]; simp⟩, (by first | (simp only; omega) | omega), ⟨by ((repeat (refine Hold.cons (by exact rfl) ?_)); exact Hold.nil), by ((repeat (refine Hold.cons (by exact rfl) ?_)); exact Hold.nil)⟩, .inr ⟨by ((repeat (refine hdl_cons rfl (by first | rfl | (simp [MV.lt, ltL, ltL_Ln, ltL_Cr, ltL_I, hlr, ltL_app2, ltL_S2, splice, MV.cells])) ?_)); exact hdl_nil), by (simp [hltL, ltL, MV.lt, ltL, ltL_Ln, ltL_Cr, ltL_I, hlr, ltL_app2, ltL_S2, splice, MV.cells])⟩, by exact rfl⟩)
      · have HK := Lib.hid (knU_none hat (HF.out.trans (by rw [if_neg q1, if_neg q2])))
        repeat (first | apply ef_seq | (apply ef_mv; exact rfl; exact rfl) | (apply ef_bin; exact rfl; exact rfl; exact rfl; (first | exact cmp_t rfl (by first | exact rfl | (simp only [cmpP]; omega)) | exact cmp_f rfl (by simp only [cmpP]; omega) | ((with_reducible refine bin_add (wrap_of ?_ ?_)) <;> omega))) | (apply ef_ldr; exact rfl; exact rfl; (exact rd_6 rfl rfl rfl rfl rfl rfl)) | (apply ef_ldp; exact rfl; exact rfl; (exact rfl); exact rfl; (exact rfl); (exact rfl)) | (apply ef_ias; exact rfl; exact rfl; exact rfl; (omega); assumption; exact rfl) | (apply ef_fap; exact rfl; exact rfl) | (apply ef_new; exact rfl) | (apply ef_st; exact rfl; exact rfl; exact rfl; exact rfl; exact rfl; exact rfl; (exact rfl); exact rfl) | apply ef_nil | apply seqQ.normal | apply blockQ.normal | apply ef_block | apply ef_skip | (apply ef_condt; exact rfl; (exact (rfl : true = true))) | (apply ef_condf; exact rfl; (exact (rfl : false = false))))
        (refine loopQ.normal _ _ ⟨(i + 1, m, rs), ⟨hlt, by rw [HK.out, hm], by rw [HK.out, hrs]⟩, (by first | (simp only; omega) | omega), ⟨by ((repeat (refine Hold.cons (by exact rfl) ?_)); exact Hold.nil), by ((repeat (refine Hold.cons (by exact rfl) ?_)); exact Hold.nil)⟩, .inr ⟨by ((repeat (refine hdl_cons rfl (by first | rfl | (simp [MV.lt, ltL, ltL_Ln, ltL_Cr, ltL_I, hlr, ltL_app2, ltL_S2, splice, MV.cells])) ?_)); exact hdl_nil), by (simp [hltL, ltL, MV.lt, ltL, ltL_Ln, ltL_Cr, ltL_I, hlr, ltL_app2, ltL_S2, splice, MV.cells])⟩, by exact rfl⟩)
  · obtain rfl : i = n.cs.length := by omega
    rw [knU_all] at hm hrs
    have hks : (knS n c line).length = m := by rw [hm]; exact sortP_len _
    have hsr := srt_pairs (knots_dis ok c line) (fun p hp => by have := knots_bd ok okc line p hp; omega)
    have hz := Lib.hid (show srtM 0 ((rs.drop 0).take m) = some ((knS n c line).map encS2) by rw [List.drop_zero, List.take_of_length_le (by omega), hrs, encS2_R]; exact hsr)
    repeat (first | apply ef_seq | (apply ef_mv; exact rfl; exact rfl) | (apply ef_bin; exact rfl; exact rfl; exact rfl; (exact cmp_f rfl (by simp only [cmpP]; omega))) | apply ef_nil | apply seqQ.normal | apply loopQ.exit | apply ef_exit | apply seqQ.exit | apply blockQ.here | (apply ef_condf; exact rfl; (exact (rfl : false = false))))
    refine ef_srt (ht := by exact rfl) (by exact rfl) (by exact rfl) (by exact rfl) (by simp [hrl]) (by rw [hm]; have := knS_len n c line; omega) (by exact rfl) (by exact rfl) (by exact hz.out) ?_
    repeat (first | apply ef_seq | (apply ef_mv; exact rfl; exact rfl) | (apply ef_len; exact rfl; exact rfl; (assumption)) | (apply ef_ldp; exact rfl; exact rfl; (exact rfl); exact rfl; (exact rfl); (exact rfl)) | (apply ef_fap; exact rfl; exact rfl) | (apply ef_nil0; exact rfl) | apply ef_nil | apply seqQ.normal | apply ef_block)
    have hK : List.take 0 rs ++ List.map encS2 (knS n c line) ++ List.drop (0 + m) rs = List.map encS2 (knS n c line) := by simp [← hrl]
    have ksr := knS_srt ok c line
    have kbd := knS_bd ok okc line
    have hltk : ∀ j, ltL j (List.map encS2 (knS n c line)) = true := fun j => ltL_S2 j _
    refine ef_loopf (α := Nat × List MV) (fun p => p.1 ≤ ss.length ∧ p.2 = lvS n c line ss p.1) (fun p => [(99, I64 (p.1 : Int)), (15, .arr 7 0 p.1 p.1)]) [(98, I64 (ss.length : Int)), (97, .sl (ss.map encS2)), (11, .arr 5 0 m m), (1, .sl (c.map I64)), (5, .ptr 1 0 0 0)] (fun p => lvH2 n c line ss m (List.take 0 rs ++ List.map encS2 (knS n c line) ++ List.drop (0 + m) rs) p.1 p.2) (fun p => ss.length - p.1) (0, []) [99, 15] (fun _ => rfl) (by ((repeat (refine Hold.cons (by exact rfl) ?_)); exact Hold.nil)) (by ((repeat (refine Hold.cons (by exact rfl) ?_)); exact Hold.nil)) rfl rfl ⟨by omega, rfl⟩ (by simp; omega) ?_
    rintro ⟨j, us⟩ ⟨hj, hus⟩
    try simp only at hj hus ⊢
    rw [hK]
    have hul : us.length = j := by rw [hus]; simp; omega
    have hltu : ∀ k, ltL k us = true := fun k => by rw [hus]; exact ltL_lvS _ _ _ _ _ _
    by_cases hlt2 : j < ss.length
    · have f1 := at_map encS2 ss j hlt2
      have hat : ss[j]? = some ss[j] := List.getElem?_eq_getElem hlt2
      have hsm : smpB ss[j] = false := by
        rw [List.any_eq_false] at e4'
        simpa using e4' ss[j] (List.getElem_mem hlt2)
      have HT := lvS_next (n := n) (c := c) (line := line) hat
      generalize ss[j] = s at f1 hat hsm HT
      obtain ⟨a, v⟩ := s
      simp only [smpB, Bool.or_eq_false_iff, Bool.not_eq_false'] at hsm
      have sa := inB_iff.1 hsm.1
      have sv := inB_iff.1 hsm.2
      obtain ⟨⟨p1, p2⟩, p3, p4⟩ := piece_bd ksr sa kbd
      have cl := okc.at line
      have f2 := cAt_at okc.len hl.1 (by omega)
      unfold lvP at HT
      simp only at HT
      have d1 := fun h v hv => piece_c (k + 2) (knS n c line) a ksr (by have := knS_len n c line; omega) sa kbd h (v := v) hv
      generalize knS n c line = ks at *
      generalize pieceP ks a = pp at *
      generalize cAt c line = u at *
      obtain ⟨nu, de⟩ := pp
      simp only at p1 p2 p3 p4 d1 HT
      have d2 := fun h => rounded_c (k + 6) (2 * de * (v - u) + nu) (2 * de) (by omega) (by omega) (by have := mul_bd (a := 2 * de) (b := v - u) (A := 2000000) (B := 2000000) (by omega) (by omega) (by omega) (by omega); omega) (by have := mul_bd (a := 2 * de) (b := v - u) (A := 2000000) (B := 2000000) (by omega) (by omega) (by omega) (by omega); omega) h
      generalize rndP (2 * de * (v - u) + nu) (2 * de) = qq at *
      obtain ⟨q1, q2⟩ := qq
      have m1 := mul_w (a := 2 * de) (b := v - u) 2000000 2000000 (by omega) (by omega) (by omega) (by omega) (by omega)
      have m2 := mul_bd (a := 2 * de) (b := v - u) (A := 2000000) (B := 2000000) (by omega) (by omega) (by omega) (by omega)
      repeat (first | apply ef_seq | (apply ef_mv; exact rfl; exact rfl) | (apply ef_bin; exact rfl; exact rfl; exact rfl; (exact cmp_t rfl (by first | exact rfl | (simp only [cmpP]; omega)))) | (apply ef_ldr; exact rfl; exact rfl; (exact rd_2 rfl rfl)) | (apply ef_ldp; exact rfl; exact rfl; (exact rfl); exact rfl; (exact rfl); (exact rfl)) | (apply ef_ias; exact rfl; exact rfl; exact rfl; (omega); assumption; exact rfl) | (apply ef_fap; exact rfl; exact rfl) | (apply ef_new; exact rfl) | (apply ef_st; exact rfl; exact rfl; exact rfl; exact rfl; exact rfl; exact rfl; (exact rfl); exact rfl) | apply ef_nil | apply seqQ.normal | apply ef_block | apply ef_skip | (apply ef_condt; exact rfl; (exact (rfl : true = true))))
      (apply ef_call; (· exact rfl); (· ((repeat (apply XVs.cons; exact rfl)); exact XVs.nil)); · exact d1 _ _ (by rw [← encS2_R]; exact frz_row (o := ⟨m, decide (m = 0), 2, ks.map encS2⟩) rfl rfl (by simp [← hks]) (hltk 0) rfl))
      repeat (first | (apply ef_mv; exact rfl; exact rfl) | (apply ef_bin; exact rfl; exact rfl; exact rfl; (first | ((with_reducible refine bin_add (wrap_of ?_ ?_)) <;> omega) | ((with_reducible refine bin_sub (wrap_of ?_ ?_)) <;> omega) | ((with_reducible refine bin_mul (wrap_of ?_ ?_)) <;> omega) | with_reducible exact bin_mul (by assumption))) | (apply ef_ldr; exact rfl; exact rfl; (exact rfl)) | (apply ef_ldp; exact rfl; exact rfl; (exact rfl); exact rfl; (exact rfl); (exact rfl)) | (apply ef_ias; exact rfl; exact rfl; exact rfl; (omega); assumption; exact rfl) | (apply ef_fap; exact rfl; exact rfl) | (apply ef_ext; exact rfl; exact rfl; exact rfl) | (apply ef_bsl; exact rfl; (repeat (apply XVs.cons; exact rfl)); exact XVs.nil; exact rfl) | apply ef_nil | apply seqQ.normal | (apply ef_call; exact rfl; ((repeat (apply XVs.cons; exact rfl)); exact XVs.nil); (with_reducible exact d2 _)))
      (apply ef_app; (· exact rfl); (· exact rfl); (· exact rfl); (· exact rfl); (· exact rfl); (· exact rfl); (· (simp [hul])); (· exact rfl); (· (simp [hul]; omega)); (· (exact rfl)); (· exact rfl))
      repeat (first | (apply ef_mv; exact rfl; exact rfl) | (apply ef_bin; exact rfl; exact rfl; exact rfl; (((with_reducible refine bin_add (wrap_of ?_ ?_)) <;> omega))) | apply ef_nil | apply seqQ.normal | apply blockQ.normal)
      (refine loopQ.normal _ _ ⟨(j + 1, us ++ [encS2 (q1, q2)]), ⟨hlt2, by rw [HT, hus]⟩, (by first | (simp only; omega) | omega), ⟨by ((repeat (refine Hold.cons (by exact rfl) ?_)); exact Hold.nil), by ((repeat (refine Hold.cons (by exact rfl) ?_)); exact Hold.nil)⟩, .inr ⟨by ((repeat (refine hdl_cons rfl (by first | rfl | (simp [MV.lt, ltL, ltL_Ln, ltL_Cr, ltL_I, hlr, hltk, hltu, ltL_app2, ltL_S2, splice, MV.cells, encR])) ?_)); exact hdl_nil), by (simp [hltL, ltL, MV.lt, ltL, ltL_Ln, ltL_Cr, ltL_I, hlr, hltk, hltu, ltL_app2, ltL_S2, splice, MV.cells, encR])⟩, by exact rfl⟩)
    · obtain rfl : j = ss.length := by omega
      have hall : lvS n c line ss ss.length = ss.map (fun s => encS2 (lvP n c line s)) := by simp [lvS]
      rw [hall] at hus
      repeat (first | apply ef_seq | (apply ef_mv; exact rfl; exact rfl) | (apply ef_bin; exact rfl; exact rfl; exact rfl; (exact cmp_f rfl (by simp only [cmpP]; omega))) | apply ef_nil | apply seqQ.normal | apply loopQ.exit | apply ef_ret | apply ef_exit | apply seqQ.exit | apply blockQ.here | (apply ef_condf; exact rfl; (exact (rfl : false = false))))
      (apply fin_al; (· exact rfl); (· exact rfl); (· exact rfl); (· exact rfl); (· exact rfl); (· simp); (· rw [← hus]; exact hltu 0); (· exact hus); (· exact rfl); (· exact rfl))
theorem ltL_lvP (n : Nt) (c : List Int) (line : Int) (ss : List (Int × Int)) (k : Nat) : ltL k (ss.map (fun s => encS2 (lvP n c line s))) = true := ltL_lits (fun _ => rfl) _
theorem pureL_lvP (n : Nt) (c : List Int) (line : Int) (ss : List (Int × Int)) : pureL (ss.map (fun s => encS2 (lvP n c line s))) = true := pureL_lits (fun _ => rfl) _
theorem Levelled_c (k : Nat) (n : Nt) (hb : BdN n) (c : List Int) (hc : c.length ≤ 1000) (line : Int) (ss : List (Int × Int)) (hs : ss.length ≤ 1000) (he : levE n c line ss = 0) (h : MHeap) {v w : MV} (hw : frz 0 [] h 8 w = some (.sl (c.map I64))) (hv : frz 0 [] h 8 v = some (.agg [I64 line, .sl (ss.map encS2)])) :
    orA (k + 8) 25 [encN n, w, v] h = some (.tup [.arr h.length 0 ss.length 0, I64 0], h ++ [⟨0, decide (ss.length = 0), 2, ss.map (fun s => encS2 (lvP n c line s))⟩]) := by
  have := callA (k := k + 7) (h := h) (args := [encN n, w, v]) (args' := [encN n, .sl (c.map I64), encT2 line ss]) (by simp [List.mapM_cons, hv, frz_lt (ltL_N n 0), hw]) rfl (Levelled_z k n hb c hc line ss hs he) (by simp [okV, ok1, MV.lt, MV.pure]) (by simp [okH, ltL_lvP, pureL_lvP])
  simpa [shV, sh1] using this
end Go.Proofs.Ytbdleggmdbihnaa

/- LevelCrossed: the plain law and the walk. -/
namespace Go.Proofs.Ytbdleggmdbihnaa
open Go.RowKit
set_option linter.unusedVariables false
set_option linter.unusedSimpArgs false
theorem piece_knot {ks : List (Int × Int)} (hs : SrtK ks) {a y : Int} (hm : (a, y) ∈ ks) : pieceP ks a = (y, 1) := by
  obtain ⟨i, hi, he⟩ := List.getElem_of_mem hm
  have hl : lowI a ks = i := by
    have h1 := lowI_iff (a := a) hs i hi
    rw [he] at h1
    simp only [Int.lt_irrefl, false_iff] at h1
    by_cases h2 : lowI a ks < i
    · have h3 := lowI_iff (a := a) hs (lowI a ks) (by omega)
      have h4 := List.pairwise_iff_getElem.1 hs (lowI a ks) i (by omega) hi h2
      rw [he] at h4
      have := h3.1 h4
      omega
    · omega
  have hk : hasK a ks = true := by unfold hasK; rw [hl, List.getElem?_eq_getElem hi, he]; simp
  unfold pieceP
  rw [if_neg (by omega), if_pos hk, hl, List.getD_eq_getElem?_getD, List.getElem?_eq_getElem hi, he]; rfl
theorem lvP_knot {n : Nt} (ok : OkN n) {c : List Int} {line : Int} {x : Cr} (hx : x ∈ n.cs) {a y : Int} (hf : lvF c line x = some (a, y)) (v : Int) : lvP n c line (a, v) = rndP (2 * (v - cAt c line) + y) 2 := by
  have hm : (a, y) ∈ knS n c line := sortP_mem.2 (List.mem_filterMap.2 ⟨x, hx, hf⟩)
  unfold lvP
  simp only [piece_knot (knS_srt ok c line) hm, Int.mul_one]
theorem crossed_eq {n : Nt} (ok : OkN n) {c : List Int} {x : Cr} (hx : x ∈ n.cs) (v : Int) : lvP n c x.ln (x.pa, v) = lvP n c x.ti (x.pt, v - x.df) := by
  have hne : x.ti ≠ x.ln := fun e => by
    have := ok.kd x hx
    rw [e, this.1] at this
    exact absurd this.2 (by simp)
  rw [lvP_knot ok hx (y := 0 - resI c x) (by unfold lvF; rw [if_pos rfl]), lvP_knot ok hx (y := resI c x) (by unfold lvF; rw [if_neg hne, if_pos rfl])]
  unfold resI
  congr 1
  omega
theorem rndP_two (m : Int) (h : -4000000000 ≤ m ∧ m ≤ 4000000000) : inB (rndP m 2).1 ((rndP m 2).2 - 1) (rndP m 2).2 = true ∧ (-3000000000 ≤ (rndP m 2).2 ∧ (rndP m 2).2 ≤ 3000000000) := by
  unfold rndP
  rw [inB_iff]
  simp only
  split <;> omega
theorem levE_ok {n : Nt} {c : List Int} (h : bothE n c = 0) {line a v : Int} (h0 : 0 ≤ line) (h1 : line < (n.ls.length : Int)) (ha : 0 ≤ a ∧ a ≤ 1000000) (hv : -1000000 ≤ v ∧ v ≤ 1000000) : levE n c line [(a, v)] = 0 := by
  unfold levE
  rw [firstE_zero, firstE_zero, firstE_zero, firstE_zero, unl_eq (by decide), unl_eq (by decide), unl_eq (by decide)]
  refine ⟨h, inB_iff.2 ⟨h0, by omega⟩, by simp, ?_, rfl⟩
  have e1 := inB_iff.2 ha
  have e2 : inB v (-1000000) 1000000 = true := inB_iff.2 hv
  simp [smpB, e1, e2]
theorem mf_LevelCrossed : MT.mf 5 = some ⟨115, [(.tmp 6)], (.seq (.reg [⟨none, some 3, .box 2 (.s 0)⟩, ⟨none, some 6, .mv (.c (.lit (.bool false)))⟩]) (.seq (.seq (.reg [⟨none, some 13, .call 7 []⟩, ⟨none, some 14, .un .not (.s 13)⟩]) (.cond (.s 14) (.seq (.reg [⟨none, some 6, .mv (.c (.lit (.bool false)))⟩]) .ret) .skip)) (.seq (.seq (.reg [⟨none, some 15, .ld (some 2) (.s 3)⟩, ⟨none, some 16, .call 8 [.s 15]⟩, ⟨none, some 17, .un .not (.s 16)⟩, ⟨none, some 18, .mv (.s 17)⟩, ⟨some (18, false), some 19, .mv (.s 1)⟩, ⟨some (18, false), some 20, .call 10 [.s 19]⟩, ⟨some (18, false), some 21, .un .not (.s 20)⟩, ⟨none, some 22, .pick (.s 18) (.c (.lit (.bool true))) (.s 21)⟩, ⟨none, some 23, .mv (.s 22)⟩, ⟨some (23, false), some 24, .ld (some 2) (.s 3)⟩, ⟨some (23, false), some 25, .mv (.s 1)⟩, ⟨some (23, false), some 26, .call 24 [.s 24, .s 25]⟩, ⟨some (23, false), some 27, .bin .neq (.s 26) (.c (.lit (.int .i64 0)))⟩, ⟨none, some 28, .pick (.s 23) (.c (.lit (.bool true))) (.s 27)⟩, ⟨none, some 29, .mv (.s 28)⟩, ⟨some (29, false), some 30, .mv (.s 2)⟩, ⟨some (29, false), some 31, .call 22 [.s 30, (.c (.lit (.int .i64 (-500000)))), (.c (.lit (.int .i64 500000)))]⟩, ⟨some (29, false), some 32, .un .not (.s 31)⟩, ⟨none, some 33, .pick (.s 29) (.c (.lit (.bool true))) (.s 32)⟩]) (.cond (.s 33) (.seq (.reg [⟨none, some 6, .mv (.c (.lit (.bool true)))⟩]) .ret) .skip)) (.seq (.seq (.reg [⟨none, some 7, .mv (.c (.lit (.int .i64 0)))⟩]) (.block 0 (.loop [7, 3, 1, 2] (.seq (.seq (.reg [⟨none, some 34, .mv (.s 7)⟩, ⟨none, some 35, .fa 1 (.s 3)⟩, ⟨none, some 36, .ld none (.s 35)⟩, ⟨none, some 37, .len (.s 36)⟩, ⟨none, some 38, .bin .lss (.s 34) (.s 37)⟩]) (.cond (.s 38) .skip (.exit 0))) (.seq (.block 1 (.seq (.reg [⟨none, some 41, .fa 1 (.s 3)⟩, ⟨none, some 42, .ld none (.s 41)⟩, ⟨none, some 43, .mv (.s 7)⟩, ⟨none, some 44, .ia 6 (.s 42) (.s 43)⟩, ⟨none, some 45, .ld (some 6) (.s 44)⟩, ⟨none, some 8, .new (.agg [(.lit (.int .i64 0)), (.lit (.int .i64 0)), (.lit (.int .i64 0)), (.lit (.int .i64 0)), (.lit (.int .i64 0)), (.lit (.int .i64 0))])⟩, ⟨none, none, .st 6 (.s 8) (.s 45)⟩]) (.seq (.reg [⟨none, some 47, .ld (some 2) (.s 3)⟩, ⟨none, some 48, .call 12 [.s 47]⟩, ⟨none, some 49, .mv (.s 1)⟩, ⟨none, some 50, .call 13 [.s 49]⟩, ⟨none, some 51, .fa 0 (.s 8)⟩, ⟨none, some 52, .ld none (.s 51)⟩, ⟨none, some 53, .fa 2 (.s 8)⟩, ⟨none, some 54, .ld none (.s 53)⟩, ⟨none, some 55, .mv (.s 2)⟩, ⟨none, some 56, .build [(.lit (.int .i64 0)), (.lit (.int .i64 0))] [(0, (1, (.s 54))), (1, (1, (.s 55)))]⟩, ⟨none, some 57, .vsl (.agg [(.lit (.int .i64 0)), (.lit (.int .i64 0))]) 2 1 [(0, (.s 56))]⟩, ⟨none, some 58, .build [(.lit (.int .i64 0)), (.lit (.slice none 0 0))] [(0, (1, (.s 52))), (1, (1, (.s 57)))]⟩, ⟨none, some 59, .call 25 [.s 48, .s 50, .s 58]⟩, ⟨none, some 46, .mv (.s 59)⟩, ⟨none, some 60, .ext (.s 46) 0⟩, ⟨none, some 61, .ext (.s 46) 1⟩, ⟨none, some 9, .mv (.s 60)⟩, ⟨none, some 10, .mv (.s 61)⟩]) (.seq (.reg [⟨none, some 63, .ld (some 2) (.s 3)⟩, ⟨none, some 64, .call 12 [.s 63]⟩, ⟨none, some 65, .mv (.s 1)⟩, ⟨none, some 66, .call 13 [.s 65]⟩, ⟨none, some 67, .fa 1 (.s 8)⟩, ⟨none, some 68, .ld none (.s 67)⟩, ⟨none, some 69, .fa 3 (.s 8)⟩, ⟨none, some 70, .ld none (.s 69)⟩, ⟨none, some 71, .mv (.s 2)⟩, ⟨none, some 72, .fa 4 (.s 8)⟩, ⟨none, some 73, .ld none (.s 72)⟩, ⟨none, some 74, .bin .sub (.s 71) (.s 73)⟩, ⟨none, some 75, .build [(.lit (.int .i64 0)), (.lit (.int .i64 0))] [(0, (1, (.s 70))), (1, (1, (.s 74)))]⟩, ⟨none, some 76, .vsl (.agg [(.lit (.int .i64 0)), (.lit (.int .i64 0))]) 2 1 [(0, (.s 75))]⟩, ⟨none, some 77, .build [(.lit (.int .i64 0)), (.lit (.slice none 0 0))] [(0, (1, (.s 68))), (1, (1, (.s 76)))]⟩, ⟨none, some 78, .call 25 [.s 64, .s 66, .s 77]⟩, ⟨none, some 62, .mv (.s 78)⟩, ⟨none, some 79, .ext (.s 62) 0⟩, ⟨none, some 80, .ext (.s 62) 1⟩, ⟨none, some 11, .mv (.s 79)⟩, ⟨none, some 12, .mv (.s 80)⟩]) (.seq (.reg [⟨none, some 81, .mv (.s 10)⟩, ⟨none, some 82, .bin .neq (.s 81) (.c (.lit (.int .i64 0)))⟩, ⟨none, some 83, .mv (.s 82)⟩, ⟨some (83, false), some 84, .mv (.s 12)⟩, ⟨some (83, false), some 85, .bin .neq (.s 84) (.c (.lit (.int .i64 0)))⟩, ⟨none, some 86, .pick (.s 83) (.c (.lit (.bool true))) (.s 85)⟩, ⟨none, some 87, .mv (.s 86)⟩, ⟨some (87, false), some 88, .mv (.s 9)⟩, ⟨some (87, false), some 89, .len (.s 88)⟩, ⟨some (87, false), some 90, .bin .neq (.s 89) (.c (.lit (.int .i64 1)))⟩, ⟨none, some 91, .pick (.s 87) (.c (.lit (.bool true))) (.s 90)⟩, ⟨none, some 92, .mv (.s 91)⟩, ⟨some (92, false), some 93, .mv (.s 9)⟩, ⟨some (92, false), some 94, .mv (.s 11)⟩, ⟨some (92, false), some 95, .call 26 [.s 93, .s 94]⟩, ⟨some (92, false), some 96, .un .not (.s 95)⟩, ⟨none, some 97, .pick (.s 92) (.c (.lit (.bool true))) (.s 96)⟩, ⟨none, some 98, .mv (.s 97)⟩, ⟨some (98, false), some 99, .mv (.s 9)⟩, ⟨some (98, false), some 100, .ia 2 (.s 99) (.c (.lit (.int .i64 0)))⟩, ⟨some (98, false), some 101, .fa 0 (.s 100)⟩, ⟨some (98, false), some 102, .ld none (.s 101)⟩, ⟨some (98, false), some 103, .mv (.s 9)⟩, ⟨some (98, false), some 104, .ia 2 (.s 103) (.c (.lit (.int .i64 0)))⟩, ⟨some (98, false), some 105, .fa 1 (.s 104)⟩, ⟨some (98, false), some 106, .ld none (.s 105)⟩, ⟨some (98, false), some 107, .bin .sub (.s 106) (.c (.lit (.int .i64 1)))⟩, ⟨some (98, false), some 108, .mv (.s 9)⟩, ⟨some (98, false), some 109, .ia 2 (.s 108) (.c (.lit (.int .i64 0)))⟩, ⟨some (98, false), some 110, .fa 1 (.s 109)⟩, ⟨some (98, false), some 111, .ld none (.s 110)⟩, ⟨some (98, false), some 112, .call 22 [.s 102, .s 107, .s 111]⟩, ⟨some (98, false), some 113, .un .not (.s 112)⟩, ⟨none, some 114, .pick (.s 98) (.c (.lit (.bool true))) (.s 113)⟩]) (.cond (.s 114) (.seq (.reg [⟨none, some 6, .mv (.c (.lit (.bool false)))⟩]) .ret) .skip)))))) (.reg [⟨none, some 39, .mv (.s 7)⟩, ⟨none, some 40, .bin .add (.s 39) (.c (.lit (.int .i64 1)))⟩, ⟨none, some 7, .mv (.s 40)⟩])))))) (.seq (.reg [⟨none, some 6, .mv (.c (.lit (.bool true)))⟩]) .ret)))))⟩ := by kernel_rfl
set_option maxHeartbeats 2000000 in
theorem LevelCrossed_z (n : Nt) (c : List Int) (v : Int) (m1 : n.ls.length ≤ 9223372036854775807) (m2 : n.cs.length ≤ 9223372036854775807) (m3 : c.length ≤ 9223372036854775807) :
    runZ MT (orA 14) (itA 14) 4000000 5 [encN n, .sl (c.map I64), I64 v] [] = some (Bo true, []) := by
  refine runZ_of mf_LevelCrossed (by simp) ?_
  simp only [argsL]
  have w1 := fun h => Few_c 13 n m1 m2 h
  cases hf : fewNt n
  · rw [hf] at w1
    repeat (first | apply ef_seq | (apply ef_mv; exact rfl; exact rfl) | (apply ef_gn; exact rfl; (exact (rfl : true = true)); exact rfl) | (apply ef_pick; exact rfl; exact rfl; exact rfl) | (apply ef_ldp; exact rfl; exact rfl; (exact rfl); exact rfl; (exact rfl); (exact rd_2 rfl rfl)) | (apply ef_notT; exact rfl; exact rfl) | (apply ef_notF; exact rfl; exact rfl) | (apply ef_box; exact rfl; exact rfl; exact rfl; exact rfl) | apply ef_nil | apply seqQ.normal | apply ef_ret | apply seqQ.ret | apply ef_skip | (apply ef_condt; exact rfl; (exact (rfl : true = true))) | (apply ef_condf; exact rfl; (exact (rfl : false = false))) | (apply ef_call; exact rfl; ((repeat (apply XVs.cons; exact rfl)); exact XVs.nil); (with_reducible first | exact awake_c _ | exact w1 _)))
    (refine fin1 rfl (by exact rfl) rfl ?_)
    rfl
  obtain ⟨hb, n10, n18⟩ := fewNt_bd hf
  rw [hf] at w1
  have w2 := fun h => fewNumbers_c 13 c m3 h
  by_cases hc : c.length ≤ 40
  rotate_left
  · rw [decide_eq_false hc] at w2
    repeat (first | apply ef_seq | (apply ef_mv; exact rfl; exact rfl) | (apply ef_gy; exact rfl; (exact (rfl : false = false))) | (apply ef_gn; exact rfl; (exact (rfl : true = true)); exact rfl) | (apply ef_pick; exact rfl; exact rfl; exact rfl) | (apply ef_ldp; exact rfl; exact rfl; (exact rfl); exact rfl; (exact rfl); (exact rd_2 rfl rfl)) | (apply ef_notT; exact rfl; exact rfl) | (apply ef_notF; exact rfl; exact rfl) | (apply ef_box; exact rfl; exact rfl; exact rfl; exact rfl) | apply ef_nil | apply seqQ.normal | apply ef_ret | apply seqQ.ret | apply ef_skip | (apply ef_condt; exact rfl; (exact (rfl : true = true))) | (apply ef_condf; exact rfl; (exact (rfl : false = false))) | (apply ef_call; exact rfl; ((repeat (apply XVs.cons; exact rfl)); exact XVs.nil); (with_reducible first | exact awake_c _ | exact w1 _ | exact w2 _)))
    (refine fin1 rfl (by exact rfl) rfl ?_)
    rfl
  rw [decide_eq_true hc] at w2
  have w3 := fun h => BothErr_c 9 n hb c (by omega) h
  by_cases h0 : bothE n c = 0
  rotate_left
  · generalize bothE n c = e at *
    repeat (first | apply ef_seq | (apply ef_mv; exact rfl; exact rfl) | (apply ef_bin; exact rfl; exact rfl; exact rfl; (exact cmp_t rfl (by first | exact rfl | (simp only [cmpP]; omega)))) | (apply ef_gy; exact rfl; (exact (rfl : false = false))) | (apply ef_gn; exact rfl; (exact (rfl : true = true)); exact rfl) | (apply ef_pick; exact rfl; exact rfl; exact rfl) | (apply ef_ldp; exact rfl; exact rfl; (exact rfl); exact rfl; (exact rfl); (exact rd_2 rfl rfl)) | (apply ef_notT; exact rfl; exact rfl) | (apply ef_box; exact rfl; exact rfl; exact rfl; exact rfl) | apply ef_nil | apply seqQ.normal | apply ef_ret | apply seqQ.ret | apply ef_skip | (apply ef_condt; exact rfl; (exact (rfl : true = true))) | (apply ef_condf; exact rfl; (exact (rfl : false = false))) | (apply ef_call; exact rfl; ((repeat (apply XVs.cons; exact rfl)); exact XVs.nil); (with_reducible first | exact awake_c _ | exact w1 _ | exact w2 _ | exact w3 _)))
    (refine fin1 rfl (by exact rfl) rfl ?_)
    rfl
  rw [h0] at w3
  cases hv : inB v (-500000) 500000
  · have w4 := fun h => Within_c 13 v (-500000) 500000 h hv
    repeat (first | apply ef_seq | (apply ef_mv; exact rfl; exact rfl) | (apply ef_bin; exact rfl; exact rfl; exact rfl; (exact cmp_f rfl (by simp only [cmpP]; omega))) | (apply ef_gy; exact rfl; (exact (rfl : false = false))) | (apply ef_pick; exact rfl; exact rfl; exact rfl) | (apply ef_ldp; exact rfl; exact rfl; (exact rfl); exact rfl; (exact rfl); (exact rd_2 rfl rfl)) | (apply ef_notT; exact rfl; exact rfl) | (apply ef_notF; exact rfl; exact rfl) | (apply ef_box; exact rfl; exact rfl; exact rfl; exact rfl) | apply ef_nil | apply seqQ.normal | apply ef_ret | apply seqQ.ret | apply ef_skip | (apply ef_condt; exact rfl; (exact (rfl : true = true))) | (apply ef_condf; exact rfl; (exact (rfl : false = false))) | (apply ef_call; exact rfl; ((repeat (apply XVs.cons; exact rfl)); exact XVs.nil); (with_reducible first | exact awake_c _ | exact w1 _ | exact w2 _ | exact w3 _ | exact w4 _)))
    (refine fin1 rfl (by exact rfl) rfl ?_)
    rfl
  have w4 := fun h => Within_c 13 v (-500000) 500000 h hv
  have hvb := inB_iff.1 hv
  obtain ⟨ok, okc, -⟩ := both_ok h0
  repeat (first | apply ef_seq | (apply ef_mv; exact rfl; exact rfl) | (apply ef_bin; exact rfl; exact rfl; exact rfl; (exact cmp_f rfl (by simp only [cmpP]; omega))) | (apply ef_gy; exact rfl; (exact (rfl : false = false))) | (apply ef_pick; exact rfl; exact rfl; exact rfl) | (apply ef_ldp; exact rfl; exact rfl; (exact rfl); exact rfl; (exact rfl); (exact rd_2 rfl rfl)) | (apply ef_notT; exact rfl; exact rfl) | (apply ef_box; exact rfl; exact rfl; exact rfl; exact rfl) | apply ef_nil | apply seqQ.normal | apply ef_block | apply ef_skip | (apply ef_condf; exact rfl; (exact (rfl : false = false))) | (apply ef_call; exact rfl; ((repeat (apply XVs.cons; exact rfl)); exact XVs.nil); (with_reducible first | exact awake_c _ | exact w1 _ | exact w2 _ | exact w3 _ | exact w4 _)))
  refine ef_loopf (α := Nat) (fun i => i ≤ n.cs.length) (fun i => [(7, I64 (i : Int))]) [(3, .ptr 0 0 0 0), (1, .sl (c.map I64)), (2, I64 v)] (fun _ => [⟨0, false, 2, [encN n]⟩]) (fun i => n.cs.length - i) 0 [7] (fun _ => rfl) (by ((repeat (refine Hold.cons (by exact rfl) ?_)); exact Hold.nil)) (by ((repeat (refine Hold.cons (by exact rfl) ?_)); exact Hold.nil)) rfl rfl (by omega) (by simp; omega) ?_
  intro i hi
  try simp only at hi ⊢
  have hs2 : (MV.sl (n.cs.map encCr)).slen = some n.cs.length := by simp [MV.slen]
  by_cases hlt : i < n.cs.length
  · have e1 := at_map encCr n.cs i hlt
    have hm : n.cs[i] ∈ n.cs := List.getElem_mem hlt
    generalize n.cs[i] = x at e1 hm
    have ox := ok.rg x hm
    have x1 := ox.df
    have he1 := levE_ok h0 ox.l0 ox.l1 ox.pa (v := v) (by omega)
    have he2 := levE_ok h0 ox.t0 ox.t1 ox.pt (v := v - x.df) (by omega)
    have hq := crossed_eq ok (c := c) hm v
    have hq1 := lvP_knot ok (c := c) (line := x.ln) hm (y := 0 - resI c x) (by unfold lvF; rw [if_pos rfl]) v
    have hrb := resI_bd okc ox
    have hcb := okc.at x.ln
    have hr2 := rndP_two (2 * (v - cAt c x.ln) + (0 - resI c x)) (by omega)
    rw [← hq1] at hr2
    have L1 := fun h v' w hw hv' => Levelled_c 6 n hb c (by omega) x.ln [(x.pa, v)] (by simp) he1 h (v := v') (w := w) hw hv'
    have L2 := fun h v' w hw hv' => Levelled_c 6 n hb c (by omega) x.ti [(x.pt, v - x.df)] (by simp) he2 h (v := v') (w := w) hw hv'
    simp only [List.map_cons, List.map_nil, List.length_cons, List.length_nil] at L1 L2
    rw [← hq] at L2
    clear hq hq1
    generalize lvP n c x.ln (x.pa, v) = qq at *
    obtain ⟨q1, q2⟩ := qq
    obtain ⟨r1, r2⟩ := hr2
    have w5 := fun h => Copy_c 13 n hb h
    have w6 := fun h => bCopyInts_c 13 c h (v := .sl (c.map I64)) (by omega) (frz_sl (ltL_I 0 c))
    repeat (first | apply ef_seq | (apply ef_mv; exact rfl; exact rfl) | (apply ef_bin; exact rfl; exact rfl; exact rfl; (exact cmp_t rfl (by first | exact rfl | (simp only [cmpP]; omega)))) | (apply ef_len; exact rfl; exact rfl; (assumption)) | (apply ef_ldr; exact rfl; exact rfl; (exact rd_6 rfl rfl rfl rfl rfl rfl)) | (apply ef_ldp; exact rfl; exact rfl; (exact rfl); exact rfl; (exact rfl); (first | exact rd_2 rfl rfl | exact rfl)) | (apply ef_ias; exact rfl; exact rfl; exact rfl; (omega); assumption; exact rfl) | (apply ef_fap; exact rfl; exact rfl) | (apply ef_new; exact rfl) | (apply ef_build; exact rfl; (repeat (apply XVs.cons; exact rfl)); exact XVs.nil; exact rfl; exact rfl) | (apply ef_vsl; exact rfl; (repeat (apply XVs.cons; exact rfl)); exact XVs.nil; exact rfl; exact rfl) | (apply ef_st; exact rfl; exact rfl; exact rfl; exact rfl; exact rfl; exact rfl; (exact rfl); exact rfl) | apply ef_nil | apply seqQ.normal | apply ef_block | apply ef_skip | (apply ef_condt; exact rfl; (exact (rfl : true = true))) | (apply ef_call; exact rfl; ((repeat (apply XVs.cons; exact rfl)); exact XVs.nil); (with_reducible first | exact w5 _ | exact w6 _)))
    (apply ef_call; (· exact rfl); (· ((repeat (apply XVs.cons; exact rfl)); exact XVs.nil)); · exact L1 _ _ _ (frz_row (o := ⟨0, false, 1, c.map I64⟩) rfl rfl (by simp) (ltL_I 0 c) rfl) (frz_lt (m := .agg [I64 x.ln, .sl [encS2 (x.pa, v)]]) rfl))
    repeat (first | apply ef_seq | (apply ef_mv; exact rfl; exact rfl) | (apply ef_bin; exact rfl; exact rfl; exact rfl; (((with_reducible refine bin_sub (wrap_of ?_ ?_)) <;> omega))) | (apply ef_ldp; exact rfl; exact rfl; (exact rfl); exact rfl; (exact rfl); (first | exact rd_2 rfl rfl | exact rfl)) | (apply ef_fap; exact rfl; exact rfl) | (apply ef_ext; exact rfl; exact rfl; exact rfl) | (apply ef_build; exact rfl; (repeat (apply XVs.cons; exact rfl)); exact XVs.nil; exact rfl; exact rfl) | (apply ef_vsl; exact rfl; (repeat (apply XVs.cons; exact rfl)); exact XVs.nil; exact rfl; exact rfl) | apply ef_nil | apply seqQ.normal | (apply ef_call; exact rfl; ((repeat (apply XVs.cons; exact rfl)); exact XVs.nil); (with_reducible first | exact w5 _ | exact w6 _)))
    (apply ef_call; (· exact rfl); (· ((repeat (apply XVs.cons; exact rfl)); exact XVs.nil)); · exact L2 _ _ _ (frz_row (o := ⟨0, false, 1, c.map I64⟩) rfl rfl (by simp) (ltL_I 0 c) rfl) (frz_lt (m := .agg [I64 x.ti, .sl [encS2 (x.pt, v - x.df)]]) rfl))
    repeat (first | apply ef_seq | (apply ef_mv; exact rfl; exact rfl) | (apply ef_bin; exact rfl; exact rfl; exact rfl; (exact cmp_f rfl (by simp only [cmpP]; omega))) | (apply ef_gy; exact rfl; (exact (rfl : false = false))) | (apply ef_pick; exact rfl; exact rfl; exact rfl) | (apply ef_len; exact rfl; exact rfl; (exact rfl)) | (apply ef_ext; exact rfl; exact rfl; exact rfl) | apply ef_nil | apply seqQ.normal)
    (apply ef_call; (· exact rfl); (· ((repeat (apply XVs.cons; exact rfl)); exact XVs.nil)); · exact bRanges_c 13 [(q1, q2)] [(q1, q2)] _ (by simp) (frz_row (o := ⟨0, false, 2, [encR (q1, q2)]⟩) rfl rfl rfl rfl rfl) (frz_row (o := ⟨0, false, 2, [encR (q1, q2)]⟩) rfl rfl rfl rfl rfl) (t := true) (by simp))
    have w7 := fun h => Within_c 13 q1 (q2 - 1) q2 h r1
    repeat (first | (apply ef_mv; exact rfl; exact rfl) | (apply ef_bin; exact rfl; exact rfl; exact rfl; (first | ((with_reducible refine bin_add (wrap_of ?_ ?_)) <;> omega) | ((with_reducible refine bin_sub (wrap_of ?_ ?_)) <;> omega))) | (apply ef_gy; exact rfl; (exact (rfl : false = false))) | (apply ef_pick; exact rfl; exact rfl; exact rfl) | (apply ef_ldp; exact rfl; exact rfl; (exact rfl); exact rfl; (exact rfl); (exact rfl)) | (apply ef_iaa; exact rfl; exact rfl; exact rfl; (omega); (omega); (exact rfl)) | (apply ef_fap; exact rfl; exact rfl) | (apply ef_notT; exact rfl; exact rfl) | apply ef_nil | apply seqQ.normal | apply blockQ.normal | apply ef_skip | (apply ef_condf; exact rfl; (exact (rfl : false = false))) | (apply ef_call; exact rfl; ((repeat (apply XVs.cons; exact rfl)); exact XVs.nil); (with_reducible exact w7 _)))
    (refine loopQ.normal _ _ ⟨i + 1, hlt, (by first | (simp only; omega) | omega), ⟨by ((repeat (refine Hold.cons (by exact rfl) ?_)); exact Hold.nil), by ((repeat (refine Hold.cons (by exact rfl) ?_)); exact Hold.nil)⟩, .inr ⟨by ((repeat (refine hdl_cons rfl (by first | rfl | (simp [MV.lt, ltL, ltL_Ln, ltL_Cr, ltL_I, splice, MV.cells])) ?_)); exact hdl_nil), by (simp [hltL, ltL, MV.lt, ltL, ltL_Ln, ltL_Cr, ltL_I, splice, MV.cells])⟩, by exact rfl⟩)
  · repeat (first | apply ef_seq | (apply ef_mv; exact rfl; exact rfl) | (apply ef_bin; exact rfl; exact rfl; exact rfl; (exact cmp_f rfl (by simp only [cmpP]; omega))) | (apply ef_len; exact rfl; exact rfl; (assumption)) | (apply ef_ldp; exact rfl; exact rfl; (exact rfl); exact rfl; (exact rfl); (exact rfl)) | (apply ef_fap; exact rfl; exact rfl) | apply ef_nil | apply seqQ.normal | apply loopQ.exit | apply ef_ret | apply ef_exit | apply seqQ.exit | apply blockQ.here | (apply ef_condf; exact rfl; (exact (rfl : false = false))))
    (refine fin1 rfl (by exact rfl) rfl ?_)
    rfl
end Go.Proofs.Ytbdleggmdbihnaa
