/- LevelNets: the walk. -/
import Derived.Test.YtbdleggmdbihnaaGreatNetsProofsPf
/- Contracts: residuals, the cost and the corrected net; the program, and the document; equal nets. -/
namespace Go.Proofs.YtbdleggmdbihnaaGreat
open Go.RowKit
set_option linter.unusedVariables false
set_option linter.unusedSimpArgs false
theorem OkC.okB {m : Nat} {c : List Int} (h : OkC m c) : OkB m c := ⟨h.len, fun v => by have := h.at v; omega⟩
theorem bothE_ok {n : Nt} {c : List Int} (h : bothE n c = 0) : (netF n).2 = 0 ∧ OkN n ∧ OkC n.ls.length c := by
  obtain ⟨h1, h2, h3⟩ := both_ok h
  exact ⟨h3, h1, h2⟩
theorem mf_ResidualsOf : MT.mf 26 = some ⟨20, [(.tmp 4), (.tmp 5)], (.seq (.reg [⟨none, some 2, .box 2 (.s 0)⟩, ⟨none, some 4, .nil0 1⟩, ⟨none, some 5, .mv (.c (.lit (.int .i64 0)))⟩]) (.seq (.reg [⟨none, some 9, .ld (some 2) (.s 2)⟩, ⟨none, some 10, .mv (.s 1)⟩, ⟨none, some 11, .call 49 [.s 9, .s 10]⟩, ⟨none, some 8, .mv (.s 11)⟩, ⟨none, some 12, .ext (.s 8) 0⟩, ⟨none, some 13, .ext (.s 8) 1⟩, ⟨none, some 6, .new (.agg [(.lit (.slice none 0 0)), (.lit (.slice none 0 0))])⟩, ⟨none, none, .st 2 (.s 6) (.s 12)⟩, ⟨none, some 7, .mv (.s 13)⟩]) (.seq (.seq (.reg [⟨none, some 14, .mv (.s 7)⟩, ⟨none, some 15, .bin .neq (.s 14) (.c (.lit (.int .i64 0)))⟩]) (.cond (.s 15) (.seq (.reg [⟨none, some 16, .mv (.s 7)⟩, ⟨none, some 4, .nil0 1⟩, ⟨none, some 5, .mv (.s 16)⟩]) .ret) .skip)) (.seq (.reg [⟨none, some 17, .ld (some 2) (.s 6)⟩, ⟨none, some 18, .mv (.s 1)⟩, ⟨none, some 19, .call 57 [.s 17, .s 18]⟩, ⟨none, some 4, .mv (.s 19)⟩, ⟨none, some 5, .mv (.c (.lit (.int .i64 0)))⟩]) .ret))))⟩ := by kernel_rfl
theorem ResidualsOf_z (k : Nat) (n : Nt) (hb : BdN n) (c : List Int) (hc : c.length ≤ 1000) (h0 : bothE n c = 0) :
    runZ MT (orA (k + 7)) (itA (k + 7)) 4000000 26 [encN n, .sl (c.map I64)] [] = some (.tup [.arr 0 0 n.cs.length 0, I64 0], [⟨0, decide (n.cs.length = 0), 1, (resL n c).map I64⟩]) := by
  obtain ⟨hn, ok, okc⟩ := bothE_ok h0
  have w1 := fun h => openCorr_c k n hb c hc h
  have w2 := fun h => residuals_c (k + 6) n c (by have := ok.c16; omega) ok.rg okc (by have := ok.l8; omega) h
  have hrl : (resL n c).length = n.cs.length := by simp [resL]
  rw [h0] at w1
  refine runZ_of mf_ResidualsOf (by simp) ?_
  simp only [argsL]
  repeat (first | apply ef_seq | (apply ef_mv; exact rfl; exact rfl) | (apply ef_bin; exact rfl; exact rfl; exact rfl; (exact cmp_f rfl (by simp only [cmpP]; omega))) | (apply ef_ldp; exact rfl; exact rfl; (exact rfl); exact rfl; (exact rfl); (exact rd_2 rfl rfl)) | (apply ef_ext; exact rfl; exact rfl; exact rfl) | (apply ef_box; exact rfl; exact rfl; exact rfl; exact rfl) | (apply ef_new; exact rfl) | (apply ef_nil0; exact rfl) | (apply ef_st; exact rfl; exact rfl; exact rfl; exact rfl; exact rfl; exact rfl; (exact rfl); exact rfl) | apply ef_nil | apply seqQ.normal | apply ef_ret | apply ef_skip | (apply ef_condf; exact rfl; (exact (rfl : false = false))) | (apply ef_call; exact rfl; ((repeat (apply XVs.cons; exact rfl)); exact XVs.nil); (with_reducible first | exact w1 _ | exact w2 _)))
  (apply fin_al; (· exact rfl); (· exact rfl); (· exact rfl); (· exact rfl); (· exact rfl); (· simp [hrl]); (· exact ltL_I 0 _); (· exact rfl); (· exact rfl); (· exact rfl))
theorem ResidualsOf_c (k : Nat) (n : Nt) (hb : BdN n) (c : List Int) (hc : c.length ≤ 1000) (h0 : bothE n c = 0) (h : MHeap) {v : MV} (hv : frz 0 [] h 8 v = some (.sl (c.map I64))) :
    orA (k + 8) 26 [encN n, v] h = some (.tup [.arr h.length 0 n.cs.length 0, I64 0], h ++ [⟨0, decide (n.cs.length = 0), 1, (resL n c).map I64⟩]) := by
  have := callA (k := k + 7) (h := h) (args := [encN n, v]) (args' := [encN n, .sl (c.map I64)]) (by simp [List.mapM_cons, hv, frz_lt (ltL_N n 0)]) rfl (ResidualsOf_z k n hb c hc h0) (by simp [okV, ok1, MV.lt, MV.pure]) (by simp [okH, ltL_I, pureL_I])
  simpa [shV, sh1] using this
theorem ResidualsOf_e (k : Nat) (n : Nt) (hb : BdN n) (c : List Int) (hc : c.length ≤ 1000) (h0 : bothE n c ≠ 0) (h : MHeap) {v : MV} (hv : frz 0 [] h 8 v = some (.sl (c.map I64))) :
    orA (k + 8) 26 [encN n, v] h = some (.tup [.arr h.length 0 0 0, I64 (bothE n c)], h ++ [⟨0, true, 1, []⟩]) := by
  have hz : runZ MT (orA (k + 7)) (itA (k + 7)) 4000000 26 [encN n, .sl (c.map I64)] [] = some (.tup [.arr 0 0 0 0, I64 (bothE n c)], [⟨0, true, 1, []⟩]) := by
    have w1 := fun h => openCorr_c k n hb c hc h
    refine runZ_of mf_ResidualsOf (by simp) ?_
    simp only [argsL]
    generalize bothE n c = e at *
    repeat (first | apply ef_seq | (apply ef_mv; exact rfl; exact rfl) | (apply ef_bin; exact rfl; exact rfl; exact rfl; (exact cmp_t rfl (by first | exact rfl | (simp only [cmpP]; omega)))) | (apply ef_ldp; exact rfl; exact rfl; (exact rfl); exact rfl; (exact rfl); (exact rd_2 rfl rfl)) | (apply ef_ext; exact rfl; exact rfl; exact rfl) | (apply ef_box; exact rfl; exact rfl; exact rfl; exact rfl) | (apply ef_new; exact rfl) | (apply ef_nil0; exact rfl) | (apply ef_st; exact rfl; exact rfl; exact rfl; exact rfl; exact rfl; exact rfl; (exact rfl); exact rfl) | apply ef_nil | apply seqQ.normal | apply ef_ret | apply seqQ.ret | (apply ef_condt; exact rfl; (exact (rfl : true = true))) | (apply ef_call; exact rfl; ((repeat (apply XVs.cons; exact rfl)); exact XVs.nil); (with_reducible exact w1 _)))
    (apply fin_al; (· exact rfl); (· exact rfl); (· exact rfl); (· exact rfl); (· exact rfl); (· exact rfl); (· exact rfl); (· exact rfl); (· exact rfl); (· exact rfl))
  have := callA (k := k + 7) (h := h) (args := [encN n, v]) (args' := [encN n, .sl (c.map I64)]) (by simp [List.mapM_cons, hv, frz_lt (ltL_N n 0)]) rfl hz (by simp [okV, ok1, MV.lt, MV.pure]) (by simp [okH, ltL, pureL])
  simpa [shV, sh1] using this
theorem mf_CostOf : MT.mf 27 = some ⟨22, [(.tmp 4), (.tmp 5)], (.seq (.reg [⟨none, some 2, .box 2 (.s 0)⟩, ⟨none, some 4, .mv (.c (.lit (.int .i64 0)))⟩, ⟨none, some 5, .mv (.c (.lit (.int .i64 0)))⟩]) (.seq (.reg [⟨none, some 9, .ld (some 2) (.s 2)⟩, ⟨none, some 10, .mv (.s 1)⟩, ⟨none, some 11, .call 49 [.s 9, .s 10]⟩, ⟨none, some 8, .mv (.s 11)⟩, ⟨none, some 12, .ext (.s 8) 0⟩, ⟨none, some 13, .ext (.s 8) 1⟩, ⟨none, some 6, .new (.agg [(.lit (.slice none 0 0)), (.lit (.slice none 0 0))])⟩, ⟨none, none, .st 2 (.s 6) (.s 12)⟩, ⟨none, some 7, .mv (.s 13)⟩]) (.seq (.seq (.reg [⟨none, some 14, .mv (.s 7)⟩, ⟨none, some 15, .bin .neq (.s 14) (.c (.lit (.int .i64 0)))⟩]) (.cond (.s 15) (.seq (.reg [⟨none, some 16, .mv (.s 7)⟩, ⟨none, some 4, .mv (.c (.lit (.int .i64 0)))⟩, ⟨none, some 5, .mv (.s 16)⟩]) .ret) .skip)) (.seq (.reg [⟨none, some 17, .ld (some 2) (.s 6)⟩, ⟨none, some 18, .ld (some 2) (.s 6)⟩, ⟨none, some 19, .mv (.s 1)⟩, ⟨none, some 20, .call 57 [.s 18, .s 19]⟩, ⟨none, some 21, .call 78 [.s 17, .s 20]⟩, ⟨none, some 4, .mv (.s 21)⟩, ⟨none, some 5, .mv (.c (.lit (.int .i64 0)))⟩]) .ret))))⟩ := by kernel_rfl
theorem CostOf_c (k : Nat) (n : Nt) (hb : BdN n) (c : List Int) (hc : c.length ≤ 1000) (h : MHeap) {v : MV} (hv : frz 0 [] h 8 v = some (.sl (c.map I64))) :
    orA (k + 8) 27 [encN n, v] h = some (.tup [I64 (if bothE n c = 0 then costL n c else 0), I64 (bothE n c)], h) := by
  have w1 := fun h => openCorr_c k n hb c hc h
  refine callTT (args' := [encN n, .sl (c.map I64)]) (by simp [List.mapM_cons, hv, frz_lt (ltL_N n 0)]) rfl (runZ_of mf_CostOf (by simp) ?_)
  simp only [argsL]
  by_cases h0 : bothE n c = 0
  · obtain ⟨hn, ok, okc⟩ := bothE_ok h0
    have hrl : (resL n c).length = n.cs.length := by simp [resL]
    have w2 := fun h => residuals_c (k + 6) n c (by have := ok.c16; omega) ok.rg okc (by have := ok.l8; omega) h
    have w3 := fun h v hv => cost_c (k + 5) n ok (resL n c) hrl (resL_bd ok okc.okB) h (v := v) hv
    rw [h0] at w1
    rw [h0, if_pos rfl]
    unfold costL
    generalize wsU n.cs (resL n c) n.cs.length = ws at *
    repeat (first | apply ef_seq | (apply ef_mv; exact rfl; exact rfl) | (apply ef_bin; exact rfl; exact rfl; exact rfl; (exact cmp_f rfl (by simp only [cmpP]; omega))) | (apply ef_ldp; exact rfl; exact rfl; (exact rfl); exact rfl; (exact rfl); (exact rd_2 rfl rfl)) | (apply ef_ext; exact rfl; exact rfl; exact rfl) | (apply ef_box; exact rfl; exact rfl; exact rfl; exact rfl) | (apply ef_new; exact rfl) | (apply ef_st; exact rfl; exact rfl; exact rfl; exact rfl; exact rfl; exact rfl; (exact rfl); exact rfl) | apply ef_nil | apply seqQ.normal | apply ef_skip | (apply ef_condf; exact rfl; (exact (rfl : false = false))) | (apply ef_call; exact rfl; ((repeat (apply XVs.cons; exact rfl)); exact XVs.nil); (with_reducible first | exact w1 _ | exact w2 _)))
    (apply ef_call; (· exact rfl); (· ((repeat (apply XVs.cons; exact rfl)); exact XVs.nil)); · exact w3 _ _ (frz_row (o := ⟨0, decide (n.cs.length = 0), 1, (resL n c).map I64⟩) rfl rfl (by simp [hrl]) (ltL_I 0 _) rfl))
    repeat (first | (apply ef_mv; exact rfl; exact rfl) | apply ef_nil | apply seqQ.normal | apply ef_ret)
    (apply fin2; (· exact rfl); (· exact rfl); (· exact rfl); (· rfl))
  · rw [if_neg h0]
    generalize bothE n c = e at *
    repeat (first | apply ef_seq | (apply ef_mv; exact rfl; exact rfl) | (apply ef_bin; exact rfl; exact rfl; exact rfl; (exact cmp_t rfl (by first | exact rfl | (simp only [cmpP]; omega)))) | (apply ef_ldp; exact rfl; exact rfl; (exact rfl); exact rfl; (exact rfl); (exact rd_2 rfl rfl)) | (apply ef_ext; exact rfl; exact rfl; exact rfl) | (apply ef_box; exact rfl; exact rfl; exact rfl; exact rfl) | (apply ef_new; exact rfl) | (apply ef_st; exact rfl; exact rfl; exact rfl; exact rfl; exact rfl; exact rfl; (exact rfl); exact rfl) | apply ef_nil | apply seqQ.normal | apply ef_ret | apply seqQ.ret | (apply ef_condt; exact rfl; (exact (rfl : true = true))) | (apply ef_call; exact rfl; ((repeat (apply XVs.cons; exact rfl)); exact XVs.nil); (with_reducible exact w1 _)))
    (apply fin2; (· exact rfl); (· exact rfl); (· exact rfl); (· rfl))
abbrev nilN : MV := .agg [.lit (.slice none 0 0), .lit (.slice none 0 0)]
theorem mf_cor1 : MT.mf 80 = some mfW_l91 := by kernel_rfl
theorem cor1_c (k : Nat) (z : Int) (h : MHeap) : orA (k + 3) 80 [I64 z] h = some (Bo (anB z), h) := by
  refine callL (args' := [I64 z]) (frzL_lt rfl) rfl (runZ_of mf_cor1 (by simp) ?_)
  simp only [argsL]
  have hw := fun h => isSized_c k z 10000 h (by omega) (by omega) rfl
  unfold anB
  have e : inB z (-10000) 10000 = inB z (-(10000 : Int)) 10000 := rfl
  rw [e]
  generalize inB z (-(10000 : Int)) 10000 = b at hw
  repeat (first | apply ef_seq | (apply ef_mv; exact rfl; exact rfl) | (apply ef_not; exact rfl; exact rfl; exact rfl) | apply ef_nil | apply seqQ.normal | apply ef_ret | (apply ef_call; exact rfl; ((repeat (apply XVs.cons; exact rfl)); exact XVs.nil); (with_reducible exact hw _)))
  (refine fin1 rfl (by exact rfl) rfl ?_)
  rfl
def corE (n : Nt) (c : List Int) : Int := if bothE n c = 0 then (if (resL n c).any anB then 8 else 0) else bothE n c
def corV (n : Nt) (c : List Int) : MV := if corE n c = 0 then encN (nW n (resL n c)) else nilN
theorem mf_Corrected : MT.mf 28 = some ⟨29, [(.cell 4 (some 2)), (.tmp 5)], (.seq (.reg [⟨none, some 2, .box 2 (.s 0)⟩, ⟨none, some 4, .new (.agg [(.lit (.slice none 0 0)), (.lit (.slice none 0 0))])⟩, ⟨none, some 5, .mv (.c (.lit (.int .i64 0)))⟩]) (.seq (.reg [⟨none, some 10, .ld (some 2) (.s 2)⟩, ⟨none, some 11, .mv (.s 1)⟩, ⟨none, some 12, .call 49 [.s 10, .s 11]⟩, ⟨none, some 9, .mv (.s 12)⟩, ⟨none, some 13, .ext (.s 9) 0⟩, ⟨none, some 14, .ext (.s 9) 1⟩, ⟨none, some 6, .new (.agg [(.lit (.slice none 0 0)), (.lit (.slice none 0 0))])⟩, ⟨none, none, .st 2 (.s 6) (.s 13)⟩, ⟨none, some 7, .mv (.s 14)⟩]) (.seq (.seq (.reg [⟨none, some 15, .mv (.s 7)⟩, ⟨none, some 16, .bin .neq (.s 15) (.c (.lit (.int .i64 0)))⟩]) (.cond (.s 16) (.seq (.reg [⟨none, some 17, .build [(.lit (.slice none 0 0)), (.lit (.slice none 0 0))] []⟩, ⟨none, some 18, .mv (.s 7)⟩, ⟨none, none, .st 2 (.s 4) (.s 17)⟩, ⟨none, some 5, .mv (.s 18)⟩]) .ret) .skip)) (.seq (.reg [⟨none, some 19, .ld (some 2) (.s 6)⟩, ⟨none, some 20, .mv (.s 1)⟩, ⟨none, some 21, .call 57 [.s 19, .s 20]⟩, ⟨none, some 8, .mv (.s 21)⟩]) (.seq (.seq (.reg [⟨none, some 22, .mv (.s 8)⟩, ⟨none, some 23, .call 79 [.s 22, (.c (.fn 80 0 []))]⟩]) (.cond (.s 23) (.seq (.reg [⟨none, some 24, .build [(.lit (.slice none 0 0)), (.lit (.slice none 0 0))] []⟩, ⟨none, none, .st 2 (.s 4) (.s 24)⟩, ⟨none, some 5, .mv (.c (.lit (.int .i64 8)))⟩]) .ret) .skip)) (.seq (.give 8 (.reg [⟨none, some 25, .ld (some 2) (.s 6)⟩, ⟨none, some 26, .mv (.s 8)⟩, ⟨none, some 27, .call 81 [.s 25, .s 26]⟩, ⟨none, some 28, .fd 0 (some 2) (.s 27)⟩, ⟨none, none, .st 2 (.s 4) (.s 28)⟩, ⟨none, some 5, .mv (.c (.lit (.int .i64 0)))⟩])) .ret))))))⟩ := by kernel_rfl
theorem Corrected_c (k : Nat) (n : Nt) (hb : BdN n) (c : List Int) (hc : c.length ≤ 1000) (h : MHeap) (hh : ltL 0 [encN n, .sl (c.map I64)] = true) :
    orA (k + 8) 28 [encN n, .sl (c.map I64)] h = some (.tup [corV n c, I64 (corE n c)], h) := by
  have hz : runZ MT (orA (k + 7)) (itA (k + 7)) 4000000 28 [encN n, .sl (c.map I64)] [] = some (.tup [corV n c, I64 (corE n c)], []) := by
    have w1 := fun h => openCorr_c k n hb c hc h
    refine runZ_of mf_Corrected (by simp) ?_
    simp only [argsL]
    have HV := Bx.mk (show corV n c = if corE n c = 0 then encN (nW n (resL n c)) else nilN from rfl)
    have HE := Bx.mk (show corE n c = if bothE n c = 0 then (if (resL n c).any anB then 8 else 0) else bothE n c from rfl)
    by_cases h0 : bothE n c = 0
    · obtain ⟨hn, ok, okc⟩ := bothE_ok h0
      have hrl : (resL n c).length = n.cs.length := by simp [resL]
      have c16 := ok.c16
      have l8 := ok.l8
      have w2 := fun h => residuals_c (k + 6) n c (by omega) ok.rg okc (by omega) h
      have w3 := fun h b v hv ht => ContainsFuncI_c (k + 5) 80 [] anB (resL n c) h (v := v) (fv := .fn 80 0 []) (t := b) (by omega) (fun z _ h => cor1_c (k + 2) z h) rfl hv rfl ht
      have w4 := fun h => withN_c (k + 5) n ok.l1 (by omega) (by omega) (resL n c) hrl h
      rw [h0] at w1
      cases hab : (resL n c).any anB
      · have e1 : corE n c = 0 := by rw [HE.out, if_pos h0, hab]; rfl
        have e2 : corV n c = encN (nW n (resL n c)) := by rw [HV.out, if_pos e1]
        rw [e2, e1]
        clear e1 e2
        repeat (first | apply ef_seq | (apply ef_mv; exact rfl; exact rfl) | (apply ef_bin; exact rfl; exact rfl; exact rfl; (exact cmp_f rfl (by simp only [cmpP]; omega))) | (apply ef_ldp; exact rfl; exact rfl; (exact rfl); exact rfl; (exact rfl); (exact rd_2 rfl rfl)) | (apply ef_ext; exact rfl; exact rfl; exact rfl) | (apply ef_box; exact rfl; exact rfl; exact rfl; exact rfl) | (apply ef_new; exact rfl) | (apply ef_st; exact rfl; exact rfl; exact rfl; exact rfl; exact rfl; exact rfl; (exact rfl); exact rfl) | apply ef_nil | apply seqQ.normal | apply ef_skip | (apply ef_condf; exact rfl; (exact (rfl : false = false))) | (apply ef_call; exact rfl; ((repeat (apply XVs.cons; exact rfl)); exact XVs.nil); (with_reducible first | exact w1 _ | exact w2 _)))
        (apply ef_call; (· exact rfl); (· ((repeat (apply XVs.cons; exact rfl)); exact XVs.nil)); · exact w3 _ false _ (frz_row (o := ⟨0, decide (n.cs.length = 0), 1, (resL n c).map I64⟩) rfl rfl (by simp [hrl]) (ltL_I 0 _) rfl) hab)
        repeat (first | apply ef_seq | apply ef_nil | apply seqQ.normal | apply ef_skip | (apply ef_condf; exact rfl; (exact (rfl : false = false))))
        refine ef_givev rfl (by exact rfl) (giveV_arr (es := (resL n c).map I64) rfl (by simp [hrl]) (ltL_I 0 _) rfl) ?_
        repeat (first | (apply ef_mv; exact rfl; exact rfl) | (apply ef_ldp; exact rfl; exact rfl; (exact rfl); exact rfl; (exact rfl); (exact rd_2 rfl rfl)) | (apply ef_fd; exact rfl; exact rfl; (exact rd_2 rfl rfl)) | (apply ef_st; exact rfl; exact rfl; exact rfl; exact rfl; exact rfl; exact rfl; (exact rfl); exact rfl) | apply ef_nil | apply seqQ.normal | apply ef_ret | (apply ef_call; exact rfl; ((repeat (apply XVs.cons; exact rfl)); exact XVs.nil); (with_reducible exact w4 _)))
        (apply fin_res2; (· exact rfl); (· exact ⟨1, 0, 0, 0, _, _, by exact rfl, by exact rfl, rfl, rfl, rd_2 rfl rfl⟩); (· exact rfl); (· exact ltL_N _ 0); (· rfl))
      · have e1 : corE n c = 8 := by rw [HE.out, if_pos h0, hab]; rfl
        have e2 : corV n c = nilN := by rw [HV.out, if_neg (by rw [e1]; decide)]
        rw [e2, e1]
        clear e1 e2
        repeat (first | apply ef_seq | (apply ef_mv; exact rfl; exact rfl) | (apply ef_bin; exact rfl; exact rfl; exact rfl; (exact cmp_f rfl (by simp only [cmpP]; omega))) | (apply ef_ldp; exact rfl; exact rfl; (exact rfl); exact rfl; (exact rfl); (exact rd_2 rfl rfl)) | (apply ef_ext; exact rfl; exact rfl; exact rfl) | (apply ef_box; exact rfl; exact rfl; exact rfl; exact rfl) | (apply ef_new; exact rfl) | (apply ef_st; exact rfl; exact rfl; exact rfl; exact rfl; exact rfl; exact rfl; (exact rfl); exact rfl) | apply ef_nil | apply seqQ.normal | apply ef_skip | (apply ef_condf; exact rfl; (exact (rfl : false = false))) | (apply ef_call; exact rfl; ((repeat (apply XVs.cons; exact rfl)); exact XVs.nil); (with_reducible first | exact w1 _ | exact w2 _)))
        (apply ef_call; (· exact rfl); (· ((repeat (apply XVs.cons; exact rfl)); exact XVs.nil)); · exact w3 _ true _ (frz_row (o := ⟨0, decide (n.cs.length = 0), 1, (resL n c).map I64⟩) rfl rfl (by simp [hrl]) (ltL_I 0 _) rfl) hab)
        repeat (first | apply ef_seq | (apply ef_mv; exact rfl; exact rfl) | (apply ef_build; exact rfl; (repeat (apply XVs.cons; exact rfl)); exact XVs.nil; exact rfl; exact rfl) | (apply ef_st; exact rfl; exact rfl; exact rfl; exact rfl; exact rfl; exact rfl; (exact rfl); exact rfl) | apply ef_nil | apply seqQ.normal | apply ef_ret | apply seqQ.ret | (apply ef_condt; exact rfl; (exact (rfl : true = true))))
        (apply fin_res2; (· exact rfl); (· exact ⟨1, 0, 0, 0, _, _, by exact rfl, by exact rfl, rfl, rfl, rd_2 rfl rfl⟩); (· exact rfl); (· exact rfl); (· rfl))
    · have e1 : corE n c = bothE n c := by rw [HE.out, if_neg h0]
      have e2 : corV n c = nilN := by rw [HV.out, if_neg (by rw [e1]; exact h0)]
      rw [e2, e1]
      clear e1 e2
      generalize bothE n c = e at *
      repeat (first | apply ef_seq | (apply ef_mv; exact rfl; exact rfl) | (apply ef_bin; exact rfl; exact rfl; exact rfl; (exact cmp_t rfl (by first | exact rfl | (simp only [cmpP]; omega)))) | (apply ef_ldp; exact rfl; exact rfl; (exact rfl); exact rfl; (exact rfl); (exact rd_2 rfl rfl)) | (apply ef_ext; exact rfl; exact rfl; exact rfl) | (apply ef_box; exact rfl; exact rfl; exact rfl; exact rfl) | (apply ef_new; exact rfl) | (apply ef_build; exact rfl; (repeat (apply XVs.cons; exact rfl)); exact XVs.nil; exact rfl; exact rfl) | (apply ef_st; exact rfl; exact rfl; exact rfl; exact rfl; exact rfl; exact rfl; (exact rfl); exact rfl) | apply ef_nil | apply seqQ.normal | apply ef_ret | apply seqQ.ret | (apply ef_condt; exact rfl; (exact (rfl : true = true))) | (apply ef_call; exact rfl; ((repeat (apply XVs.cons; exact rfl)); exact XVs.nil); (with_reducible exact w1 _)))
      (apply fin_res2; (· exact rfl); (· exact ⟨1, 0, 0, 0, _, _, by exact rfl, by exact rfl, rfl, rfl, rd_2 rfl rfl⟩); (· exact rfl); (· exact rfl); (· rfl))
  have := callA (k := k + 7) (h := h) (frzL_lt (ms := [encN n, .sl (c.map I64)]) hh) rfl hz (by unfold corV; split <;> simp [okV, ok1, MV.lt, ltL, ltL_Ln, ltL_Cr, ltL_I]) rfl
  by_cases e : corE n c = 0
  · have e2 : corV n c = encN (nW n (resL n c)) := by unfold corV; rw [if_pos e]
    rw [e2] at this ⊢
    simpa [shV, sh1] using this
  · have e2 : corV n c = nilN := by unfold corV; rw [if_neg e]
    rw [e2] at this ⊢
    simpa [shV, sh1] using this
theorem mf_rCorrected : MT.mf 32 = some ⟨27, [(.cell 4 (some 2)), (.tmp 5)], (.seq (.reg [⟨none, some 2, .box 2 (.s 0)⟩, ⟨none, some 4, .new (.agg [(.lit (.slice none 0 0)), (.lit (.slice none 0 0))])⟩, ⟨none, some 5, .mv (.c (.lit (.int .i64 0)))⟩]) (.seq (.reg [⟨none, some 8, .ld (some 2) (.s 2)⟩, ⟨none, some 9, .mv (.s 1)⟩, ⟨none, some 10, .call 33 [.s 8, .s 9]⟩, ⟨none, some 6, .mv (.s 10)⟩]) (.seq (.seq (.reg [⟨none, some 7, .mv (.c (.lit (.int .i64 0)))⟩]) (.block 0 (.loop [7, 6, 4, 2] (.seq (.seq (.reg [⟨none, some 11, .mv (.s 7)⟩, ⟨none, some 12, .mv (.s 6)⟩, ⟨none, some 13, .len (.s 12)⟩, ⟨none, some 14, .bin .lss (.s 11) (.s 13)⟩]) (.cond (.s 14) .skip (.exit 0))) (.seq (.block 1 (.seq (.reg [⟨none, some 17, .mv (.s 6)⟩, ⟨none, some 18, .mv (.s 7)⟩, ⟨none, some 19, .ia 1 (.s 17) (.s 18)⟩, ⟨none, some 20, .ld none (.s 19)⟩, ⟨none, some 21, .call 84 [.s 20]⟩, ⟨none, some 22, .un .not (.s 21)⟩]) (.cond (.s 22) (.seq (.reg [⟨none, some 23, .build [(.lit (.slice none 0 0)), (.lit (.slice none 0 0))] []⟩, ⟨none, none, .st 2 (.s 4) (.s 23)⟩, ⟨none, some 5, .mv (.c (.lit (.int .i64 8)))⟩]) .ret) .skip))) (.reg [⟨none, some 15, .mv (.s 7)⟩, ⟨none, some 16, .bin .add (.s 15) (.c (.lit (.int .i64 1)))⟩, ⟨none, some 7, .mv (.s 16)⟩])))))) (.seq (.give 6 (.reg [⟨none, some 24, .ld (some 2) (.s 2)⟩, ⟨none, some 25, .mv (.s 6)⟩, ⟨none, some 26, .call 85 [.s 24, .s 25]⟩, ⟨none, none, .st 2 (.s 4) (.s 26)⟩, ⟨none, some 5, .mv (.c (.lit (.int .i64 0)))⟩])) .ret))))⟩ := by kernel_rfl
set_option maxHeartbeats 1000000 in
theorem rCorrected_z (k : Nat) (n : Nt) (hb : BdN n) (c : List Int) (h0 : bothE n c = 0) :
    runZ MT (orA (k + 3)) (itA (k + 3)) 4000000 32 [encN n, .sl (c.map I64)] [] = some (.tup [corV n c, I64 (corE n c)], []) := by
  obtain ⟨hn, ok, okc⟩ := bothE_ok h0
  have hrl : (resL n c).length = n.cs.length := by simp [resL]
  have c16 := ok.c16
  have w1 := fun h => rRes_c (k + 2) n ok c okc.okB h (v := .sl (c.map I64)) (frz_sl (ltL_I 0 c))
  have HV := Bx.mk (show corV n c = if corE n c = 0 then encN (nW n (resL n c)) else nilN from rfl)
  have HE := Bx.mk (show corE n c = if (resL n c).any anB then 8 else 0 by unfold corE; rw [if_pos h0])
  have w4 := fun h => rWithN_c (k + 1) n hb ok.l1 (by omega) (resL n c) hrl h
  refine runZ_of mf_rCorrected (by simp) ?_
  simp only [argsL]
  generalize hR : resL n c = R at *
  repeat (first | apply ef_seq | (apply ef_mv; exact rfl; exact rfl) | (apply ef_ldp; exact rfl; exact rfl; (exact rfl); exact rfl; (exact rfl); (exact rd_2 rfl rfl)) | (apply ef_box; exact rfl; exact rfl; exact rfl; exact rfl) | (apply ef_new; exact rfl) | apply ef_nil | apply seqQ.normal | apply ef_block | (apply ef_call; exact rfl; ((repeat (apply XVs.cons; exact rfl)); exact XVs.nil); (with_reducible exact w1 _)))
  refine ef_loopf (α := Nat) (fun i => i ≤ R.length ∧ R.any anB = (R.drop i).any anB) (fun i => [(7, I64 (i : Int))]) [(6, .arr 2 0 n.cs.length 0), (4, .ptr 1 0 0 0), (2, .ptr 0 0 0 0)] (fun _ => [⟨0, false, 2, [encN n]⟩, ⟨0, false, 2, [nilN]⟩, ⟨0, decide (n.cs.length = 0), 1, R.map I64⟩]) (fun i => R.length - i) 0 [7] (fun _ => rfl) (by ((repeat (refine Hold.cons (by exact rfl) ?_)); exact Hold.nil)) (by ((repeat (refine Hold.cons (by exact rfl) ?_)); exact Hold.nil)) rfl rfl ⟨by omega, rfl⟩ (by show R.length - 0 < 4000000; omega) ?_
  rintro i ⟨hi, hz⟩
  try simp only at hi hz ⊢
  by_cases hlt : i < R.length
  · have e1 : (R.map I64)[0 + ((i : Nat) : Int).toNat]? = some (I64 R[i]) := by rw [Nat.zero_add]; exact at_map I64 R i hlt
    have HS := Bx.mk (drop_at R i hlt)
    have HZ := Bx.mk hz
    clear hz
    generalize R[i] = z at e1 HS
    obtain ⟨b, hbb⟩ : ∃ b, inB z (-10000) 10000 = b := ⟨_, rfl⟩
    have hw := fun h => IsDifference_c (k + 1) z h hbb
    have HB := Bx.mk (show anB z = !b by unfold anB; rw [hbb])
    clear hbb
    cases b
    · have e1 : corE n c = 8 := by rw [HE.out, HZ.out, HS.out, List.any_cons, HB.out]; rfl
      have e2 : corV n c = nilN := by rw [HV.out, if_neg (by rw [e1]; decide)]
      rw [e2, e1]
      clear e1 e2
      repeat (first | apply ef_seq | (apply ef_mv; exact rfl; exact rfl) | (apply ef_bin; exact rfl; exact rfl; exact rfl; (exact cmp_t rfl (by first | exact rfl | (simp only [cmpP]; omega)))) | (apply ef_len; exact rfl; exact rfl; (exact rfl)) | (apply ef_ldp; exact rfl; exact rfl; (exact rfl); exact rfl; (assumption); (exact rfl)) | (apply ef_iaa; exact rfl; exact rfl; exact rfl; (omega); (omega); (exact rfl)) | (apply ef_notF; exact rfl; exact rfl) | (apply ef_build; exact rfl; (repeat (apply XVs.cons; exact rfl)); exact XVs.nil; exact rfl; exact rfl) | (apply ef_st; exact rfl; exact rfl; exact rfl; exact rfl; exact rfl; exact rfl; (exact rfl); exact rfl) | apply ef_nil | apply seqQ.normal | apply loopQ.ret | apply ef_ret | apply seqQ.ret | apply blockQ.ret | apply ef_block | apply ef_skip | (apply ef_condt; exact rfl; (exact (rfl : true = true))) | (apply ef_call; exact rfl; ((repeat (apply XVs.cons; exact rfl)); exact XVs.nil); (with_reducible exact hw _)))
      (apply fin_res2; (· exact rfl); (· exact ⟨1, 0, 0, 0, _, _, by exact rfl, by exact rfl, rfl, rfl, rd_2 rfl rfl⟩); (· exact rfl); (· exact rfl); (· rfl))
    · repeat (first | apply ef_seq | (apply ef_mv; exact rfl; exact rfl) | (apply ef_bin; exact rfl; exact rfl; exact rfl; (first | exact cmp_t rfl (by first | exact rfl | (simp only [cmpP]; omega)) | ((with_reducible refine bin_add (wrap_of ?_ ?_)) <;> omega))) | (apply ef_len; exact rfl; exact rfl; (exact rfl)) | (apply ef_ldp; exact rfl; exact rfl; (exact rfl); exact rfl; (assumption); (exact rfl)) | (apply ef_iaa; exact rfl; exact rfl; exact rfl; (omega); (omega); (exact rfl)) | (apply ef_notT; exact rfl; exact rfl) | apply ef_nil | apply seqQ.normal | apply blockQ.normal | apply ef_block | apply ef_skip | (apply ef_condt; exact rfl; (exact (rfl : true = true))) | (apply ef_condf; exact rfl; (exact (rfl : false = false))) | (apply ef_call; exact rfl; ((repeat (apply XVs.cons; exact rfl)); exact XVs.nil); (with_reducible exact hw _)))
      (refine loopQ.normal _ _ ⟨i + 1, ⟨hlt, by rw [HZ.out, HS.out, List.any_cons, HB.out]; rfl⟩, (by first | (simp only; omega) | omega), ⟨by ((repeat (refine Hold.cons (by exact rfl) ?_)); exact Hold.nil), by ((repeat (refine Hold.cons (by exact rfl) ?_)); exact Hold.nil)⟩, .inl (Nat.le_refl _), (by first | exact List.take_length | exact rfl | exact takeF rfl rfl)⟩)
  · have e1 : corE n c = 0 := by rw [HE.out, hz, List.drop_eq_nil_of_le (by omega)]; rfl
    have e2 : corV n c = encN (nW n R) := by rw [HV.out, if_pos e1]
    rw [e2, e1]
    clear e1 e2 hz
    repeat (first | apply ef_seq | (apply ef_mv; exact rfl; exact rfl) | (apply ef_bin; exact rfl; exact rfl; exact rfl; (exact cmp_f rfl (by simp only [cmpP]; omega))) | (apply ef_len; exact rfl; exact rfl; (exact rfl)) | apply ef_nil | apply seqQ.normal | apply loopQ.exit | apply ef_exit | apply seqQ.exit | apply blockQ.here | (apply ef_condf; exact rfl; (exact (rfl : false = false))))
    refine ef_givev rfl (by exact rfl) (giveV_arr (es := R.map I64) rfl (by simp [hrl]) (ltL_I 0 _) rfl) ?_
    repeat (first | (apply ef_mv; exact rfl; exact rfl) | (apply ef_ldp; exact rfl; exact rfl; (exact rfl); exact rfl; (exact rfl); (exact rd_2 rfl rfl)) | (apply ef_st; exact rfl; exact rfl; exact rfl; exact rfl; exact rfl; exact rfl; (exact rfl); exact rfl) | apply ef_nil | apply seqQ.normal | apply ef_ret | (apply ef_call; exact rfl; ((repeat (apply XVs.cons; exact rfl)); exact XVs.nil); (with_reducible exact w4 _)))
    (apply fin_res2; (· exact rfl); (· exact ⟨1, 0, 0, 0, _, _, by exact rfl, by exact rfl, rfl, rfl, rd_2 rfl rfl⟩); (· exact rfl); (· exact ltL_N _ 0); (· rfl))
theorem rCorrected_c (k : Nat) (n : Nt) (hb : BdN n) (c : List Int) (h0 : bothE n c = 0) (h : MHeap) :
    orA (k + 4) 32 [encN n, .sl (c.map I64)] h = some (.tup [corV n c, I64 (corE n c)], h) := by
  have := callA (k := k + 3) (h := h) (frzL_lt (ms := [encN n, .sl (c.map I64)]) (by simp [ltL, MV.lt, ltL_Ln, ltL_Cr, ltL_I])) rfl (rCorrected_z k n hb c h0) (by unfold corV; split <;> simp [okV, ok1, MV.lt, ltL, ltL_Ln, ltL_Cr, ltL_I]) rfl
  by_cases e : corE n c = 0
  · have e2 : corV n c = encN (nW n (resL n c)) := by unfold corV; rw [if_pos e]
    rw [e2] at this ⊢
    simpa [shV, sh1] using this
  · have e2 : corV n c = nilN := by unfold corV; rw [if_neg e]
    rw [e2] at this ⊢
    simpa [shV, sh1] using this
theorem mf_Same : MT.mf 31 = some ⟨59, [(.tmp 4)], (.seq (.reg [⟨none, some 2, .box 2 (.s 0)⟩, ⟨none, some 3, .box 2 (.s 1)⟩, ⟨none, some 4, .mv (.c (.lit (.bool false)))⟩]) (.seq (.seq (.reg [⟨none, some 7, .fa 0 (.s 2)⟩, ⟨none, some 8, .ld none (.s 7)⟩, ⟨none, some 9, .len (.s 8)⟩, ⟨none, some 10, .fa 0 (.s 3)⟩, ⟨none, some 11, .ld none (.s 10)⟩, ⟨none, some 12, .len (.s 11)⟩, ⟨none, some 13, .bin .neq (.s 9) (.s 12)⟩, ⟨none, some 14, .mv (.s 13)⟩, ⟨some (14, false), some 15, .fa 1 (.s 2)⟩, ⟨some (14, false), some 16, .ld none (.s 15)⟩, ⟨some (14, false), some 17, .len (.s 16)⟩, ⟨some (14, false), some 18, .fa 1 (.s 3)⟩, ⟨some (14, false), some 19, .ld none (.s 18)⟩, ⟨some (14, false), some 20, .len (.s 19)⟩, ⟨some (14, false), some 21, .bin .neq (.s 17) (.s 20)⟩, ⟨none, some 22, .pick (.s 14) (.c (.lit (.bool true))) (.s 21)⟩]) (.cond (.s 22) (.seq (.reg [⟨none, some 4, .mv (.c (.lit (.bool false)))⟩]) .ret) .skip)) (.seq (.seq (.reg [⟨none, some 5, .mv (.c (.lit (.int .i64 0)))⟩]) (.block 0 (.loop [5, 2, 3] (.seq (.seq (.reg [⟨none, some 23, .mv (.s 5)⟩, ⟨none, some 24, .fa 0 (.s 2)⟩, ⟨none, some 25, .ld none (.s 24)⟩, ⟨none, some 26, .len (.s 25)⟩, ⟨none, some 27, .bin .lss (.s 23) (.s 26)⟩]) (.cond (.s 27) .skip (.exit 0))) (.seq (.block 1 (.seq (.reg [⟨none, some 30, .fa 0 (.s 2)⟩, ⟨none, some 31, .ld none (.s 30)⟩, ⟨none, some 32, .mv (.s 5)⟩, ⟨none, some 33, .ia 2 (.s 31) (.s 32)⟩, ⟨none, some 34, .ld (some 2) (.s 33)⟩, ⟨none, some 35, .fa 0 (.s 3)⟩, ⟨none, some 36, .ld none (.s 35)⟩, ⟨none, some 37, .mv (.s 5)⟩, ⟨none, some 38, .ia 2 (.s 36) (.s 37)⟩, ⟨none, some 39, .ld (some 2) (.s 38)⟩, ⟨none, some 40, .eqa 1025 true (.s 34) (.s 39)⟩]) (.cond (.s 40) (.seq (.reg [⟨none, some 4, .mv (.c (.lit (.bool false)))⟩]) .ret) .skip))) (.reg [⟨none, some 28, .mv (.s 5)⟩, ⟨none, some 29, .bin .add (.s 28) (.c (.lit (.int .i64 1)))⟩, ⟨none, some 5, .mv (.s 29)⟩])))))) (.seq (.seq (.reg [⟨none, some 6, .mv (.c (.lit (.int .i64 0)))⟩]) (.block 2 (.loop [6, 2, 3] (.seq (.seq (.reg [⟨none, some 41, .mv (.s 6)⟩, ⟨none, some 42, .fa 1 (.s 2)⟩, ⟨none, some 43, .ld none (.s 42)⟩, ⟨none, some 44, .len (.s 43)⟩, ⟨none, some 45, .bin .lss (.s 41) (.s 44)⟩]) (.cond (.s 45) .skip (.exit 2))) (.seq (.block 3 (.seq (.reg [⟨none, some 48, .fa 1 (.s 2)⟩, ⟨none, some 49, .ld none (.s 48)⟩, ⟨none, some 50, .mv (.s 6)⟩, ⟨none, some 51, .ia 6 (.s 49) (.s 50)⟩, ⟨none, some 52, .ld (some 6) (.s 51)⟩, ⟨none, some 53, .fa 1 (.s 3)⟩, ⟨none, some 54, .ld none (.s 53)⟩, ⟨none, some 55, .mv (.s 6)⟩, ⟨none, some 56, .ia 6 (.s 54) (.s 55)⟩, ⟨none, some 57, .ld (some 6) (.s 56)⟩, ⟨none, some 58, .eqa 6 true (.s 52) (.s 57)⟩]) (.cond (.s 58) (.seq (.reg [⟨none, some 4, .mv (.c (.lit (.bool false)))⟩]) .ret) .skip))) (.reg [⟨none, some 46, .mv (.s 6)⟩, ⟨none, some 47, .bin .add (.s 46) (.c (.lit (.int .i64 1)))⟩, ⟨none, some 6, .mv (.s 47)⟩])))))) (.seq (.reg [⟨none, some 4, .mv (.c (.lit (.bool true)))⟩]) .ret)))))⟩ := by kernel_rfl
set_option maxHeartbeats 1000000 in
theorem Same_z (k : Nat) (n : Nt) (h1 : n.ls.length ≤ 1000) (h2 : n.cs.length ≤ 1000) : runZ MT (orA k) (itA k) 4000000 31 [encN n, encN n] [] = some (Bo true, []) := by
  have hs1 : (MV.sl (n.ls.map encLn)).slen = some n.ls.length := by simp [MV.slen]
  have hs2 : (MV.sl (n.cs.map encCr)).slen = some n.cs.length := by simp [MV.slen]
  have q1 : ((n.ls.length : Int) != (n.ls.length : Int)) = false := by simp
  have q2 : ((n.cs.length : Int) != (n.cs.length : Int)) = false := by simp
  refine runZ_of mf_Same (by simp) ?_
  simp only [argsL]
  repeat (first | apply ef_seq | (apply ef_mv; exact rfl; exact rfl) | (apply ef_bin; exact rfl; exact rfl; exact rfl; (exact cmp_f rfl (by simp only [cmpP]; omega))) | (apply ef_gy; exact rfl; (exact (rfl : false = false))) | (apply ef_pick; exact rfl; exact rfl; exact rfl) | (apply ef_len; exact rfl; exact rfl; (assumption)) | (apply ef_ldp; exact rfl; exact rfl; (exact rfl); exact rfl; (exact rfl); (exact rfl)) | (apply ef_fap; exact rfl; exact rfl) | (apply ef_box; exact rfl; exact rfl; exact rfl; exact rfl) | apply ef_nil | apply seqQ.normal | apply ef_block | apply ef_skip | (apply ef_condf; exact rfl; (exact (rfl : false = false))))
  refine ef_loopf (α := Nat) (fun i => i ≤ n.ls.length) (fun i => [(5, I64 (i : Int))]) [(2, .ptr 0 0 0 0), (3, .ptr 1 0 0 0)] (fun _ => [⟨0, false, 2, [encN n]⟩, ⟨0, false, 2, [encN n]⟩]) (fun i => n.ls.length - i) 0 [5] (fun _ => rfl) (by ((repeat (refine Hold.cons (by exact rfl) ?_)); exact Hold.nil)) (by ((repeat (refine Hold.cons (by exact rfl) ?_)); exact Hold.nil)) rfl rfl (Nat.zero_le _) (by show n.ls.length - 0 < 4000000; omega) ?_
  intro i hi
  try simp only at hi ⊢
  by_cases hlt : i < n.ls.length
  · have e1 := at_map encLn n.ls i hlt
    generalize n.ls[i] = l at e1
    have hbb : (l.1 == l.1) = true := by rw [beq_toListBytes]; simp
    have hne : negIf true (l.1 == l.1 && (l.2 == l.2 && true)) = false := by rw [hbb]; simp [negIf]
    clear hbb
    repeat (first | apply ef_seq | (apply ef_mv; exact rfl; exact rfl) | (apply ef_bin; exact rfl; exact rfl; exact rfl; (first | exact cmp_t rfl (by first | exact rfl | (simp only [cmpP]; omega)) | ((with_reducible refine bin_add (wrap_of ?_ ?_)) <;> omega))) | (apply ef_len; exact rfl; exact rfl; (assumption)) | (apply ef_ldr; exact rfl; exact rfl; (exact rd_2 rfl rfl)) | (apply ef_ldp; exact rfl; exact rfl; (exact rfl); exact rfl; (exact rfl); (exact rfl)) | (apply ef_ias; exact rfl; exact rfl; exact rfl; (omega); assumption; exact rfl) | (apply ef_fap; exact rfl; exact rfl) | (apply ef_eqa; exact rfl; exact rfl; exact rfl; exact rfl) | apply ef_nil | apply seqQ.normal | apply blockQ.normal | apply ef_block | apply ef_skip | (apply ef_condt; exact rfl; (exact (rfl : true = true))) | (apply ef_condf; exact rfl; (assumption)))
    (refine loopQ.normal _ _ ⟨i + 1, hlt, (by first | (simp only; omega) | omega), ⟨by ((repeat (refine Hold.cons (by exact rfl) ?_)); exact Hold.nil), by ((repeat (refine Hold.cons (by exact rfl) ?_)); exact Hold.nil)⟩, .inl (Nat.le_refl _), (by first | exact List.take_length | exact rfl | exact takeF rfl rfl)⟩)
  · repeat (first | apply ef_seq | (apply ef_mv; exact rfl; exact rfl) | (apply ef_bin; exact rfl; exact rfl; exact rfl; (exact cmp_f rfl (by simp only [cmpP]; omega))) | (apply ef_len; exact rfl; exact rfl; (assumption)) | (apply ef_ldp; exact rfl; exact rfl; (exact rfl); exact rfl; (exact rfl); (exact rfl)) | (apply ef_fap; exact rfl; exact rfl) | apply ef_nil | apply seqQ.normal | apply loopQ.exit | apply ef_exit | apply seqQ.exit | apply blockQ.here | apply ef_block | (apply ef_condf; exact rfl; (exact (rfl : false = false))))
    refine ef_loopf (α := Nat) (fun i => i ≤ n.cs.length) (fun i => [(6, I64 (i : Int))]) [(2, .ptr 0 0 0 0), (3, .ptr 1 0 0 0)] (fun _ => [⟨0, false, 2, [encN n]⟩, ⟨0, false, 2, [encN n]⟩]) (fun i => n.cs.length - i) 0 [6] (fun _ => rfl) (by ((repeat (refine Hold.cons (by exact rfl) ?_)); exact Hold.nil)) (by ((repeat (refine Hold.cons (by exact rfl) ?_)); exact Hold.nil)) rfl rfl (Nat.zero_le _) (by show n.cs.length - 0 < 4000000; omega) ?_
    intro i hi
    try simp only at hi ⊢
    by_cases hlt : i < n.cs.length
    · have e1 := at_map encCr n.cs i hlt
      generalize n.cs[i] = x at e1
      have hne : negIf true (x.ln == x.ln && (x.ti == x.ti && (x.pa == x.pa && (x.pt == x.pt && (x.df == x.df && (x.wt == x.wt && true)))))) = false := by simp [negIf]
      repeat (first | apply ef_seq | (apply ef_mv; exact rfl; exact rfl) | (apply ef_bin; exact rfl; exact rfl; exact rfl; (first | exact cmp_t rfl (by first | exact rfl | (simp only [cmpP]; omega)) | ((with_reducible refine bin_add (wrap_of ?_ ?_)) <;> omega))) | (apply ef_len; exact rfl; exact rfl; (assumption)) | (apply ef_ldr; exact rfl; exact rfl; (exact rd_6 rfl rfl rfl rfl rfl rfl)) | (apply ef_ldp; exact rfl; exact rfl; (exact rfl); exact rfl; (exact rfl); (exact rfl)) | (apply ef_ias; exact rfl; exact rfl; exact rfl; (omega); assumption; exact rfl) | (apply ef_fap; exact rfl; exact rfl) | (apply ef_eqa; exact rfl; exact rfl; exact rfl; exact rfl) | apply ef_nil | apply seqQ.normal | apply blockQ.normal | apply ef_block | apply ef_skip | (apply ef_condt; exact rfl; (exact (rfl : true = true))) | (apply ef_condf; exact rfl; (assumption)))
      (refine loopQ.normal _ _ ⟨i + 1, hlt, (by first | (simp only; omega) | omega), ⟨by ((repeat (refine Hold.cons (by exact rfl) ?_)); exact Hold.nil), by ((repeat (refine Hold.cons (by exact rfl) ?_)); exact Hold.nil)⟩, .inl (Nat.le_refl _), (by first | exact List.take_length | exact rfl | exact takeF rfl rfl)⟩)
    · repeat (first | apply ef_seq | (apply ef_mv; exact rfl; exact rfl) | (apply ef_bin; exact rfl; exact rfl; exact rfl; (exact cmp_f rfl (by simp only [cmpP]; omega))) | (apply ef_len; exact rfl; exact rfl; (assumption)) | (apply ef_ldp; exact rfl; exact rfl; (exact rfl); exact rfl; (exact rfl); (exact rfl)) | (apply ef_fap; exact rfl; exact rfl) | apply ef_nil | apply seqQ.normal | apply loopQ.exit | apply ef_ret | apply ef_exit | apply seqQ.exit | apply blockQ.here | (apply ef_condf; exact rfl; (exact (rfl : false = false))))
      (refine fin1 rfl (by exact rfl) rfl ?_)
      rfl
theorem Same_c (k : Nat) (n : Nt) (h1 : n.ls.length ≤ 1000) (h2 : n.cs.length ≤ 1000) (h : MHeap) : orA (k + 1) 31 [encN n, encN n] h = some (Bo true, h) :=
  callL (args' := [encN n, encN n]) (frzL_lt (by simp [ltL, MV.lt, ltL_Ln, ltL_Cr])) rfl (Same_z k n h1 h2)
theorem Same_nil (k : Nat) (h : MHeap) : orA (k + 1) 31 [nilN, nilN] h = some (Bo true, h) := by
  refine callL (args' := [nilN, nilN]) (frzL_lt rfl) rfl (runZ_of mf_Same (by simp) ?_)
  simp only [argsL]
  repeat (first | apply ef_seq | (apply ef_mv; exact rfl; exact rfl) | (apply ef_bin; exact rfl; exact rfl; exact rfl; (exact cmp_f rfl (by simp only [cmpP]; omega))) | (apply ef_gy; exact rfl; (exact (rfl : false = false))) | (apply ef_pick; exact rfl; exact rfl; exact rfl) | (apply ef_len; exact rfl; exact rfl; (exact rfl)) | (apply ef_ldp; exact rfl; exact rfl; (exact rfl); exact rfl; (exact rfl); (exact rfl)) | (apply ef_fap; exact rfl; exact rfl) | (apply ef_box; exact rfl; exact rfl; exact rfl; exact rfl) | apply ef_nil | apply seqQ.normal | apply ef_block | apply ef_skip | (apply ef_condf; exact rfl; (exact (rfl : false = false))))
  refine ef_loop (α := Unit) (fun _ => True) (fun _ => [(5, I64 0), (2, .ptr 0 0 0 0), (3, .ptr 1 0 0 0)]) (fun _ => [⟨0, false, 2, [nilN]⟩, ⟨0, false, 2, [nilN]⟩]) (fun _ => 0) () [5, 2, 3] (fun _ => rfl) rfl trivial (by simp) (by ((repeat (refine Hold.cons (by exact rfl) ?_)); exact Hold.nil)) rfl ?_
  rintro ⟨⟩ -
  repeat (first | apply ef_seq | (apply ef_mv; exact rfl; exact rfl) | (apply ef_bin; exact rfl; exact rfl; exact rfl; (exact cmp_f rfl (by simp only [cmpP]; omega))) | (apply ef_len; exact rfl; exact rfl; (exact rfl)) | (apply ef_ldp; exact rfl; exact rfl; (exact rfl); exact rfl; (exact rfl); (exact rfl)) | (apply ef_fap; exact rfl; exact rfl) | apply ef_nil | apply seqQ.normal | apply loopQ.exit | apply ef_exit | apply seqQ.exit | apply blockQ.here | apply ef_block | (apply ef_condf; exact rfl; (exact (rfl : false = false))))
  refine ef_loop (α := Unit) (fun _ => True) (fun _ => [(6, I64 0), (2, .ptr 0 0 0 0), (3, .ptr 1 0 0 0)]) (fun _ => [⟨0, false, 2, [nilN]⟩, ⟨0, false, 2, [nilN]⟩]) (fun _ => 0) () [6, 2, 3] (fun _ => rfl) rfl trivial (by simp) (by ((repeat (refine Hold.cons (by exact rfl) ?_)); exact Hold.nil)) rfl ?_
  rintro ⟨⟩ -
  repeat (first | apply ef_seq | (apply ef_mv; exact rfl; exact rfl) | (apply ef_bin; exact rfl; exact rfl; exact rfl; (exact cmp_f rfl (by simp only [cmpP]; omega))) | (apply ef_len; exact rfl; exact rfl; (exact rfl)) | (apply ef_ldp; exact rfl; exact rfl; (exact rfl); exact rfl; (exact rfl); (exact rfl)) | (apply ef_fap; exact rfl; exact rfl) | apply ef_nil | apply seqQ.normal | apply loopQ.exit | apply ef_ret | apply ef_exit | apply seqQ.exit | apply blockQ.here | (apply ef_condf; exact rfl; (exact (rfl : false = false))))
  (refine fin1 rfl (by exact rfl) rfl ?_)
  rfl
end Go.Proofs.YtbdleggmdbihnaaGreat

/- Contracts: which flows are accepted, and their values; the program, and the document. -/
namespace Go.Proofs.YtbdleggmdbihnaaGreat
open Go.RowKit
set_option linter.unusedVariables false
set_option linter.unusedSimpArgs false
end Go.Proofs.YtbdleggmdbihnaaGreat

/- Contracts of the document: the error and the value of a flow. -/
namespace Go.Proofs.YtbdleggmdbihnaaGreat
open Go.RowKit
set_option linter.unusedVariables false
set_option linter.unusedSimpArgs false
end Go.Proofs.YtbdleggmdbihnaaGreat

/- Contracts: the misclosure of a walk; the program, and the document. -/
namespace Go.Proofs.YtbdleggmdbihnaaGreat
open Go.RowKit
set_option linter.unusedVariables false
set_option linter.unusedSimpArgs false
end Go.Proofs.YtbdleggmdbihnaaGreat

/- What is kept of an anomaly: its bounds, walks, corrections' own differences; without a program. -/
namespace Go.Proofs.YtbdleggmdbihnaaGreat
set_option linter.unusedVariables false
set_option linter.unusedSimpArgs false
theorem net_lines {n : Nt} (h : (netF n).2 = 0) : (scanE lineE [] n.ls).2 = 0 := by
  obtain ⟨q1, q2, q3⟩ := netF_pos h
  unfold netF at h
  rw [if_neg (by omega), if_neg (by omega)] at h
  split at h
  · assumption
  · exact h
end Go.Proofs.YtbdleggmdbihnaaGreat

/- LevelNets: the walk. -/
namespace Go.Proofs.YtbdleggmdbihnaaGreat
open Go.RowKit
set_option linter.unusedVariables false
set_option linter.unusedSimpArgs false
abbrev LC : List Nat := [11, 20]
theorem Copy_cd (k : Nat) (n : Nt) (hb : BdN n) (h : MHeap) : orC LC k 11 [encN n] h = some (encN n, h) :=
  orC_frz (args' := [encN n]) rfl (frzL_lt (by simp [ltL, MV.lt, ltL_Ln, ltL_Cr])) rfl (Copy_z k n hb) (frz_cp n.ls n.cs) (by simp [okV, ok1, MV.lt, ltL, ltL_Ln, ltL_Cr]) rfl
theorem CopyInts_cd (k : Nat) (c : List Int) (hc : c.length ≤ 1000000) (h : MHeap) : orC LC k 20 [.sl (c.map I64)] h = some (.sl (c.map I64), h) :=
  orC_frz (args' := [.sl (c.map I64)]) rfl (frzL_lt (by simp [ltL, MV.lt, ltL_I])) rfl (bCopyInts_z k c hc) (frz_row (o := ⟨0, false, 1, c.map I64⟩) rfl rfl (by simp) (ltL_I 0 c) rfl) (by simp [okV, ok1, MV.lt, ltL, ltL_I]) rfl
theorem net_ok1 {n : Nt} (h : (netF n).2 = 0) : netF n = (0, 0) := by
  obtain ⟨q1, q2, q3⟩ := netF_pos h
  have hl := net_lines h
  have e : netF n = scanE (crossE n.ls) [] n.cs := by
    unfold netF
    rw [if_neg (by omega), if_neg (by omega), if_pos hl]
  rw [e] at h ⊢
  exact (scanE_ok h).1
theorem mf_LevelNets : MT.mf 5 = some ⟨139, [(.tmp 4)], (.seq (.reg [⟨none, some 2, .box 2 (.s 0)⟩, ⟨none, some 4, .mv (.c (.lit (.bool false)))⟩]) (.seq (.seq (.reg [⟨none, some 16, .call 7 []⟩, ⟨none, some 17, .un .not (.s 16)⟩]) (.cond (.s 17) (.seq (.reg [⟨none, some 4, .mv (.c (.lit (.bool false)))⟩]) .ret) .skip)) (.seq (.seq (.reg [⟨none, some 18, .ld (some 2) (.s 2)⟩, ⟨none, some 19, .call 8 [.s 18]⟩, ⟨none, some 20, .un .not (.s 19)⟩, ⟨none, some 21, .mv (.s 20)⟩, ⟨some (21, false), some 22, .mv (.s 1)⟩, ⟨some (21, false), some 23, .call 18 [.s 22]⟩, ⟨some (21, false), some 24, .un .not (.s 23)⟩, ⟨none, some 25, .pick (.s 21) (.c (.lit (.bool true))) (.s 24)⟩]) (.cond (.s 25) (.seq (.reg [⟨none, some 4, .mv (.c (.lit (.bool true)))⟩]) .ret) .skip)) (.seq (.reg [⟨none, some 27, .ld (some 2) (.s 2)⟩, ⟨none, some 28, .call 11 [.s 27]⟩, ⟨none, some 29, .call 25 [.s 28]⟩, ⟨none, some 26, .mv (.s 29)⟩, ⟨none, some 30, .ext (.s 26) 0⟩, ⟨none, some 31, .ext (.s 26) 1⟩, ⟨none, some 5, .mv (.s 30)⟩, ⟨none, some 6, .mv (.s 31)⟩]) (.seq (.reg [⟨none, some 33, .ld (some 2) (.s 2)⟩, ⟨none, some 34, .call 11 [.s 33]⟩, ⟨none, some 35, .mv (.s 1)⟩, ⟨none, some 36, .call 20 [.s 35]⟩, ⟨none, some 37, .call 26 [.s 34, .s 36]⟩, ⟨none, some 32, .mv (.s 37)⟩, ⟨none, some 38, .ext (.s 32) 0⟩, ⟨none, some 39, .ext (.s 32) 1⟩, ⟨none, some 7, .mv (.s 38)⟩, ⟨none, some 8, .mv (.s 39)⟩]) (.seq (.reg [⟨none, some 41, .ld (some 2) (.s 2)⟩, ⟨none, some 42, .call 11 [.s 41]⟩, ⟨none, some 43, .mv (.s 1)⟩, ⟨none, some 44, .call 20 [.s 43]⟩, ⟨none, some 45, .call 27 [.s 42, .s 44]⟩, ⟨none, some 40, .mv (.s 45)⟩, ⟨none, some 46, .ext (.s 40) 0⟩, ⟨none, some 47, .ext (.s 40) 1⟩, ⟨none, some 9, .mv (.s 46)⟩, ⟨none, some 10, .mv (.s 47)⟩]) (.seq (.reg [⟨none, some 49, .ld (some 2) (.s 2)⟩, ⟨none, some 50, .call 11 [.s 49]⟩, ⟨none, some 51, .mv (.s 1)⟩, ⟨none, some 52, .call 20 [.s 51]⟩, ⟨none, some 53, .call 28 [.s 50, .s 52]⟩, ⟨none, some 48, .mv (.s 53)⟩, ⟨none, some 54, .ext (.s 48) 0⟩, ⟨none, some 55, .ext (.s 48) 1⟩, ⟨none, some 11, .new (.agg [(.lit (.slice none 0 0)), (.lit (.slice none 0 0))])⟩, ⟨none, none, .st 2 (.s 11) (.s 54)⟩, ⟨none, some 12, .mv (.s 55)⟩]) (.seq (.reg [⟨none, some 57, .ld (some 2) (.s 2)⟩, ⟨none, some 58, .call 29 [.s 57]⟩, ⟨none, some 56, .mv (.s 58)⟩, ⟨none, some 59, .ext (.s 56) 0⟩, ⟨none, some 60, .ext (.s 56) 1⟩, ⟨none, some 13, .mv (.s 59)⟩, ⟨none, some 14, .mv (.s 60)⟩]) (.seq (.seq (.reg [⟨none, some 61, .mv (.s 6)⟩, ⟨none, some 62, .mv (.s 14)⟩, ⟨none, some 63, .bin .neq (.s 61) (.s 62)⟩, ⟨none, some 64, .mv (.s 63)⟩, ⟨some (64, false), some 65, .mv (.s 5)⟩, ⟨some (64, false), some 66, .mv (.s 13)⟩, ⟨some (64, false), some 67, .bin .neq (.s 65) (.s 66)⟩, ⟨none, some 68, .pick (.s 64) (.c (.lit (.bool true))) (.s 67)⟩]) (.cond (.s 68) (.seq (.reg [⟨none, some 4, .mv (.c (.lit (.bool false)))⟩]) .ret) .skip)) (.seq (.seq (.reg [⟨none, some 69, .mv (.s 14)⟩, ⟨none, some 70, .bin .eql (.s 69) (.c (.lit (.int .i64 0)))⟩]) (.cond (.s 70) (.reg [⟨none, some 71, .ld (some 2) (.s 2)⟩, ⟨none, some 72, .mv (.s 1)⟩, ⟨none, some 73, .call 30 [.s 71, .s 72]⟩, ⟨none, some 14, .mv (.s 73)⟩]) .skip)) (.seq (.seq (.reg [⟨none, some 74, .mv (.s 14)⟩, ⟨none, some 75, .bin .neq (.s 74) (.c (.lit (.int .i64 0)))⟩]) (.cond (.s 75) (.seq (.reg [⟨none, some 76, .mv (.s 8)⟩, ⟨none, some 77, .mv (.s 14)⟩, ⟨none, some 78, .bin .eql (.s 76) (.s 77)⟩, ⟨none, some 79, .mv (.s 78)⟩, ⟨some (79, true), some 80, .mv (.s 10)⟩, ⟨some (79, true), some 81, .mv (.s 14)⟩, ⟨some (79, true), some 82, .bin .eql (.s 80) (.s 81)⟩, ⟨none, some 83, .pick (.s 79) (.s 82) (.c (.lit (.bool false)))⟩, ⟨none, some 84, .mv (.s 83)⟩, ⟨some (84, true), some 85, .mv (.s 12)⟩, ⟨some (84, true), some 86, .mv (.s 14)⟩, ⟨some (84, true), some 87, .bin .eql (.s 85) (.s 86)⟩, ⟨none, some 88, .pick (.s 84) (.s 87) (.c (.lit (.bool false)))⟩, ⟨none, some 89, .mv (.s 88)⟩, ⟨some (89, true), some 90, .mv (.s 7)⟩, ⟨some (89, true), some 91, .len (.s 90)⟩, ⟨some (89, true), some 92, .bin .eql (.s 91) (.c (.lit (.int .i64 0)))⟩, ⟨none, some 93, .pick (.s 89) (.s 92) (.c (.lit (.bool false)))⟩, ⟨none, some 94, .mv (.s 93)⟩, ⟨some (94, true), some 95, .mv (.s 9)⟩, ⟨some (94, true), some 96, .bin .eql (.s 95) (.c (.lit (.int .i64 0)))⟩, ⟨none, some 97, .pick (.s 94) (.s 96) (.c (.lit (.bool false)))⟩, ⟨none, some 98, .mv (.s 97)⟩, ⟨some (98, true), some 99, .ld (some 2) (.s 11)⟩, ⟨some (98, true), some 100, .build [(.lit (.slice none 0 0)), (.lit (.slice none 0 0))] []⟩, ⟨some (98, true), some 101, .call 31 [.s 99, .s 100]⟩, ⟨none, some 102, .pick (.s 98) (.s 101) (.c (.lit (.bool false)))⟩, ⟨none, some 4, .mv (.s 102)⟩]) .ret) .skip)) (.seq (.reg [⟨none, some 104, .ld (some 2) (.s 2)⟩, ⟨none, some 105, .mv (.s 1)⟩, ⟨none, some 106, .call 32 [.s 104, .s 105]⟩, ⟨none, some 103, .mv (.s 106)⟩, ⟨none, some 107, .ext (.s 103) 0⟩, ⟨none, some 108, .ext (.s 103) 1⟩, ⟨none, some 15, .new (.agg [(.lit (.slice none 0 0)), (.lit (.slice none 0 0))])⟩, ⟨none, none, .st 2 (.s 15) (.s 107)⟩, ⟨none, some 14, .mv (.s 108)⟩]) (.seq (.reg [⟨none, some 109, .mv (.s 8)⟩, ⟨none, some 110, .bin .eql (.s 109) (.c (.lit (.int .i64 0)))⟩, ⟨none, some 111, .mv (.s 110)⟩, ⟨some (111, true), some 112, .mv (.s 7)⟩, ⟨some (111, true), some 113, .ld (some 2) (.s 2)⟩, ⟨some (111, true), some 114, .mv (.s 1)⟩, ⟨some (111, true), some 115, .call 33 [.s 113, .s 114]⟩, ⟨some (111, true), some 116, .call 15 [.s 112, .s 115]⟩, ⟨none, some 117, .pick (.s 111) (.s 116) (.c (.lit (.bool false)))⟩, ⟨none, some 118, .mv (.s 117)⟩, ⟨some (118, true), some 119, .mv (.s 10)⟩, ⟨some (118, true), some 120, .bin .eql (.s 119) (.c (.lit (.int .i64 0)))⟩, ⟨none, some 121, .pick (.s 118) (.s 120) (.c (.lit (.bool false)))⟩, ⟨none, some 122, .mv (.s 121)⟩, ⟨some (122, true), some 123, .mv (.s 9)⟩, ⟨some (122, true), some 124, .ld (some 2) (.s 2)⟩, ⟨some (122, true), some 125, .mv (.s 1)⟩, ⟨some (122, true), some 126, .call 34 [.s 124, .s 125]⟩, ⟨some (122, true), some 127, .bin .eql (.s 123) (.s 126)⟩, ⟨none, some 128, .pick (.s 122) (.s 127) (.c (.lit (.bool false)))⟩, ⟨none, some 129, .mv (.s 128)⟩, ⟨some (129, true), some 130, .mv (.s 12)⟩, ⟨some (129, true), some 131, .mv (.s 14)⟩, ⟨some (129, true), some 132, .bin .eql (.s 130) (.s 131)⟩, ⟨none, some 133, .pick (.s 129) (.s 132) (.c (.lit (.bool false)))⟩, ⟨none, some 134, .mv (.s 133)⟩, ⟨some (134, true), some 135, .ld (some 2) (.s 11)⟩, ⟨some (134, true), some 136, .ld (some 2) (.s 15)⟩, ⟨some (134, true), some 137, .call 31 [.s 135, .s 136]⟩, ⟨none, some 138, .pick (.s 134) (.s 137) (.c (.lit (.bool false)))⟩, ⟨none, some 4, .mv (.s 138)⟩]) .ret)))))))))))))⟩ := by kernel_rfl
set_option maxHeartbeats 8000000 in
theorem LevelNets_z (n : Nt) (c : List Int) (m1 : n.ls.length ≤ 9223372036854775807) (m2 : n.cs.length ≤ 9223372036854775807) (m3 : c.length ≤ 9223372036854775807) :
    runZ MT (orC LC 13) (itA 14) 4000000 5 [encN n, .sl (c.map I64)] [] = some (Bo true, []) := by
  refine runZ_of mf_LevelNets (by simp) ?_
  simp only [argsL]
  have w0 : ∀ h, orC LC 13 7 [] h = some (Bo true, h) := fun h => orC_of rfl (awake_c h)
  have w1 : ∀ h, orC LC 13 8 [encN n] h = _ := fun h => orC_of rfl (Few_c 13 n m1 m2 h)
  cases hf : fewNt n
  · rw [hf] at w1
    repeat (first | apply ef_seq | (apply ef_mv; exact rfl; exact rfl) | (apply ef_gn; exact rfl; (exact (rfl : true = true)); exact rfl) | (apply ef_pick; exact rfl; exact rfl; exact rfl) | (apply ef_ldp; exact rfl; exact rfl; (exact rfl); exact rfl; (exact rfl); (exact rd_2 rfl rfl)) | (apply ef_notT; exact rfl; exact rfl) | (apply ef_notF; exact rfl; exact rfl) | (apply ef_box; exact rfl; exact rfl; exact rfl; exact rfl) | apply ef_nil | apply seqQ.normal | apply ef_ret | apply seqQ.ret | apply ef_skip | (apply ef_condt; exact rfl; (exact (rfl : true = true))) | (apply ef_condf; exact rfl; (exact (rfl : false = false))) | (apply ef_call; exact rfl; ((repeat (apply XVs.cons; exact rfl)); exact XVs.nil); (with_reducible first | exact w0 _ | exact w1 _)))
    (refine fin1 rfl (by exact rfl) rfl ?_)
    rfl
  obtain ⟨hb, n10, n18⟩ := fewNt_bd hf
  rw [hf] at w1
  have w3 : ∀ h, orC LC 13 18 [.sl (c.map I64)] h = _ := fun h => orC_of rfl (fewNumbers_c 13 c m3 h)
  by_cases hd1 : c.length ≤ 40
  rotate_left
  · rw [decide_eq_false hd1] at w3
    repeat (first | apply ef_seq | (apply ef_mv; exact rfl; exact rfl) | (apply ef_gy; exact rfl; (exact (rfl : false = false))) | (apply ef_pick; exact rfl; exact rfl; exact rfl) | (apply ef_ldp; exact rfl; exact rfl; (exact rfl); exact rfl; (exact rfl); (exact rd_2 rfl rfl)) | (apply ef_notT; exact rfl; exact rfl) | (apply ef_notF; exact rfl; exact rfl) | (apply ef_box; exact rfl; exact rfl; exact rfl; exact rfl) | apply ef_nil | apply seqQ.normal | apply ef_ret | apply seqQ.ret | apply ef_skip | (apply ef_condt; exact rfl; (exact (rfl : true = true))) | (apply ef_condf; exact rfl; (exact (rfl : false = false))) | (apply ef_call; exact rfl; ((repeat (apply XVs.cons; exact rfl)); exact XVs.nil); (with_reducible first | exact w0 _ | exact w1 _ | exact w3 _)))
    (refine fin1 rfl (by exact rfl) rfl ?_)
    rfl
  rw [decide_eq_true hd1] at w3
  have w4 := fun h => Copy_cd 13 n hb h
  have w5 := fun h => CopyInts_cd 13 c (by omega) h
  have w6 : ∀ h, orC LC 13 25 [encN n] h = _ := fun h => orC_of rfl (CheckNet_c 9 n hb h)
  have w7 : ∀ h, orC LC 13 29 [encN n] h = _ := fun h => orC_of rfl (rCheckNet_c 11 n hb h)
  have w8 : ∀ h, orC LC 13 27 [encN n, .sl (c.map I64)] h = _ := fun h => orC_of rfl (CostOf_c 6 n hb c (by omega) h (frz_sl (ltL_I 0 c)))
  have w9 : ∀ h, orC LC 13 28 [encN n, .sl (c.map I64)] h = _ := fun h => orC_of rfl (Corrected_c 6 n hb c (by omega) h (by simp [ltL, MV.lt, ltL_Ln, ltL_Cr, ltL_I]))
  by_cases h0 : bothE n c = 0
  · obtain ⟨hn, ok, okc⟩ := bothE_ok h0
    have hcr : corrE n.ls.length c = 0 := by unfold bothE at h0; rwa [if_pos hn] at h0
    have hrl : (resL n c).length = n.cs.length := by simp [resL]
    have c16 := ok.c16
    have w10 : ∀ h, orC LC 13 26 [encN n, .sl (c.map I64)] h = _ := fun h => orC_of rfl (ResidualsOf_c 6 n hb c (by omega) h0 h (frz_sl (ltL_I 0 c)))
    have w11 : ∀ h, orC LC 13 30 [encN n, .sl (c.map I64)] h = _ := fun h => orC_of rfl (rCorr_c 11 n c ok.l1 (by omega) (by omega) h (frz_sl (ltL_I 0 c)))
    have w12 : ∀ h, orC LC 13 32 [encN n, .sl (c.map I64)] h = _ := fun h => orC_of rfl (rCorrected_c 10 n hb c h0 h)
    have w13 : ∀ h, orC LC 13 33 [encN n, .sl (c.map I64)] h = _ := fun h => orC_of rfl (rRes_c 13 n ok c okc.okB h (frz_sl (ltL_I 0 c)))
    have w14 : ∀ h, orC LC 13 34 [encN n, .sl (c.map I64)] h = _ := fun h => orC_of rfl (rCost_c 11 n ok c okc.okB h (frz_sl (ltL_I 0 c)))
    have w15 : ∀ h v w (hv : frz 0 [] h 8 v = some (.sl ((resL n c).map I64))) (hw : frz 0 [] h 8 w = some (.sl ((resL n c).map I64))), orC LC 13 15 [v, w] h = some (Bo true, h) := fun h v w hv hw => orC_of rfl (bInts_c 13 (resL n c) (resL n c) h (by omega) hv hw (by simp))
    have hS : ∀ h, orC LC 13 31 [corV n c, corV n c] h = some (Bo true, h) := fun h => by
      by_cases e : corE n c = 0
      · have e2 : corV n c = encN (nW n (resL n c)) := by unfold corV; rw [if_pos e]
        rw [e2]
        exact orC_of rfl (Same_c 13 _ (by show n.ls.length ≤ 1000; omega) (by rw [show (nW n (resL n c)).cs.length = n.cs.length from wiU_len _ _ _]; omega) h)
      · have e2 : corV n c = nilN := by unfold corV; rw [if_neg e]
        rw [e2]
        exact orC_of rfl (Same_nil 13 h)
    have hN : (netF n).1 = 0 := by rw [net_ok1 hn]
    rw [h0, if_pos rfl] at w8
    rw [hcr] at w11
    rw [hn, hN] at w6 w7
    have hcv : (corE n c = 0 ∧ corV n c = encN (nW n (resL n c))) ∨ (corE n c = 8 ∧ corV n c = nilN) := by
      unfold corV
      cases hab : (resL n c).any anB
      · have e1 : corE n c = 0 := by unfold corE; rw [if_pos h0, hab]; rfl
        exact .inl ⟨e1, by rw [if_pos e1]⟩
      · have e1 : corE n c = 8 := by unfold corE; rw [if_pos h0, hab]; rfl
        exact .inr ⟨e1, by rw [e1]; rfl⟩
    generalize hR : resL n c = R at *
    generalize costL n c = cost at *
    rcases hcv with ⟨e1, e2⟩ | ⟨e1, e2⟩
    all_goals rw [e1, e2] at w9 w12
    all_goals rw [e2] at hS
    all_goals clear e1 e2
    · generalize nW n R = W at *
      repeat (first | apply ef_seq | (apply ef_mv; exact rfl; exact rfl) | (apply ef_bin; exact rfl; exact rfl; exact rfl; (first | exact cmp_t rfl (by first | exact rfl | (simp only [cmpP]; omega)) | exact cmp_f rfl (by simp only [cmpP]; omega))) | (apply ef_gy; exact rfl; (first | exact (rfl : true = true) | exact (rfl : false = false))) | (apply ef_pick; exact rfl; exact rfl; exact rfl) | (apply ef_ldp; exact rfl; exact rfl; (exact rfl); exact rfl; (exact rfl); (exact rd_2 rfl rfl)) | (apply ef_notT; exact rfl; exact rfl) | (apply ef_ext; exact rfl; exact rfl; exact rfl) | (apply ef_box; exact rfl; exact rfl; exact rfl; exact rfl) | (apply ef_new; exact rfl) | (apply ef_st; exact rfl; exact rfl; exact rfl; exact rfl; exact rfl; exact rfl; (exact rfl); exact rfl) | apply ef_nil | apply seqQ.normal | apply ef_skip | (apply ef_condt; exact rfl; (exact (rfl : true = true))) | (apply ef_condf; exact rfl; (exact (rfl : false = false))) | (apply ef_call; exact rfl; ((repeat (apply XVs.cons; exact rfl)); exact XVs.nil); (with_reducible first | exact w0 _ | exact w1 _ | exact w3 _ | exact w4 _ | exact w5 _ | exact w6 _ | exact w7 _ | exact w8 _ | exact w9 _ | exact w10 _ | exact w11 _ | exact w12 _ | exact w13 _)))
      (apply ef_call; (· exact rfl); (· ((repeat (apply XVs.cons; exact rfl)); exact XVs.nil)); · exact w15 _ _ _ (frz_row (o := ⟨0, decide (n.cs.length = 0), 1, R.map I64⟩) rfl rfl (by simp [hrl]) (ltL_I 0 _) rfl) (frz_row (o := ⟨0, decide (n.cs.length = 0), 1, R.map I64⟩) rfl rfl (by simp [hrl]) (ltL_I 0 _) rfl))
      repeat (first | (apply ef_mv; exact rfl; exact rfl) | (apply ef_bin; exact rfl; exact rfl; exact rfl; (exact cmp_t rfl (by first | exact rfl | (simp only [cmpP]; omega)))) | (apply ef_gy; exact rfl; (exact (rfl : true = true))) | (apply ef_pick; exact rfl; exact rfl; exact rfl) | (apply ef_ldp; exact rfl; exact rfl; (exact rfl); exact rfl; (exact rfl); (exact rd_2 rfl rfl)) | apply ef_nil | apply seqQ.normal | apply ef_ret | (apply ef_call; exact rfl; ((repeat (apply XVs.cons; exact rfl)); exact XVs.nil); (with_reducible first | exact w14 _ | exact hS _)))
      (refine fin1 rfl (by exact rfl) rfl ?_)
      simp
    · repeat (first | apply ef_seq | (apply ef_mv; exact rfl; exact rfl) | (apply ef_bin; exact rfl; exact rfl; exact rfl; (first | exact cmp_t rfl (by first | exact rfl | (simp only [cmpP]; omega)) | exact cmp_f rfl (by simp only [cmpP]; omega))) | (apply ef_gy; exact rfl; (first | exact (rfl : true = true) | exact (rfl : false = false))) | (apply ef_pick; exact rfl; exact rfl; exact rfl) | (apply ef_ldp; exact rfl; exact rfl; (exact rfl); exact rfl; (exact rfl); (exact rd_2 rfl rfl)) | (apply ef_notT; exact rfl; exact rfl) | (apply ef_ext; exact rfl; exact rfl; exact rfl) | (apply ef_box; exact rfl; exact rfl; exact rfl; exact rfl) | (apply ef_new; exact rfl) | (apply ef_st; exact rfl; exact rfl; exact rfl; exact rfl; exact rfl; exact rfl; (exact rfl); exact rfl) | apply ef_nil | apply seqQ.normal | apply ef_skip | (apply ef_condt; exact rfl; (exact (rfl : true = true))) | (apply ef_condf; exact rfl; (exact (rfl : false = false))) | (apply ef_call; exact rfl; ((repeat (apply XVs.cons; exact rfl)); exact XVs.nil); (with_reducible first | exact w0 _ | exact w1 _ | exact w3 _ | exact w4 _ | exact w5 _ | exact w6 _ | exact w7 _ | exact w8 _ | exact w9 _ | exact w10 _ | exact w11 _ | exact w12 _ | exact w13 _)))
      (apply ef_call; (· exact rfl); (· ((repeat (apply XVs.cons; exact rfl)); exact XVs.nil)); · exact w15 _ _ _ (frz_row (o := ⟨0, decide (n.cs.length = 0), 1, R.map I64⟩) rfl rfl (by simp [hrl]) (ltL_I 0 _) rfl) (frz_row (o := ⟨0, decide (n.cs.length = 0), 1, R.map I64⟩) rfl rfl (by simp [hrl]) (ltL_I 0 _) rfl))
      repeat (first | (apply ef_mv; exact rfl; exact rfl) | (apply ef_bin; exact rfl; exact rfl; exact rfl; (exact cmp_t rfl (by first | exact rfl | (simp only [cmpP]; omega)))) | (apply ef_gy; exact rfl; (exact (rfl : true = true))) | (apply ef_pick; exact rfl; exact rfl; exact rfl) | (apply ef_ldp; exact rfl; exact rfl; (exact rfl); exact rfl; (exact rfl); (exact rd_2 rfl rfl)) | apply ef_nil | apply seqQ.normal | apply ef_ret | (apply ef_call; exact rfl; ((repeat (apply XVs.cons; exact rfl)); exact XVs.nil); (with_reducible first | exact w14 _ | exact hS _)))
      (refine fin1 rfl (by exact rfl) rfl ?_)
      simp
  · have w10 : ∀ h, orC LC 13 26 [encN n, .sl (c.map I64)] h = _ := fun h => orC_of rfl (ResidualsOf_e 6 n hb c (by omega) h0 h (frz_sl (ltL_I 0 c)))
    have hS := fun h => (orC_of (L := LC) rfl (Same_nil 13 h) : orC LC 13 31 [nilN, nilN] h = some (Bo true, h))
    have e1 : corE n c = bothE n c := by unfold corE; rw [if_neg h0]
    have e2 : corV n c = nilN := by unfold corV; rw [if_neg (by rw [e1]; exact h0)]
    rw [e1, e2] at w9
    rw [if_neg h0] at w8
    clear e1 e2
    by_cases hn : (netF n).2 = 0
    · have ok := net_ok hn
      have hbc : bothE n c = corrE n.ls.length c := by unfold bothE; rw [if_pos hn]
      have w11 : ∀ h, orC LC 13 30 [encN n, .sl (c.map I64)] h = _ := fun h => orC_of rfl (rCorr_c 11 n c ok.l1 (by omega) (by omega) h (frz_sl (ltL_I 0 c)))
      have hN : (netF n).1 = 0 := by rw [net_ok1 hn]
      rw [hn, hN] at w6 w7
      rw [hbc] at w8 w9 w10 h0
      clear hbc
      generalize corrE n.ls.length c = e at *
      repeat (first | apply ef_seq | (apply ef_mv; exact rfl; exact rfl) | (apply ef_bin; exact rfl; exact rfl; exact rfl; (first | exact cmp_t rfl (by first | exact rfl | (simp only [cmpP]; omega)) | exact cmp_f rfl (by simp only [cmpP]; omega))) | (apply ef_gy; exact rfl; (first | exact (rfl : true = true) | exact (rfl : false = false))) | (apply ef_pick; exact rfl; exact rfl; exact rfl) | (apply ef_len; exact rfl; exact rfl; (exact rfl)) | (apply ef_ldp; exact rfl; exact rfl; (exact rfl); exact rfl; (exact rfl); (exact rd_2 rfl rfl)) | (apply ef_notT; exact rfl; exact rfl) | (apply ef_ext; exact rfl; exact rfl; exact rfl) | (apply ef_box; exact rfl; exact rfl; exact rfl; exact rfl) | (apply ef_new; exact rfl) | (apply ef_build; exact rfl; (repeat (apply XVs.cons; exact rfl)); exact XVs.nil; exact rfl; exact rfl) | (apply ef_st; exact rfl; exact rfl; exact rfl; exact rfl; exact rfl; exact rfl; (exact rfl); exact rfl) | apply ef_nil | apply seqQ.normal | apply ef_ret | apply seqQ.ret | apply ef_skip | (apply ef_condt; exact rfl; (exact (rfl : true = true))) | (apply ef_condf; exact rfl; (exact (rfl : false = false))) | (apply ef_call; exact rfl; ((repeat (apply XVs.cons; exact rfl)); exact XVs.nil); (with_reducible first | exact w0 _ | exact w1 _ | exact w3 _ | exact w4 _ | exact w5 _ | exact w6 _ | exact w7 _ | exact w8 _ | exact w9 _ | exact w10 _ | exact w11 _ | exact hS _)))
      (refine fin1 rfl (by exact rfl) rfl ?_)
      rfl
    · have hbc : bothE n c = (netF n).2 := by unfold bothE; rw [if_neg hn]
      rw [hbc] at w8 w9 w10 h0
      clear hbc
      obtain ⟨⟨i, e⟩, hie⟩ : ∃ p, netF n = p := ⟨_, rfl⟩
      rw [hie] at w6 w7 w8 w9 w10 h0 hn
      simp only at w6 w7 w8 w9 w10 h0 hn
      clear hie
      repeat (first | apply ef_seq | (apply ef_mv; exact rfl; exact rfl) | (apply ef_bin; exact rfl; exact rfl; exact rfl; (first | exact cmp_t rfl (by first | exact rfl | (simp only [cmpP]; omega)) | exact cmp_f rfl (by simp only [cmpP]; omega))) | (apply ef_gy; exact rfl; (first | exact (rfl : true = true) | exact (rfl : false = false))) | (apply ef_pick; exact rfl; exact rfl; exact rfl) | (apply ef_len; exact rfl; exact rfl; (exact rfl)) | (apply ef_ldp; exact rfl; exact rfl; (exact rfl); exact rfl; (exact rfl); (exact rd_2 rfl rfl)) | (apply ef_notT; exact rfl; exact rfl) | (apply ef_ext; exact rfl; exact rfl; exact rfl) | (apply ef_box; exact rfl; exact rfl; exact rfl; exact rfl) | (apply ef_new; exact rfl) | (apply ef_build; exact rfl; (repeat (apply XVs.cons; exact rfl)); exact XVs.nil; exact rfl; exact rfl) | (apply ef_st; exact rfl; exact rfl; exact rfl; exact rfl; exact rfl; exact rfl; (exact rfl); exact rfl) | apply ef_nil | apply seqQ.normal | apply ef_ret | apply seqQ.ret | apply ef_skip | (apply ef_condt; exact rfl; (exact (rfl : true = true))) | (apply ef_condf; exact rfl; (exact (rfl : false = false))) | (apply ef_call; exact rfl; ((repeat (apply XVs.cons; exact rfl)); exact XVs.nil); (with_reducible first | exact w0 _ | exact w1 _ | exact w3 _ | exact w4 _ | exact w5 _ | exact w6 _ | exact w7 _ | exact w8 _ | exact w9 _ | exact w10 _ | exact hS _)))
      (refine fin1 rfl (by exact rfl) rfl ?_)
      rfl
end Go.Proofs.YtbdleggmdbihnaaGreat
