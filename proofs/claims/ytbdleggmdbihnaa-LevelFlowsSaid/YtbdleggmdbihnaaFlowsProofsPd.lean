/- Faster evaluation of closed calls: what it answers, the program answers. -/
import Derived.Test.YtbdleggmdbihnaaFlowsProofsPc
/- The contract of the program's check of a net. -/
namespace Go.Proofs.Ytbdleggmdbihnaa
open Go.RowKit
set_option linter.unusedVariables false
set_option linter.unusedSimpArgs false
structure BdN (n : Nt) : Prop where
  b1 : n.ls.length ≤ 100
  b2 : n.cs.length ≤ 100
  b3 : ∀ l ∈ n.ls, l.1.size ≤ 1000
theorem take_sl {α : Type} (f : α → MV) (xs : List α) (i : Nat) : (((xs.map f).drop (0 : Int).toNat).take (((i : Nat) : Int) - 0).toNat) = (xs.take i).map f := by
  simp
theorem mf_CheckNet : MT.mf 64 = some ⟨84, [(.tmp 2), (.tmp 3)], (.seq (.reg [⟨none, some 1, .box 2 (.s 0)⟩, ⟨none, some 2, .mv (.c (.lit (.int .i64 0)))⟩, ⟨none, some 3, .mv (.c (.lit (.int .i64 0)))⟩]) (.seq (.reg [⟨none, some 13, .fa 0 (.s 1)⟩, ⟨none, some 14, .ld none (.s 13)⟩, ⟨none, some 15, .len (.s 14)⟩, ⟨none, some 16, .bin .leq (.s 15) (.c (.lit (.int .i64 8)))⟩, ⟨none, some 17, .mv (.s 16)⟩, ⟨some (17, true), some 18, .fa 1 (.s 1)⟩, ⟨some (17, true), some 19, .ld none (.s 18)⟩, ⟨some (17, true), some 20, .len (.s 19)⟩, ⟨some (17, true), some 21, .bin .leq (.s 20) (.c (.lit (.int .i64 16)))⟩, ⟨none, some 22, .pick (.s 17) (.s 21) (.c (.lit (.bool false)))⟩, ⟨none, some 4, .mv (.s 22)⟩]) (.seq (.seq (.reg [⟨none, some 23, .fa 0 (.s 1)⟩, ⟨none, some 24, .ld none (.s 23)⟩, ⟨none, some 25, .len (.s 24)⟩, ⟨none, some 26, .bin .gtr (.s 25) (.c (.lit (.int .i64 0)))⟩, ⟨none, some 27, .call 41 [.s 26, (.c (.lit (.int .i64 10)))]⟩, ⟨none, some 28, .mv (.s 4)⟩, ⟨none, some 29, .call 41 [.s 28, (.c (.lit (.int .i64 8)))]⟩, ⟨none, some 30, .bsl (.lit (.int .i64 0)) 1 2 [(0, (.s 27)), (1, (.s 29))]⟩, ⟨none, some 31, .call 40 [.s 30]⟩, ⟨none, some 5, .mv (.s 31)⟩]) (.seq (.reg [⟨none, some 32, .mv (.s 5)⟩, ⟨none, some 33, .bin .neq (.s 32) (.c (.lit (.int .i64 0)))⟩]) (.cond (.s 33) (.seq (.reg [⟨none, some 34, .mv (.s 5)⟩, ⟨none, some 2, .mv (.c (.lit (.int .i64 0)))⟩, ⟨none, some 3, .mv (.s 34)⟩]) .ret) .skip))) (.seq (.seq (.reg [⟨none, some 35, .fa 0 (.s 1)⟩, ⟨none, some 36, .ld none (.s 35)⟩, ⟨none, some 37, .len (.s 36)⟩, ⟨none, some 38, .mv (.c (.lit (.int .i64 0)))⟩]) (.block 0 (.loop [38, 37, 36, 1] (.seq (.reg [⟨none, some 39, .bin .lss (.s 38) (.s 37)⟩]) (.seq (.cond (.s 39) .skip (.exit 0)) (.seq (.block 1 (.seq (.reg [⟨none, some 40, .mv (.s 38)⟩, ⟨none, some 41, .ia 2 (.s 36) (.s 38)⟩, ⟨none, some 42, .ld (some 2) (.s 41)⟩, ⟨none, some 7, .new (.agg [(.lit (.string ⟨#[]⟩)), (.lit (.bool false))])⟩, ⟨none, some 6, .mv (.s 40)⟩, ⟨none, none, .st 2 (.s 7) (.s 42)⟩]) (.seq (.reg [⟨none, some 43, .fa 0 (.s 1)⟩, ⟨none, some 44, .ld none (.s 43)⟩, ⟨none, some 45, .mv (.s 6)⟩, ⟨none, some 46, .slc 2 (.s 44) none (some (.s 45))⟩, ⟨none, some 47, .mf 87 0 [.s 7]⟩, ⟨none, some 48, .call 86 [.s 46, .s 47]⟩, ⟨none, some 8, .mv (.s 48)⟩]) (.seq (.reg [⟨none, some 49, .fa 0 (.s 7)⟩, ⟨none, some 50, .ld none (.s 49)⟩, ⟨none, some 51, .call 88 [.s 50]⟩, ⟨none, some 52, .call 41 [.s 51, (.c (.lit (.int .i64 4)))]⟩, ⟨none, some 53, .mv (.s 8)⟩, ⟨none, some 54, .un .not (.s 53)⟩, ⟨none, some 55, .call 41 [.s 54, (.c (.lit (.int .i64 5)))]⟩, ⟨none, some 56, .bsl (.lit (.int .i64 0)) 1 2 [(0, (.s 52)), (1, (.s 55))]⟩, ⟨none, some 57, .call 40 [.s 56]⟩, ⟨none, some 9, .mv (.s 57)⟩]) (.seq (.reg [⟨none, some 58, .mv (.s 9)⟩, ⟨none, some 59, .bin .neq (.s 58) (.c (.lit (.int .i64 0)))⟩]) (.cond (.s 59) (.seq (.reg [⟨none, some 60, .mv (.s 6)⟩, ⟨none, some 61, .mv (.s 9)⟩, ⟨none, some 2, .mv (.s 60)⟩, ⟨none, some 3, .mv (.s 61)⟩]) .ret) .skip)))))) (.reg [⟨none, some 62, .bin .add (.s 38) (.c (.lit (.int .i64 1)))⟩, ⟨none, some 38, .mv (.s 62)⟩]))))))) (.seq (.seq (.reg [⟨none, some 63, .fa 1 (.s 1)⟩, ⟨none, some 64, .ld none (.s 63)⟩, ⟨none, some 65, .len (.s 64)⟩, ⟨none, some 66, .mv (.c (.lit (.int .i64 0)))⟩]) (.block 2 (.loop [66, 65, 64, 1] (.seq (.reg [⟨none, some 67, .bin .lss (.s 66) (.s 65)⟩]) (.seq (.cond (.s 67) .skip (.exit 2)) (.seq (.block 3 (.seq (.reg [⟨none, some 68, .mv (.s 66)⟩, ⟨none, some 69, .ia 6 (.s 64) (.s 66)⟩, ⟨none, some 70, .ld (some 6) (.s 69)⟩, ⟨none, some 11, .new (.agg [(.lit (.int .i64 0)), (.lit (.int .i64 0)), (.lit (.int .i64 0)), (.lit (.int .i64 0)), (.lit (.int .i64 0)), (.lit (.int .i64 0))])⟩, ⟨none, some 10, .mv (.s 68)⟩, ⟨none, none, .st 6 (.s 11) (.s 70)⟩]) (.seq (.reg [⟨none, some 71, .fa 0 (.s 1)⟩, ⟨none, some 72, .ld none (.s 71)⟩, ⟨none, some 73, .fa 1 (.s 1)⟩, ⟨none, some 74, .ld none (.s 73)⟩, ⟨none, some 75, .mv (.s 10)⟩, ⟨none, some 76, .slc 6 (.s 74) none (some (.s 75))⟩, ⟨none, some 77, .ld (some 6) (.s 11)⟩, ⟨none, some 78, .call 89 [.s 72, .s 76, .s 77]⟩, ⟨none, some 12, .mv (.s 78)⟩]) (.seq (.reg [⟨none, some 79, .mv (.s 12)⟩, ⟨none, some 80, .bin .neq (.s 79) (.c (.lit (.int .i64 0)))⟩]) (.cond (.s 80) (.seq (.reg [⟨none, some 81, .mv (.s 10)⟩, ⟨none, some 82, .mv (.s 12)⟩, ⟨none, some 2, .mv (.s 81)⟩, ⟨none, some 3, .mv (.s 82)⟩]) .ret) .skip))))) (.reg [⟨none, some 83, .bin .add (.s 66) (.c (.lit (.int .i64 1)))⟩, ⟨none, some 66, .mv (.s 83)⟩]))))))) (.seq (.reg [⟨none, some 2, .mv (.c (.lit (.int .i64 0)))⟩, ⟨none, some 3, .mv (.c (.lit (.int .i64 0)))⟩]) .ret))))))⟩ := by kernel_rfl
set_option maxHeartbeats 2000000 in
theorem CheckNet_z (k : Nat) (n : Nt) (hb : BdN n) : runZ MT (orA (k + 4)) (itA (k + 4)) 4000000 64 [encN n] [] = some (.tup [I64 (netF n).1, I64 (netF n).2], []) := by
  obtain ⟨b1, b2, b3⟩ := hb
  have hs1 : (MV.sl (n.ls.map encLn)).slen = some n.ls.length := by simp [MV.slen]
  have hs2 : (MV.sl (n.cs.map encCr)).slen = some n.cs.length := by simp [MV.slen]
  have hun := fun b e h => unless_c (k + 3) b e h rfl
  have hall1 : (n.ls.map encLn).all (fun e => e.cells.length == 2) = true := by
    rw [List.all_eq_true]; intro m hm; obtain ⟨l, _, rfl⟩ := List.mem_map.1 hm; rfl
  have hall2 : (n.cs.map encCr).all (fun e => e.cells.length == 6) = true := by
    rw [List.all_eq_true]; intro m hm; obtain ⟨l, _, rfl⟩ := List.mem_map.1 hm; rfl
  refine runZ_of mf_CheckNet (by simp) ?_
  simp only [argsL]
  by_cases h0 : n.ls.length = 0
  · have HF := Lib.hid (show netF n = (0, 10) by unfold netF; rw [if_pos h0])
    repeat (first | apply ef_seq | (apply ef_mv; exact rfl; exact rfl) | (apply ef_bin; exact rfl; exact rfl; exact rfl; (first | exact cmp_t rfl (by first | exact rfl | (simp only [cmpP]; omega)) | exact cmp_f rfl (by simp only [cmpP]; omega) | exact rfl)) | (apply ef_gy; exact rfl; (exact (rfl : true = true))) | (apply ef_pick; exact rfl; exact rfl; exact rfl) | (apply ef_len; exact rfl; exact rfl; (assumption)) | (apply ef_ldp; exact rfl; exact rfl; (exact rfl); exact rfl; (exact rfl); (exact rfl)) | (apply ef_fap; exact rfl; exact rfl) | (apply ef_box; exact rfl; exact rfl; exact rfl; exact rfl) | (apply ef_bsl; exact rfl; (repeat (apply XVs.cons; exact rfl)); exact XVs.nil; exact rfl) | apply ef_nil | apply seqQ.normal | apply ef_ret | apply seqQ.ret | (apply ef_condt; exact rfl; (exact (rfl : true = true))) | (apply ef_call; exact rfl; ((repeat (apply XVs.cons; exact rfl)); exact XVs.nil); (with_reducible exact hun _ _ _)) | (apply ef_call; exact rfl; ((repeat (apply XVs.cons; exact rfl)); exact XVs.nil); (with_reducible apply first2_c); exact rfl; exact rfl; exact rfl; (exact rfl)))
    (apply fin2; (· exact rfl); (· exact rfl); (· exact rfl); (· rw [HF.out]; first | rfl | (simp [firstE, unl])))
  · by_cases h1 : 8 < n.ls.length ∨ 16 < n.cs.length
    · have HF := Lib.hid (show netF n = (0, 8) by unfold netF; rw [if_neg h0, if_pos h1])
      by_cases h2 : n.ls.length ≤ 8
      · repeat (first | apply ef_seq | (apply ef_mv; exact rfl; exact rfl) | (apply ef_bin; exact rfl; exact rfl; exact rfl; (first | exact cmp_t rfl (by first | exact rfl | (simp only [cmpP]; omega)) | exact cmp_f rfl (by simp only [cmpP]; omega) | exact rfl)) | (apply ef_gy; exact rfl; (exact (rfl : true = true))) | (apply ef_pick; exact rfl; exact rfl; exact rfl) | (apply ef_len; exact rfl; exact rfl; (assumption)) | (apply ef_ldp; exact rfl; exact rfl; (exact rfl); exact rfl; (exact rfl); (exact rfl)) | (apply ef_fap; exact rfl; exact rfl) | (apply ef_box; exact rfl; exact rfl; exact rfl; exact rfl) | (apply ef_bsl; exact rfl; (repeat (apply XVs.cons; exact rfl)); exact XVs.nil; exact rfl) | apply ef_nil | apply seqQ.normal | apply ef_ret | apply seqQ.ret | (apply ef_condt; exact rfl; (exact (rfl : true = true))) | (apply ef_call; exact rfl; ((repeat (apply XVs.cons; exact rfl)); exact XVs.nil); (with_reducible exact hun _ _ _)) | (apply ef_call; exact rfl; ((repeat (apply XVs.cons; exact rfl)); exact XVs.nil); (with_reducible apply first2_c); exact rfl; exact rfl; exact rfl; (exact rfl)))
        (apply fin2; (· exact rfl); (· exact rfl); (· exact rfl); (· rw [HF.out]; first | rfl | (simp [firstE, unl])))
      · repeat (first | apply ef_seq | (apply ef_mv; exact rfl; exact rfl) | (apply ef_bin; exact rfl; exact rfl; exact rfl; (first | exact cmp_t rfl (by first | exact rfl | (simp only [cmpP]; omega)) | exact cmp_f rfl (by simp only [cmpP]; omega) | exact rfl)) | (apply ef_gn; exact rfl; (exact (rfl : false = false)); exact rfl) | (apply ef_pick; exact rfl; exact rfl; exact rfl) | (apply ef_len; exact rfl; exact rfl; (assumption)) | (apply ef_ldp; exact rfl; exact rfl; (exact rfl); exact rfl; (exact rfl); (exact rfl)) | (apply ef_fap; exact rfl; exact rfl) | (apply ef_box; exact rfl; exact rfl; exact rfl; exact rfl) | (apply ef_bsl; exact rfl; (repeat (apply XVs.cons; exact rfl)); exact XVs.nil; exact rfl) | apply ef_nil | apply seqQ.normal | apply ef_ret | apply seqQ.ret | (apply ef_condt; exact rfl; (exact (rfl : true = true))) | (apply ef_call; exact rfl; ((repeat (apply XVs.cons; exact rfl)); exact XVs.nil); (with_reducible exact hun _ _ _)) | (apply ef_call; exact rfl; ((repeat (apply XVs.cons; exact rfl)); exact XVs.nil); (with_reducible apply first2_c); exact rfl; exact rfl; exact rfl; (exact rfl)))
        (apply fin2; (· exact rfl); (· exact rfl); (· exact rfl); (· rw [HF.out]; first | rfl | (simp [firstE, unl])))
    · have HF := Lib.hid (show netF n = if (scanE lineE [] n.ls).2 = 0 then scanE (crossE n.ls) [] n.cs else scanE lineE [] n.ls by unfold netF; rw [if_neg h0, if_neg h1])
      repeat (first | apply ef_seq | (apply ef_mv; exact rfl; exact rfl) | (apply ef_bin; exact rfl; exact rfl; exact rfl; (first | exact cmp_t rfl (by first | exact rfl | (simp only [cmpP]; omega)) | exact rfl)) | (apply ef_gy; exact rfl; (exact (rfl : true = true))) | (apply ef_pick; exact rfl; exact rfl; exact rfl) | (apply ef_len; exact rfl; exact rfl; (assumption)) | (apply ef_ldp; exact rfl; exact rfl; (exact rfl); exact rfl; (exact rfl); (exact rfl)) | (apply ef_fap; exact rfl; exact rfl) | (apply ef_box; exact rfl; exact rfl; exact rfl; exact rfl) | (apply ef_bsl; exact rfl; (repeat (apply XVs.cons; exact rfl)); exact XVs.nil; exact rfl) | apply ef_nil | apply seqQ.normal | apply ef_block | apply ef_skip | (apply ef_condf; exact rfl; (exact (rfl : false = false))) | (apply ef_call; exact rfl; ((repeat (apply XVs.cons; exact rfl)); exact XVs.nil); (with_reducible exact hun _ _ _)) | (apply ef_call; exact rfl; ((repeat (apply XVs.cons; exact rfl)); exact XVs.nil); (with_reducible apply first2_c); exact rfl; exact rfl; exact rfl; (exact rfl)))
      refine ef_loopf (α := Nat) (fun i => i ≤ n.ls.length ∧ scanE lineE [] n.ls = scanE lineE (n.ls.take i) (n.ls.drop i)) (fun i => [(38, I64 (i : Int))]) [(37, I64 (n.ls.length : Int)), (36, .sl (n.ls.map encLn)), (1, .ptr 0 0 0 0)] (fun _ => [⟨0, false, 2, [encN n]⟩, ⟨0, false, 1, [I64 0, I64 0]⟩]) (fun i => n.ls.length - i) 0 [38] (fun _ => rfl) (by ((repeat (refine Hold.cons (by exact rfl) ?_)); exact Hold.nil)) (by ((repeat (refine Hold.cons (by exact rfl) ?_)); exact Hold.nil)) rfl rfl ⟨by omega, by simp⟩ (by simp; omega) ?_
      rintro i ⟨hi, hz⟩
      try simp only at hi hz ⊢
      by_cases hlt : i < n.ls.length
      · have e1 := at_map encLn n.ls i hlt
        have hsz := b3 n.ls[i] (List.getElem_mem hlt)
        have HS0 := fun h0 => Lib.hid (scanE_step (f := lineE) hlt h0)
        have HS1 := fun h0 => Lib.hid (scanE_bad (f := lineE) hlt h0)
        have HZ := Lib.hid hz
        clear hz
        generalize n.ls[i] = l at e1 hsz HS0 HS1
        have hnm := fun h => isName_c (k + 2) l.1 hsz h
        obtain ⟨kn, hkn⟩ : ∃ b, (n.ls.take i).any (fun o => o.1 == l.1) = b := ⟨_, rfl⟩
        have hcf := ContainsFuncL_c (k + 2) 87 [.rp (encLn l) 0] (fun o => o.1 == l.1) (n.ls.take i) [⟨0, false, 2, [encN n]⟩, ⟨0, false, 1, [I64 0, I64 0]⟩, ⟨0, false, 2, [encLn l]⟩] (v := .sl ((n.ls.take i).map encLn)) (fv := .fn 87 0 [.ptr 2 0 0 0]) (by simp; omega) (fun o _ h => CheckNet1_c (k + 1) o l h) rfl (frz_sl (ltL_Ln 0 _)) (by simp [frz, MV.lt, ltL]) hkn
        obtain ⟨e, he⟩ : ∃ e, firstE [unl (nmB l.1) 4, unl (!kn) 5] = e := ⟨_, rfl⟩
        have hle : lineE (n.ls.take i) l = e := by unfold lineE; rw [hkn]; exact he
        rw [hle] at HS0 HS1
        clear hle hkn
        by_cases he0 : e = 0
        · have HS := HS0 he0
          clear HS0 HS1
          repeat (first | apply ef_seq | (apply ef_mv; exact rfl; exact rfl) | (apply ef_bin; exact rfl; exact rfl; exact rfl; (exact cmp_t rfl (by first | exact rfl | (simp only [cmpP]; omega)))) | (apply ef_ldr; exact rfl; exact rfl; (exact rd_2 rfl rfl)) | (apply ef_ldp; exact rfl; exact rfl; (exact rfl); exact rfl; (exact rfl); (exact rfl)) | (apply ef_ias; exact rfl; exact rfl; exact rfl; (omega); assumption; exact rfl) | (apply ef_fap; exact rfl; exact rfl) | (apply ef_new; exact rfl) | (apply ef_st; exact rfl; exact rfl; exact rfl; exact rfl; exact rfl; exact rfl; (exact rfl); exact rfl) | apply ef_nil | apply seqQ.normal | apply ef_block | apply ef_skip | (apply ef_condt; exact rfl; (exact (rfl : true = true))))
          (apply ef_slcs; (· exact rfl); (· exact rfl); (· exact rfl); (· exact rfl); (· (simp; omega)); (· exact hall1))
          rw [take_sl]
          repeat (first | (apply ef_mf; exact rfl; (repeat (apply XVs.cons; exact rfl)); exact XVs.nil))
          (apply ef_call; (· exact rfl); (· ((repeat (apply XVs.cons; exact rfl)); exact XVs.nil)); · exact hcf)
          repeat (first | apply ef_seq | (apply ef_mv; exact rfl; exact rfl) | (apply ef_bin; exact rfl; exact rfl; exact rfl; (first | exact cmp_f rfl (by simp only [cmpP]; omega) | ((with_reducible refine bin_add (wrap_of ?_ ?_)) <;> omega))) | (apply ef_ldp; exact rfl; exact rfl; (exact rfl); exact rfl; (exact rfl); (exact rfl)) | (apply ef_fap; exact rfl; exact rfl) | (apply ef_not; exact rfl; exact rfl; exact rfl) | (apply ef_bsl; exact rfl; (repeat (apply XVs.cons; exact rfl)); exact XVs.nil; exact rfl) | apply ef_nil | apply seqQ.normal | apply blockQ.normal | apply ef_skip | (apply ef_condf; exact rfl; (exact (rfl : false = false))) | (apply ef_call; exact rfl; ((repeat (apply XVs.cons; exact rfl)); exact XVs.nil); (with_reducible first | exact hnm _ | exact hun _ _ _)) | (apply ef_call; exact rfl; ((repeat (apply XVs.cons; exact rfl)); exact XVs.nil); (with_reducible apply first2_c); exact rfl; exact rfl; exact rfl; (assumption)))
          (refine loopQ.normal _ _ ⟨i + 1, ⟨hlt, by rw [HZ.out, HS.out]⟩, (by first | (simp only; omega) | omega), ⟨by ((repeat (refine Hold.cons (by exact rfl) ?_)); exact Hold.nil), by ((repeat (refine Hold.cons (by exact rfl) ?_)); exact Hold.nil)⟩, .inr ⟨by ((repeat (refine hdl_cons rfl (by first | rfl | (simp [MV.lt, ltL, ltL_Ln, ltL_Cr])) ?_)); exact hdl_nil), by first | rfl | (simp [hltL, ltL, MV.lt, ltL, ltL_Ln, ltL_Cr])⟩, by first | exact rfl | (simp only [List.map_append, List.map_set]; exact rfl)⟩)
        · have HS := HS1 he0
          clear HS0 HS1
          repeat (first | apply ef_seq | (apply ef_mv; exact rfl; exact rfl) | (apply ef_bin; exact rfl; exact rfl; exact rfl; (exact cmp_t rfl (by first | exact rfl | (simp only [cmpP]; omega)))) | (apply ef_ldr; exact rfl; exact rfl; (exact rd_2 rfl rfl)) | (apply ef_ldp; exact rfl; exact rfl; (exact rfl); exact rfl; (exact rfl); (exact rfl)) | (apply ef_ias; exact rfl; exact rfl; exact rfl; (omega); assumption; exact rfl) | (apply ef_fap; exact rfl; exact rfl) | (apply ef_new; exact rfl) | (apply ef_st; exact rfl; exact rfl; exact rfl; exact rfl; exact rfl; exact rfl; (exact rfl); exact rfl) | apply ef_nil | apply seqQ.normal | apply ef_block | apply ef_skip | (apply ef_condt; exact rfl; (exact (rfl : true = true))))
          (apply ef_slcs; (· exact rfl); (· exact rfl); (· exact rfl); (· exact rfl); (· (simp; omega)); (· exact hall1))
          rw [take_sl]
          repeat (first | (apply ef_mf; exact rfl; (repeat (apply XVs.cons; exact rfl)); exact XVs.nil))
          (apply ef_call; (· exact rfl); (· ((repeat (apply XVs.cons; exact rfl)); exact XVs.nil)); · exact hcf)
          repeat (first | apply ef_seq | (apply ef_mv; exact rfl; exact rfl) | (apply ef_bin; exact rfl; exact rfl; exact rfl; (exact cmp_t rfl (by first | exact rfl | (simp only [cmpP]; omega)))) | (apply ef_ldp; exact rfl; exact rfl; (exact rfl); exact rfl; (exact rfl); (exact rfl)) | (apply ef_fap; exact rfl; exact rfl) | (apply ef_not; exact rfl; exact rfl; exact rfl) | (apply ef_bsl; exact rfl; (repeat (apply XVs.cons; exact rfl)); exact XVs.nil; exact rfl) | apply ef_nil | apply seqQ.normal | apply loopQ.ret | apply ef_ret | apply seqQ.ret | apply blockQ.ret | (apply ef_condt; exact rfl; (exact (rfl : true = true))) | (apply ef_call; exact rfl; ((repeat (apply XVs.cons; exact rfl)); exact XVs.nil); (with_reducible first | exact hnm _ | exact hun _ _ _)) | (apply ef_call; exact rfl; ((repeat (apply XVs.cons; exact rfl)); exact XVs.nil); (with_reducible apply first2_c); exact rfl; exact rfl; exact rfl; (assumption)))
          (apply fin2; (· exact rfl); (· exact rfl); (· exact rfl); (· rw [HF.out, HZ.out, HS.out, if_neg he0]))
      · have hsc : scanE lineE [] n.ls = (0, 0) := by rw [hz, List.drop_eq_nil_of_le (by omega), scanE_nil]
        have HF := Lib.hid (show netF n = scanE (crossE n.ls) [] n.cs by rw [HF.out, hsc, if_pos rfl])
        clear hz hsc
        repeat (first | apply ef_seq | (apply ef_mv; exact rfl; exact rfl) | (apply ef_bin; exact rfl; exact rfl; exact rfl; (exact cmp_f rfl (by simp only [cmpP]; omega))) | (apply ef_len; exact rfl; exact rfl; (assumption)) | (apply ef_ldp; exact rfl; exact rfl; (exact rfl); exact rfl; (exact rfl); (exact rfl)) | (apply ef_fap; exact rfl; exact rfl) | apply ef_nil | apply seqQ.normal | apply loopQ.exit | apply ef_exit | apply seqQ.exit | apply blockQ.here | apply ef_block | (apply ef_condf; exact rfl; (exact (rfl : false = false))))
        refine ef_loopf (α := Nat) (fun i => i ≤ n.cs.length ∧ scanE (crossE n.ls) [] n.cs = scanE (crossE n.ls) (n.cs.take i) (n.cs.drop i)) (fun i => [(66, I64 (i : Int))]) [(65, I64 (n.cs.length : Int)), (64, .sl (n.cs.map encCr)), (1, .ptr 0 0 0 0)] (fun _ => [⟨0, false, 2, [encN n]⟩, ⟨0, false, 1, [I64 0, I64 0]⟩]) (fun i => n.cs.length - i) 0 [66] (fun _ => rfl) (by ((repeat (refine Hold.cons (by exact rfl) ?_)); exact Hold.nil)) (by ((repeat (refine Hold.cons (by exact rfl) ?_)); exact Hold.nil)) rfl rfl ⟨by omega, by simp⟩ (by simp; omega) ?_
        rintro i ⟨hi, hz⟩
        try simp only at hi hz ⊢
        by_cases hlt : i < n.cs.length
        · have e1 := at_map encCr n.cs i hlt
          have HS0 := fun h0 => Lib.hid (scanE_step (f := crossE n.ls) hlt h0)
          have HS1 := fun h0 => Lib.hid (scanE_bad (f := crossE n.ls) hlt h0)
          have HZ := Lib.hid hz
          clear hz
          generalize n.cs[i] = c at e1 HS0 HS1
          have hce := fun h => crossingErr_c k n.ls (n.cs.take i) c h (by omega) (by simp; omega)
          generalize crossE n.ls (n.cs.take i) c = e at hce HS0 HS1
          by_cases he0 : e = 0
          · have HS := HS0 he0
            clear HS0 HS1
            repeat (first | apply ef_seq | (apply ef_mv; exact rfl; exact rfl) | (apply ef_bin; exact rfl; exact rfl; exact rfl; (exact cmp_t rfl (by first | exact rfl | (simp only [cmpP]; omega)))) | (apply ef_ldr; exact rfl; exact rfl; (exact rd_6 rfl rfl rfl rfl rfl rfl)) | (apply ef_ldp; exact rfl; exact rfl; (exact rfl); exact rfl; (exact rfl); (exact rfl)) | (apply ef_ias; exact rfl; exact rfl; exact rfl; (omega); assumption; exact rfl) | (apply ef_fap; exact rfl; exact rfl) | (apply ef_new; exact rfl) | (apply ef_st; exact rfl; exact rfl; exact rfl; exact rfl; exact rfl; exact rfl; (exact rfl); exact rfl) | apply ef_nil | apply seqQ.normal | apply ef_block | apply ef_skip | (apply ef_condt; exact rfl; (exact (rfl : true = true))))
            (apply ef_slcs; (· exact rfl); (· exact rfl); (· exact rfl); (· exact rfl); (· (simp; omega)); (· exact hall2))
            rw [take_sl]
            repeat (first | apply ef_seq | (apply ef_mv; exact rfl; exact rfl) | (apply ef_bin; exact rfl; exact rfl; exact rfl; (first | exact cmp_f rfl (by simp only [cmpP]; omega) | ((with_reducible refine bin_add (wrap_of ?_ ?_)) <;> omega))) | (apply ef_ldp; exact rfl; exact rfl; (exact rfl); exact rfl; (exact rfl); (exact rd_6 rfl rfl rfl rfl rfl rfl)) | apply ef_nil | apply seqQ.normal | apply blockQ.normal | apply ef_skip | (apply ef_condf; exact rfl; (exact (rfl : false = false))) | (apply ef_call; exact rfl; ((repeat (apply XVs.cons; exact rfl)); exact XVs.nil); (with_reducible exact hce _)))
            (refine loopQ.normal _ _ ⟨i + 1, ⟨hlt, by rw [HZ.out, HS.out]⟩, (by first | (simp only; omega) | omega), ⟨by ((repeat (refine Hold.cons (by exact rfl) ?_)); exact Hold.nil), by ((repeat (refine Hold.cons (by exact rfl) ?_)); exact Hold.nil)⟩, .inr ⟨by ((repeat (refine hdl_cons rfl (by first | rfl | (simp [MV.lt, ltL, ltL_Ln, ltL_Cr])) ?_)); exact hdl_nil), by first | rfl | (simp [hltL, ltL, MV.lt, ltL, ltL_Ln, ltL_Cr])⟩, by first | exact rfl | (simp only [List.map_append, List.map_set]; exact rfl)⟩)
          · have HS := HS1 he0
            clear HS0 HS1
            repeat (first | apply ef_seq | (apply ef_mv; exact rfl; exact rfl) | (apply ef_bin; exact rfl; exact rfl; exact rfl; (exact cmp_t rfl (by first | exact rfl | (simp only [cmpP]; omega)))) | (apply ef_ldr; exact rfl; exact rfl; (exact rd_6 rfl rfl rfl rfl rfl rfl)) | (apply ef_ldp; exact rfl; exact rfl; (exact rfl); exact rfl; (exact rfl); (exact rfl)) | (apply ef_ias; exact rfl; exact rfl; exact rfl; (omega); assumption; exact rfl) | (apply ef_fap; exact rfl; exact rfl) | (apply ef_new; exact rfl) | (apply ef_st; exact rfl; exact rfl; exact rfl; exact rfl; exact rfl; exact rfl; (exact rfl); exact rfl) | apply ef_nil | apply seqQ.normal | apply ef_block | apply ef_skip | (apply ef_condt; exact rfl; (exact (rfl : true = true))))
            (apply ef_slcs; (· exact rfl); (· exact rfl); (· exact rfl); (· exact rfl); (· (simp; omega)); (· exact hall2))
            rw [take_sl]
            repeat (first | apply ef_seq | (apply ef_mv; exact rfl; exact rfl) | (apply ef_bin; exact rfl; exact rfl; exact rfl; (exact cmp_t rfl (by first | exact rfl | (simp only [cmpP]; omega)))) | (apply ef_ldp; exact rfl; exact rfl; (exact rfl); exact rfl; (exact rfl); (exact rd_6 rfl rfl rfl rfl rfl rfl)) | apply ef_nil | apply seqQ.normal | apply loopQ.ret | apply ef_ret | apply seqQ.ret | apply blockQ.ret | (apply ef_condt; exact rfl; (exact (rfl : true = true))) | (apply ef_call; exact rfl; ((repeat (apply XVs.cons; exact rfl)); exact XVs.nil); (with_reducible exact hce _)))
            (apply fin2; (· exact rfl); (· exact rfl); (· exact rfl); (· rw [HF.out, HZ.out, HS.out]))
        · have HF := Lib.hid (show netF n = (0, 0) by rw [HF.out, hz, List.drop_eq_nil_of_le (by omega), scanE_nil])
          repeat (first | apply ef_seq | (apply ef_mv; exact rfl; exact rfl) | (apply ef_bin; exact rfl; exact rfl; exact rfl; (exact cmp_f rfl (by simp only [cmpP]; omega))) | apply ef_nil | apply seqQ.normal | apply loopQ.exit | apply ef_ret | apply ef_exit | apply seqQ.exit | apply blockQ.here | (apply ef_condf; exact rfl; (exact (rfl : false = false))))
          (apply fin2; (· exact rfl); (· exact rfl); (· exact rfl); (· rw [HF.out]))
theorem CheckNet_c (k : Nat) (n : Nt) (hb : BdN n) (h : MHeap) : orA (k + 5) 64 [encN n] h = some (.tup [I64 (netF n).1, I64 (netF n).2], h) :=
  callTT (args' := [encN n]) (frzL_lt (by simp [ltL, MV.lt, ltL_Ln, ltL_Cr])) rfl (CheckNet_z k n hb)
end Go.Proofs.Ytbdleggmdbihnaa

/- Contracts: the reference's check of a net. -/
namespace Go.Proofs.Ytbdleggmdbihnaa
open Go.RowKit
set_option linter.unusedVariables false
abbrev encS (s : ByteArray) : MV := .lit (.string s)
theorem ltL_S (n : Nat) (ls : List ByteArray) : ltL n (ls.map encS) = true := ltL_lits (fun _ => rfl) ls
theorem mf_bIsName : MT.mf 71 = some ⟨55, [(.tmp 2)], (.seq (.reg [⟨none, some 2, .mv (.c (.lit (.bool false)))⟩]) (.seq (.seq (.reg [⟨none, some 6, .mv (.s 0)⟩, ⟨none, some 7, .sln (.s 6)⟩, ⟨none, some 8, .bin .lss (.s 7) (.c (.lit (.int .i64 1)))⟩, ⟨none, some 9, .mv (.s 8)⟩, ⟨some (9, false), some 10, .mv (.s 0)⟩, ⟨some (9, false), some 11, .sln (.s 10)⟩, ⟨some (9, false), some 12, .bin .gtr (.s 11) (.c (.lit (.int .i64 12)))⟩, ⟨none, some 13, .pick (.s 9) (.c (.lit (.bool true))) (.s 12)⟩]) (.cond (.s 13) (.seq (.reg [⟨none, some 2, .mv (.c (.lit (.bool false)))⟩]) .ret) .skip)) (.seq (.seq (.reg [⟨none, some 3, .mv (.c (.lit (.int .i64 0)))⟩]) (.block 0 (.loop [3, 0] (.seq (.seq (.reg [⟨none, some 14, .mv (.s 3)⟩, ⟨none, some 15, .mv (.s 0)⟩, ⟨none, some 16, .sln (.s 15)⟩, ⟨none, some 17, .bin .lss (.s 14) (.s 16)⟩]) (.cond (.s 17) .skip (.exit 0))) (.seq (.block 1 (.seq (.reg [⟨none, some 20, .mv (.s 0)⟩, ⟨none, some 21, .mv (.s 3)⟩, ⟨none, some 22, .sx (.s 20) (.s 21)⟩, ⟨none, some 4, .mv (.s 22)⟩]) (.seq (.reg [⟨none, some 23, .mv (.s 4)⟩, ⟨none, some 24, .bin .geq (.s 23) (.c (.lit (.int .u8 97)))⟩, ⟨none, some 25, .mv (.s 24)⟩, ⟨some (25, true), some 26, .mv (.s 4)⟩, ⟨some (25, true), some 27, .bin .leq (.s 26) (.c (.lit (.int .u8 122)))⟩, ⟨none, some 28, .pick (.s 25) (.s 27) (.c (.lit (.bool false)))⟩, ⟨none, some 29, .mv (.s 28)⟩, ⟨some (29, false), some 30, .mv (.s 4)⟩, ⟨some (29, false), some 31, .bin .geq (.s 30) (.c (.lit (.int .u8 65)))⟩, ⟨some (29, false), some 32, .mv (.s 31)⟩, ⟨some (32, true), some 33, .mv (.s 4)⟩, ⟨some (32, true), some 34, .bin .leq (.s 33) (.c (.lit (.int .u8 90)))⟩, ⟨some (29, false), some 35, .pick (.s 32) (.s 34) (.c (.lit (.bool false)))⟩, ⟨none, some 36, .pick (.s 29) (.c (.lit (.bool true))) (.s 35)⟩, ⟨none, some 5, .mv (.s 36)⟩]) (.seq (.reg [⟨none, some 37, .mv (.s 5)⟩, ⟨none, some 38, .un .not (.s 37)⟩, ⟨none, some 39, .mv (.s 38)⟩, ⟨some (39, true), some 40, .mv (.s 3)⟩, ⟨some (39, true), some 41, .bin .eql (.s 40) (.c (.lit (.int .i64 0)))⟩, ⟨some (39, true), some 42, .mv (.s 41)⟩, ⟨some (42, false), some 43, .mv (.s 4)⟩, ⟨some (42, false), some 44, .bin .neq (.s 43) (.c (.lit (.int .u8 45)))⟩, ⟨some (42, false), some 45, .mv (.s 44)⟩, ⟨some (45, true), some 46, .mv (.s 4)⟩, ⟨some (45, true), some 47, .bin .lss (.s 46) (.c (.lit (.int .u8 48)))⟩, ⟨some (45, true), some 48, .mv (.s 47)⟩, ⟨some (48, false), some 49, .mv (.s 4)⟩, ⟨some (48, false), some 50, .bin .gtr (.s 49) (.c (.lit (.int .u8 57)))⟩, ⟨some (45, true), some 51, .pick (.s 48) (.c (.lit (.bool true))) (.s 50)⟩, ⟨some (42, false), some 52, .pick (.s 45) (.s 51) (.c (.lit (.bool false)))⟩, ⟨some (39, true), some 53, .pick (.s 42) (.c (.lit (.bool true))) (.s 52)⟩, ⟨none, some 54, .pick (.s 39) (.s 53) (.c (.lit (.bool false)))⟩]) (.cond (.s 54) (.seq (.reg [⟨none, some 2, .mv (.c (.lit (.bool false)))⟩]) .ret) .skip))))) (.reg [⟨none, some 18, .mv (.s 3)⟩, ⟨none, some 19, .bin .add (.s 18) (.c (.lit (.int .i64 1)))⟩, ⟨none, some 3, .mv (.s 19)⟩])))))) (.seq (.reg [⟨none, some 2, .mv (.c (.lit (.bool true)))⟩]) .ret))))⟩ := by kernel_rfl
set_option maxHeartbeats 1000000 in
theorem bIsName_z (k : Nat) (s : ByteArray) (hs : s.size ≤ 1000) : runZ MT (orA k) (itA k) 4000000 71 [.lit (.string s)] [] = some (Bo (nmB s), []) := by
  obtain ⟨bs, hbs⟩ : ∃ bs, s.data.toList = bs := ⟨_, rfl⟩
  have hbl : bs.length = s.size := by rw [← hbs, Array.length_toList]; rfl
  have HNM := Lib.hid (show nmB s = (allNb 0 bs && inB s.size 1 12) by rw [← hbs]; rfl)
  refine runZ_of mf_bIsName (by simp) ?_
  simp only [argsL]
  by_cases h1 : s.size < 1
  · repeat (first | apply ef_seq | (apply ef_mv; exact rfl; exact rfl) | (apply ef_bin; exact rfl; exact rfl; exact rfl; (exact cmp_t rfl (by first | exact rfl | (simp only [cmpP]; omega)))) | (apply ef_gn; exact rfl; (exact (rfl : true = true)); exact rfl) | (apply ef_pick; exact rfl; exact rfl; exact rfl) | (apply ef_sln; exact rfl; exact rfl) | apply ef_nil | apply seqQ.normal | apply ef_ret | apply seqQ.ret | (apply ef_condt; exact rfl; (exact (rfl : true = true))))
    (refine fin1 rfl (by exact rfl) rfl ?_)
    rw [HNM.out, inB_not.2 (by omega)]; simp
  · by_cases h2 : s.size > 12
    · repeat (first | apply ef_seq | (apply ef_mv; exact rfl; exact rfl) | (apply ef_bin; exact rfl; exact rfl; exact rfl; (first | exact cmp_t rfl (by first | exact rfl | (simp only [cmpP]; omega)) | exact cmp_f rfl (by simp only [cmpP]; omega))) | (apply ef_gy; exact rfl; (exact (rfl : false = false))) | (apply ef_pick; exact rfl; exact rfl; exact rfl) | (apply ef_sln; exact rfl; exact rfl) | apply ef_nil | apply seqQ.normal | apply ef_ret | apply seqQ.ret | (apply ef_condt; exact rfl; (exact (rfl : true = true))))
      (refine fin1 rfl (by exact rfl) rfl ?_)
      rw [HNM.out, inB_not.2 (by omega)]; simp
    · repeat (first | apply ef_seq | (apply ef_mv; exact rfl; exact rfl) | (apply ef_bin; exact rfl; exact rfl; exact rfl; (exact cmp_f rfl (by simp only [cmpP]; omega))) | (apply ef_gy; exact rfl; (exact (rfl : false = false))) | (apply ef_pick; exact rfl; exact rfl; exact rfl) | (apply ef_sln; exact rfl; exact rfl) | apply ef_nil | apply seqQ.normal | apply ef_block | apply ef_skip | (apply ef_condf; exact rfl; (exact (rfl : false = false))))
      refine ef_loopf (α := Nat) (fun i => i ≤ bs.length ∧ allNb 0 bs = allNb i (bs.drop i)) (fun i => [(3, I64 (i : Int))]) [(0, .lit (.string s))] (fun _ => []) (fun i => bs.length - i) 0 [3] (fun _ => rfl) (by ((repeat (refine Hold.cons (by exact rfl) ?_)); exact Hold.nil)) (by ((repeat (refine Hold.cons (by exact rfl) ?_)); exact Hold.nil)) rfl rfl ⟨by omega, rfl⟩ (by simp; omega) ?_
      rintro i ⟨hi, hz⟩
      try simp only at hi hz ⊢
      by_cases hlt : i < bs.length
      · have e1 : s.data.toList[((i : Nat) : Int).toNat]? = some bs[i] := by rw [hbs, Int.toNat_natCast, List.getElem?_eq_getElem hlt]
        have HS := Lib.hid (allNb_step hlt)
        have HZ := Lib.hid hz
        clear hz
        generalize bs[i] = c at e1 HS
        have hc := c.toNat_lt
        have HB := Lib.hid (show nbB i c = (letB c || (decide (i ≠ 0) && (decide (c.toNat = 45) || (decide (48 ≤ c.toNat) && decide (c.toNat ≤ 57))))) from rfl)
        have hfin : nbB i c = false → RowKit.Hid (nmB s = false) := fun hn => Lib.hid (by rw [HNM.out, HZ.out, HS.out, hn]; simp)
        have hgo : nbB i c = true → RowKit.Hid (allNb 0 bs = allNb (i + 1) (bs.drop (i + 1))) := fun hn => Lib.hid (by rw [HZ.out, HS.out, hn]; simp)
        by_cases a1 : 97 ≤ c.toNat
        · by_cases a2 : c.toNat ≤ 122
          · have HG := hgo (by rw [HB.out]; simp [letB, a1, a2])
            clear hfin hgo
            repeat (first | apply ef_seq | (apply ef_mv; exact rfl; exact rfl) | (apply ef_bin; exact rfl; exact rfl; exact rfl; (first | exact cmp_t rfl (by first | exact rfl | (simp only [cmpP]; omega)) | ((with_reducible refine bin_add (wrap_of ?_ ?_)) <;> omega))) | (apply ef_gy; exact rfl; (exact (rfl : true = true))) | (apply ef_gn; exact rfl; (first | exact (rfl : true = true) | exact (rfl : false = false)); exact rfl) | (apply ef_gu; exact rfl; exact rfl) | (apply ef_pick; exact rfl; exact rfl; exact rfl) | (apply ef_notT; exact rfl; exact rfl) | (apply ef_sx; exact rfl; exact rfl; exact rfl; omega; (assumption)) | (apply ef_sln; exact rfl; exact rfl) | apply ef_nil | apply seqQ.normal | apply blockQ.normal | apply ef_block | apply ef_skip | (apply ef_condt; exact rfl; (exact (rfl : true = true))) | (apply ef_condf; exact rfl; (exact (rfl : false = false))))
            (refine loopQ.normal _ _ ⟨i + 1, ⟨hlt, HG.out⟩, (by first | (simp only; omega) | omega), ⟨by ((repeat (refine Hold.cons (by exact rfl) ?_)); exact Hold.nil), by ((repeat (refine Hold.cons (by exact rfl) ?_)); exact Hold.nil)⟩, .inl (Nat.le_refl _), (by first | exact List.take_length | exact rfl | exact takeF rfl rfl)⟩)
          · have HG := hfin (by rw [HB.out]; simp [letB]; omega)
            clear hfin hgo
            by_cases h0 : i = 0
            · repeat (first | apply ef_seq | (apply ef_mv; exact rfl; exact rfl) | (apply ef_bin; exact rfl; exact rfl; exact rfl; (first | exact cmp_t rfl (by first | exact rfl | (simp only [cmpP]; omega)) | exact cmp_f rfl (by simp only [cmpP]; omega))) | (apply ef_gy; exact rfl; (first | exact (rfl : true = true) | exact (rfl : false = false))) | (apply ef_gn; exact rfl; (exact (rfl : true = true)); exact rfl) | (apply ef_gu; exact rfl; exact rfl) | (apply ef_pick; exact rfl; exact rfl; exact rfl) | (apply ef_notF; exact rfl; exact rfl) | (apply ef_sx; exact rfl; exact rfl; exact rfl; omega; (assumption)) | (apply ef_sln; exact rfl; exact rfl) | apply ef_nil | apply seqQ.normal | apply loopQ.ret | apply ef_ret | apply seqQ.ret | apply blockQ.ret | apply ef_block | apply ef_skip | (apply ef_condt; exact rfl; (exact (rfl : true = true))))
              (refine fin1 rfl (by exact rfl) rfl ?_)
              rw [HG.out]
            · repeat (first | apply ef_seq | (apply ef_mv; exact rfl; exact rfl) | (apply ef_bin; exact rfl; exact rfl; exact rfl; (first | exact cmp_t rfl (by first | exact rfl | (simp only [cmpP]; omega)) | exact cmp_f rfl (by simp only [cmpP]; omega))) | (apply ef_gy; exact rfl; (first | exact (rfl : true = true) | exact (rfl : false = false))) | (apply ef_pick; exact rfl; exact rfl; exact rfl) | (apply ef_notF; exact rfl; exact rfl) | (apply ef_sx; exact rfl; exact rfl; exact rfl; omega; (assumption)) | (apply ef_sln; exact rfl; exact rfl) | apply ef_nil | apply seqQ.normal | apply loopQ.ret | apply ef_ret | apply seqQ.ret | apply blockQ.ret | apply ef_block | apply ef_skip | (apply ef_condt; exact rfl; (exact (rfl : true = true))))
              (refine fin1 rfl (by exact rfl) rfl ?_)
              rw [HG.out]
        · by_cases a3 : 65 ≤ c.toNat
          · by_cases a4 : c.toNat ≤ 90
            · have HG := hgo (by rw [HB.out]; simp [letB]; omega)
              clear hfin hgo
              repeat (first | apply ef_seq | (apply ef_mv; exact rfl; exact rfl) | (apply ef_bin; exact rfl; exact rfl; exact rfl; (first | exact cmp_t rfl (by first | exact rfl | (simp only [cmpP]; omega)) | exact cmp_f rfl (by simp only [cmpP]; omega) | ((with_reducible refine bin_add (wrap_of ?_ ?_)) <;> omega))) | (apply ef_gy; exact rfl; (first | exact (rfl : true = true) | exact (rfl : false = false))) | (apply ef_gn; exact rfl; (exact (rfl : false = false)); exact rfl) | (apply ef_gu; exact rfl; exact rfl) | (apply ef_pick; exact rfl; exact rfl; exact rfl) | (apply ef_notT; exact rfl; exact rfl) | (apply ef_sx; exact rfl; exact rfl; exact rfl; omega; (assumption)) | (apply ef_sln; exact rfl; exact rfl) | apply ef_nil | apply seqQ.normal | apply blockQ.normal | apply ef_block | apply ef_skip | (apply ef_condt; exact rfl; (exact (rfl : true = true))) | (apply ef_condf; exact rfl; (exact (rfl : false = false))))
              (refine loopQ.normal _ _ ⟨i + 1, ⟨hlt, HG.out⟩, (by first | (simp only; omega) | omega), ⟨by ((repeat (refine Hold.cons (by exact rfl) ?_)); exact Hold.nil), by ((repeat (refine Hold.cons (by exact rfl) ?_)); exact Hold.nil)⟩, .inl (Nat.le_refl _), (by first | exact List.take_length | exact rfl | exact takeF rfl rfl)⟩)
            · have HG := hfin (by rw [HB.out]; simp [letB]; omega)
              clear hfin hgo
              by_cases h0 : i = 0
              · repeat (first | apply ef_seq | (apply ef_mv; exact rfl; exact rfl) | (apply ef_bin; exact rfl; exact rfl; exact rfl; (first | exact cmp_t rfl (by first | exact rfl | (simp only [cmpP]; omega)) | exact cmp_f rfl (by simp only [cmpP]; omega))) | (apply ef_gy; exact rfl; (first | exact (rfl : true = true) | exact (rfl : false = false))) | (apply ef_gn; exact rfl; (first | exact (rfl : true = true) | exact (rfl : false = false)); exact rfl) | (apply ef_gu; exact rfl; exact rfl) | (apply ef_pick; exact rfl; exact rfl; exact rfl) | (apply ef_notF; exact rfl; exact rfl) | (apply ef_sx; exact rfl; exact rfl; exact rfl; omega; (assumption)) | (apply ef_sln; exact rfl; exact rfl) | apply ef_nil | apply seqQ.normal | apply loopQ.ret | apply ef_ret | apply seqQ.ret | apply blockQ.ret | apply ef_block | apply ef_skip | (apply ef_condt; exact rfl; (exact (rfl : true = true))))
                (refine fin1 rfl (by exact rfl) rfl ?_)
                rw [HG.out]
              · repeat (first | apply ef_seq | (apply ef_mv; exact rfl; exact rfl) | (apply ef_bin; exact rfl; exact rfl; exact rfl; (first | exact cmp_t rfl (by first | exact rfl | (simp only [cmpP]; omega)) | exact cmp_f rfl (by simp only [cmpP]; omega))) | (apply ef_gy; exact rfl; (first | exact (rfl : true = true) | exact (rfl : false = false))) | (apply ef_gn; exact rfl; (exact (rfl : false = false)); exact rfl) | (apply ef_pick; exact rfl; exact rfl; exact rfl) | (apply ef_notF; exact rfl; exact rfl) | (apply ef_sx; exact rfl; exact rfl; exact rfl; omega; (assumption)) | (apply ef_sln; exact rfl; exact rfl) | apply ef_nil | apply seqQ.normal | apply loopQ.ret | apply ef_ret | apply seqQ.ret | apply blockQ.ret | apply ef_block | apply ef_skip | (apply ef_condt; exact rfl; (exact (rfl : true = true))))
                (refine fin1 rfl (by exact rfl) rfl ?_)
                rw [HG.out]
          · by_cases h0 : i = 0
            · have HG := hfin (by rw [HB.out]; simp [letB, h0]; omega)
              clear hfin hgo
              repeat (first | apply ef_seq | (apply ef_mv; exact rfl; exact rfl) | (apply ef_bin; exact rfl; exact rfl; exact rfl; (first | exact cmp_t rfl (by first | exact rfl | (simp only [cmpP]; omega)) | exact cmp_f rfl (by simp only [cmpP]; omega))) | (apply ef_gy; exact rfl; (first | exact (rfl : true = true) | exact (rfl : false = false))) | (apply ef_gn; exact rfl; (first | exact (rfl : true = true) | exact (rfl : false = false)); exact rfl) | (apply ef_gu; exact rfl; exact rfl) | (apply ef_pick; exact rfl; exact rfl; exact rfl) | (apply ef_notF; exact rfl; exact rfl) | (apply ef_sx; exact rfl; exact rfl; exact rfl; omega; (assumption)) | (apply ef_sln; exact rfl; exact rfl) | apply ef_nil | apply seqQ.normal | apply loopQ.ret | apply ef_ret | apply seqQ.ret | apply blockQ.ret | apply ef_block | apply ef_skip | (apply ef_condt; exact rfl; (exact (rfl : true = true))))
              (refine fin1 rfl (by exact rfl) rfl ?_)
              rw [HG.out]
            · by_cases h45 : c.toNat = 45
              · have HG := hgo (by rw [HB.out]; simp [h0, h45])
                clear hfin hgo
                repeat (first | apply ef_seq | (apply ef_mv; exact rfl; exact rfl) | (apply ef_bin; exact rfl; exact rfl; exact rfl; (first | exact cmp_t rfl (by first | exact rfl | (simp only [cmpP]; omega)) | exact cmp_f rfl (by simp only [cmpP]; omega) | ((with_reducible refine bin_add (wrap_of ?_ ?_)) <;> omega))) | (apply ef_gy; exact rfl; (first | exact (rfl : true = true) | exact (rfl : false = false))) | (apply ef_gn; exact rfl; (exact (rfl : false = false)); exact rfl) | (apply ef_gu; exact rfl; exact rfl) | (apply ef_pick; exact rfl; exact rfl; exact rfl) | (apply ef_notF; exact rfl; exact rfl) | (apply ef_sx; exact rfl; exact rfl; exact rfl; omega; (assumption)) | (apply ef_sln; exact rfl; exact rfl) | apply ef_nil | apply seqQ.normal | apply blockQ.normal | apply ef_block | apply ef_skip | (apply ef_condt; exact rfl; (exact (rfl : true = true))) | (apply ef_condf; exact rfl; (exact (rfl : false = false))))
                (refine loopQ.normal _ _ ⟨i + 1, ⟨hlt, HG.out⟩, (by first | (simp only; omega) | omega), ⟨by ((repeat (refine Hold.cons (by exact rfl) ?_)); exact Hold.nil), by ((repeat (refine Hold.cons (by exact rfl) ?_)); exact Hold.nil)⟩, .inl (Nat.le_refl _), (by first | exact List.take_length | exact rfl | exact takeF rfl rfl)⟩)
              · by_cases d1 : c.toNat < 48
                · have HG := hfin (by rw [HB.out]; simp [letB]; omega)
                  clear hfin hgo
                  repeat (first | apply ef_seq | (apply ef_mv; exact rfl; exact rfl) | (apply ef_bin; exact rfl; exact rfl; exact rfl; (first | exact cmp_t rfl (by first | exact rfl | (simp only [cmpP]; omega)) | exact cmp_f rfl (by simp only [cmpP]; omega))) | (apply ef_gy; exact rfl; (first | exact (rfl : true = true) | exact (rfl : false = false))) | (apply ef_gn; exact rfl; (first | exact (rfl : true = true) | exact (rfl : false = false)); exact rfl) | (apply ef_pick; exact rfl; exact rfl; exact rfl) | (apply ef_notF; exact rfl; exact rfl) | (apply ef_sx; exact rfl; exact rfl; exact rfl; omega; (assumption)) | (apply ef_sln; exact rfl; exact rfl) | apply ef_nil | apply seqQ.normal | apply loopQ.ret | apply ef_ret | apply seqQ.ret | apply blockQ.ret | apply ef_block | apply ef_skip | (apply ef_condt; exact rfl; (exact (rfl : true = true))))
                  (refine fin1 rfl (by exact rfl) rfl ?_)
                  rw [HG.out]
                · by_cases d2 : 57 < c.toNat
                  · have HG := hfin (by rw [HB.out]; simp [letB]; omega)
                    clear hfin hgo
                    repeat (first | apply ef_seq | (apply ef_mv; exact rfl; exact rfl) | (apply ef_bin; exact rfl; exact rfl; exact rfl; (first | exact cmp_t rfl (by first | exact rfl | (simp only [cmpP]; omega)) | exact cmp_f rfl (by simp only [cmpP]; omega))) | (apply ef_gy; exact rfl; (first | exact (rfl : true = true) | exact (rfl : false = false))) | (apply ef_gn; exact rfl; (exact (rfl : false = false)); exact rfl) | (apply ef_pick; exact rfl; exact rfl; exact rfl) | (apply ef_notF; exact rfl; exact rfl) | (apply ef_sx; exact rfl; exact rfl; exact rfl; omega; (assumption)) | (apply ef_sln; exact rfl; exact rfl) | apply ef_nil | apply seqQ.normal | apply loopQ.ret | apply ef_ret | apply seqQ.ret | apply blockQ.ret | apply ef_block | apply ef_skip | (apply ef_condt; exact rfl; (exact (rfl : true = true))))
                    (refine fin1 rfl (by exact rfl) rfl ?_)
                    rw [HG.out]
                  · have HG := hgo (by rw [HB.out]; simp [letB]; omega)
                    clear hfin hgo
                    repeat (first | apply ef_seq | (apply ef_mv; exact rfl; exact rfl) | (apply ef_bin; exact rfl; exact rfl; exact rfl; (first | exact cmp_t rfl (by first | exact rfl | (simp only [cmpP]; omega)) | exact cmp_f rfl (by simp only [cmpP]; omega) | ((with_reducible refine bin_add (wrap_of ?_ ?_)) <;> omega))) | (apply ef_gy; exact rfl; (first | exact (rfl : true = true) | exact (rfl : false = false))) | (apply ef_gn; exact rfl; (exact (rfl : false = false)); exact rfl) | (apply ef_pick; exact rfl; exact rfl; exact rfl) | (apply ef_notF; exact rfl; exact rfl) | (apply ef_sx; exact rfl; exact rfl; exact rfl; omega; (assumption)) | (apply ef_sln; exact rfl; exact rfl) | apply ef_nil | apply seqQ.normal | apply blockQ.normal | apply ef_block | apply ef_skip | (apply ef_condt; exact rfl; (exact (rfl : true = true))) | (apply ef_condf; exact rfl; (exact (rfl : false = false))))
                    (refine loopQ.normal _ _ ⟨i + 1, ⟨hlt, HG.out⟩, (by first | (simp only; omega) | omega), ⟨by ((repeat (refine Hold.cons (by exact rfl) ?_)); exact Hold.nil), by ((repeat (refine Hold.cons (by exact rfl) ?_)); exact Hold.nil)⟩, .inl (Nat.le_refl _), (by first | exact List.take_length | exact rfl | exact takeF rfl rfl)⟩)
      · repeat (first | apply ef_seq | (apply ef_mv; exact rfl; exact rfl) | (apply ef_bin; exact rfl; exact rfl; exact rfl; (exact cmp_f rfl (by simp only [cmpP]; omega))) | (apply ef_sln; exact rfl; exact rfl) | apply ef_nil | apply seqQ.normal | apply loopQ.exit | apply ef_ret | apply ef_exit | apply seqQ.exit | apply blockQ.here | (apply ef_condf; exact rfl; (exact (rfl : false = false))))
        (refine fin1 rfl (by exact rfl) rfl ?_)
        rw [HNM.out, hz, List.drop_eq_nil_of_le (by omega), inB_iff.2 (by omega)]; rfl
theorem bIsName_c (k : Nat) (s : ByteArray) (hs : s.size ≤ 1000) (h : MHeap) : orA (k + 1) 71 [.lit (.string s)] h = some (Bo (nmB s), h) :=
  callL (args' := [.lit (.string s)]) (frzL_lt rfl) rfl (bIsName_z k s hs)
theorem mf_HasText : MT.mf 72 = some ⟨18, [(.tmp 4)], (.seq (.reg [⟨none, some 4, .mv (.c (.lit (.bool false)))⟩]) (.seq (.seq (.reg [⟨none, some 5, .mv (.c (.lit (.int .i64 0)))⟩]) (.block 0 (.loop [5, 0, 1] (.seq (.seq (.reg [⟨none, some 6, .mv (.s 5)⟩, ⟨none, some 7, .mv (.s 0)⟩, ⟨none, some 8, .len (.s 7)⟩, ⟨none, some 9, .bin .lss (.s 6) (.s 8)⟩]) (.cond (.s 9) .skip (.exit 0))) (.seq (.block 1 (.seq (.reg [⟨none, some 12, .mv (.s 0)⟩, ⟨none, some 13, .mv (.s 5)⟩, ⟨none, some 14, .ia 1 (.s 12) (.s 13)⟩, ⟨none, some 15, .ld none (.s 14)⟩, ⟨none, some 16, .mv (.s 1)⟩, ⟨none, some 17, .seq false (.s 15) (.s 16)⟩]) (.cond (.s 17) (.seq (.reg [⟨none, some 4, .mv (.c (.lit (.bool true)))⟩]) .ret) .skip))) (.reg [⟨none, some 10, .mv (.s 5)⟩, ⟨none, some 11, .bin .add (.s 10) (.c (.lit (.int .i64 1)))⟩, ⟨none, some 5, .mv (.s 11)⟩])))))) (.seq (.reg [⟨none, some 4, .mv (.c (.lit (.bool false)))⟩]) .ret)))⟩ := by kernel_rfl
theorem HasText_z (k : Nat) (xs : List ByteArray) (s : ByteArray) (hx : xs.length ≤ 1000) : runZ MT (orA k) (itA k) 4000000 72 [.sl (xs.map encS), encS s] [] = some (Bo (xs.any (· == s)), []) := by
  have hl : (MV.sl (xs.map encS)).slen = some xs.length := by simp [MV.slen]
  refine runZ_of mf_HasText (by simp) ?_
  simp only [argsL]
  repeat (first | apply ef_seq | (apply ef_mv; exact rfl; exact rfl) | apply ef_nil | apply seqQ.normal | apply ef_block)
  refine ef_loopf (α := Nat) (fun i => i ≤ xs.length ∧ xs.any (· == s) = (xs.drop i).any (· == s)) (fun i => [(5, I64 (i : Int))]) [(0, .sl (xs.map encS)), (1, encS s)] (fun _ => []) (fun i => xs.length - i) 0 [5] (fun _ => rfl) (by ((repeat (refine Hold.cons (by exact rfl) ?_)); exact Hold.nil)) (by ((repeat (refine Hold.cons (by exact rfl) ?_)); exact Hold.nil)) rfl rfl ⟨by omega, rfl⟩ (by simp; omega) ?_
  rintro i ⟨hi, hz⟩
  try simp only at hi hz ⊢
  by_cases hlt : i < xs.length
  · have e1 := at_map encS xs i hlt
    have HS := Lib.hid (drop_at xs i hlt)
    have HZ := Lib.hid hz
    clear hz
    generalize xs[i] = x at e1 HS
    have hb : (negIf false (x == s)) = (x == s) := rfl
    generalize hq : (x == s) = q at hb
    have HQ := Lib.hid hq
    clear hq
    cases q
    · repeat (first | apply ef_seq | (apply ef_mv; exact rfl; exact rfl) | (apply ef_bin; exact rfl; exact rfl; exact rfl; (first | exact cmp_t rfl (by first | exact rfl | (simp only [cmpP]; omega)) | ((with_reducible refine bin_add (wrap_of ?_ ?_)) <;> omega))) | (apply ef_len; exact rfl; exact rfl; (assumption)) | (apply ef_ldr; exact rfl; exact rfl; (exact rfl)) | (apply ef_ias; exact rfl; exact rfl; exact rfl; (omega); assumption; exact rfl) | (apply ef_sq; exact rfl; exact rfl; exact rfl) | apply ef_nil | apply seqQ.normal | apply blockQ.normal | apply ef_block | apply ef_skip | (apply ef_condt; exact rfl; (exact (rfl : true = true))) | (apply ef_condf; exact rfl; (assumption)))
      (refine loopQ.normal _ _ ⟨i + 1, ⟨hlt, by rw [HZ.out, HS.out, List.any_cons, HQ.out]; rfl⟩, (by first | (simp only; omega) | omega), ⟨by ((repeat (refine Hold.cons (by exact rfl) ?_)); exact Hold.nil), by ((repeat (refine Hold.cons (by exact rfl) ?_)); exact Hold.nil)⟩, .inl (Nat.le_refl _), (by first | exact List.take_length | exact rfl | exact takeF rfl rfl)⟩)
    · repeat (first | apply ef_seq | (apply ef_mv; exact rfl; exact rfl) | (apply ef_bin; exact rfl; exact rfl; exact rfl; (exact cmp_t rfl (by first | exact rfl | (simp only [cmpP]; omega)))) | (apply ef_len; exact rfl; exact rfl; (assumption)) | (apply ef_ldr; exact rfl; exact rfl; (exact rfl)) | (apply ef_ias; exact rfl; exact rfl; exact rfl; (omega); assumption; exact rfl) | (apply ef_sq; exact rfl; exact rfl; exact rfl) | apply ef_nil | apply seqQ.normal | apply loopQ.ret | apply ef_ret | apply seqQ.ret | apply blockQ.ret | apply ef_block | apply ef_skip | (apply ef_condt; exact rfl; (first | exact (rfl : true = true) | assumption)))
      (refine fin1 rfl (by exact rfl) rfl ?_)
      rw [HZ.out, HS.out, List.any_cons, HQ.out]; rfl
  · repeat (first | apply ef_seq | (apply ef_mv; exact rfl; exact rfl) | (apply ef_bin; exact rfl; exact rfl; exact rfl; (exact cmp_f rfl (by simp only [cmpP]; omega))) | (apply ef_len; exact rfl; exact rfl; (assumption)) | apply ef_nil | apply seqQ.normal | apply loopQ.exit | apply ef_ret | apply ef_exit | apply seqQ.exit | apply blockQ.here | (apply ef_condf; exact rfl; (exact (rfl : false = false))))
    (refine fin1 rfl (by exact rfl) rfl ?_)
    rw [hz, List.drop_eq_nil_of_le (by omega)]; rfl
theorem HasText_c (k : Nat) (xs : List ByteArray) (s : ByteArray) (hx : xs.length ≤ 1000) (h : MHeap) {v : MV} (hv : frz 0 [] h 8 v = some (.sl (xs.map encS))) {t : Bool} (ht : xs.any (· == s) = t) : orA (k + 1) 72 [v, encS s] h = some (Bo t, h) :=
  callL (args' := [.sl (xs.map encS), encS s]) (by simp [List.mapM_cons, hv, frz_lt (m := encS s) rfl]) rfl (by rw [← ht]; exact HasText_z k xs s hx)
theorem mf_IsLine : MT.mf 73 = some ⟨11, [(.tmp 4)], (.seq (.reg [⟨none, some 2, .box 2 (.s 0)⟩, ⟨none, some 4, .mv (.c (.lit (.bool false)))⟩]) (.seq (.reg [⟨none, some 5, .mv (.s 1)⟩, ⟨none, some 6, .fa 0 (.s 2)⟩, ⟨none, some 7, .ld none (.s 6)⟩, ⟨none, some 8, .len (.s 7)⟩, ⟨none, some 9, .bin .sub (.s 8) (.c (.lit (.int .i64 1)))⟩, ⟨none, some 10, .call 22 [.s 5, (.c (.lit (.int .i64 0))), .s 9]⟩, ⟨none, some 4, .mv (.s 10)⟩]) .ret))⟩ := by kernel_rfl
theorem IsLine_c (k : Nat) (n : Nt) (i : Int) (hn : n.ls.length ≤ 1000) (h : MHeap) {b : Bool} (hb : inB i 0 ((n.ls.length : Int) - 1) = b) : orA (k + 2) 73 [encN n, I64 i] h = some (Bo b, h) := by
  have hs1 : (MV.sl (n.ls.map encLn)).slen = some n.ls.length := by simp [MV.slen]
  refine callL (args' := [encN n, I64 i]) (frzL_lt (by simp [ltL, MV.lt, ltL_Ln, ltL_Cr])) rfl (runZ_of mf_IsLine (by simp) ?_)
  simp only [argsL]
  have hw := fun h => Within_c k i 0 ((n.ls.length : Int) - 1) h hb
  repeat (first | apply ef_seq | (apply ef_mv; exact rfl; exact rfl) | (apply ef_bin; exact rfl; exact rfl; exact rfl; (((with_reducible refine bin_sub (wrap_of ?_ ?_)) <;> omega))) | (apply ef_len; exact rfl; exact rfl; (assumption)) | (apply ef_ldp; exact rfl; exact rfl; (exact rfl); exact rfl; (exact rfl); (exact rfl)) | (apply ef_fap; exact rfl; exact rfl) | (apply ef_box; exact rfl; exact rfl; exact rfl; exact rfl) | apply ef_nil | apply seqQ.normal | apply ef_ret | (apply ef_call; exact rfl; ((repeat (apply XVs.cons; exact rfl)); exact XVs.nil); (with_reducible exact hw _)))
  (refine fin1 rfl (by exact rfl) rfl ?_)
  rfl
theorem mf_risPosition : MT.mf 74 = some ⟨5, [(.tmp 2)], (.seq (.reg [⟨none, some 2, .mv (.c (.lit (.bool false)))⟩]) (.seq (.reg [⟨none, some 3, .mv (.s 0)⟩, ⟨none, some 4, .call 22 [.s 3, (.c (.lit (.int .i64 0))), (.c (.lit (.int .i64 1000000)))]⟩, ⟨none, some 2, .mv (.s 4)⟩]) .ret))⟩ := by kernel_rfl
theorem risPosition_c (k : Nat) (n : Int) (h : MHeap) {b : Bool} (hb : inB n 0 1000000 = b) : orA (k + 2) 74 [I64 n] h = some (Bo b, h) := by
  refine callL (args' := [I64 n]) (frzL_lt rfl) rfl (runZ_of mf_risPosition (by simp) ?_)
  simp only [argsL]
  have hw := fun h => Within_c k n 0 1000000 h hb
  repeat (first | apply ef_seq | (apply ef_mv; exact rfl; exact rfl) | apply ef_nil | apply seqQ.normal | apply ef_ret | (apply ef_call; exact rfl; ((repeat (apply XVs.cons; exact rfl)); exact XVs.nil); (with_reducible exact hw _)))
  (refine fin1 rfl (by exact rfl) rfl ?_)
  rfl
theorem mf_IsDifference : MT.mf 47 = some ⟨5, [(.tmp 2)], (.seq (.reg [⟨none, some 2, .mv (.c (.lit (.bool false)))⟩]) (.seq (.reg [⟨none, some 3, .mv (.s 0)⟩, ⟨none, some 4, .call 22 [.s 3, (.c (.lit (.int .i64 (-10000)))), (.c (.lit (.int .i64 10000)))]⟩, ⟨none, some 2, .mv (.s 4)⟩]) .ret))⟩ := by kernel_rfl
theorem IsDifference_c (k : Nat) (n : Int) (h : MHeap) {b : Bool} (hb : inB n (-10000) 10000 = b) : orA (k + 2) 47 [I64 n] h = some (Bo b, h) := by
  refine callL (args' := [I64 n]) (frzL_lt rfl) rfl (runZ_of mf_IsDifference (by simp) ?_)
  simp only [argsL]
  have hw := fun h => Within_c k n (-10000) 10000 h hb
  repeat (first | apply ef_seq | (apply ef_mv; exact rfl; exact rfl) | apply ef_nil | apply seqQ.normal | apply ef_ret | (apply ef_call; exact rfl; ((repeat (apply XVs.cons; exact rfl)); exact XVs.nil); (with_reducible exact hw _)))
  (refine fin1 rfl (by exact rfl) rfl ?_)
  rfl
end Go.Proofs.Ytbdleggmdbihnaa

/- The contract of the reference's check of a net. -/
namespace Go.Proofs.Ytbdleggmdbihnaa
open Go.RowKit
set_option linter.unusedVariables false
def nmL (n : Nt) (i : Nat) : List MV := ((n.ls.take i).map (·.1)).map encS
theorem nmL_len {n : Nt} {i : Nat} (h : i ≤ n.ls.length) : (nmL n i).length = i := by simp [nmL]; omega
theorem ltL_nm (m : Nat) (n : Nt) (i : Nat) : ltL m (nmL n i) = true := ltL_S m _
abbrev nmO (n : Nt) (i : Nat) : MObj := ⟨i, decide (i = 0), 1, nmL n i⟩
abbrev nmH (n : Nt) (i : Nat) : MHeap := [⟨0, false, 2, [encN n]⟩, nmO n i]
theorem nm_next {n : Nt} {i : Nat} {l : Ln} (h : n.ls[i]? = some l) : nmL n (i + 1) = nmL n i ++ [encS l.1] := by
  unfold nmL; rw [List.take_add_one, h]; simp
theorem ltL_app2 (m : Nat) : ∀ (a b : List MV), ltL m (a ++ b) = (ltL m a && ltL m b)
  | [], b => by simp [ltL]
  | x :: a, b => by simp [ltL, ltL_app2 m a b, Bool.and_assoc]
theorem frz_row {h : MHeap} {id k g : Nat} {o : MObj} {es : List MV} (ho : h[id]? = some o) (hg : o.g = g) (hk : k = es.length) (hl : ltL 0 es = true) (he : o.es = es) : frz 0 [] h 8 (.arr id 0 k g) = some (.sl es) := by
  subst he hk
  exact frz_arr ho hg (by simp) hl (by simp)
theorem mf_rCheckNet : MT.mf 46 = some ⟨161, [(.tmp 2), (.tmp 3)], (.seq (.reg [⟨none, some 1, .box 2 (.s 0)⟩, ⟨none, some 2, .mv (.c (.lit (.int .i64 0)))⟩, ⟨none, some 3, .mv (.c (.lit (.int .i64 0)))⟩]) (.seq (.seq (.reg [⟨none, some 10, .fa 0 (.s 1)⟩, ⟨none, some 11, .ld none (.s 10)⟩, ⟨none, some 12, .len (.s 11)⟩, ⟨none, some 13, .bin .eql (.s 12) (.c (.lit (.int .i64 0)))⟩]) (.cond (.s 13) (.seq (.reg [⟨none, some 2, .mv (.c (.lit (.int .i64 0)))⟩, ⟨none, some 3, .mv (.c (.lit (.int .i64 10)))⟩]) .ret) .skip)) (.seq (.seq (.reg [⟨none, some 14, .fa 0 (.s 1)⟩, ⟨none, some 15, .ld none (.s 14)⟩, ⟨none, some 16, .len (.s 15)⟩, ⟨none, some 17, .bin .gtr (.s 16) (.c (.lit (.int .i64 8)))⟩, ⟨none, some 18, .mv (.s 17)⟩, ⟨some (18, false), some 19, .fa 1 (.s 1)⟩, ⟨some (18, false), some 20, .ld none (.s 19)⟩, ⟨some (18, false), some 21, .len (.s 20)⟩, ⟨some (18, false), some 22, .bin .gtr (.s 21) (.c (.lit (.int .i64 16)))⟩, ⟨none, some 23, .pick (.s 18) (.c (.lit (.bool true))) (.s 22)⟩]) (.cond (.s 23) (.seq (.reg [⟨none, some 2, .mv (.c (.lit (.int .i64 0)))⟩, ⟨none, some 3, .mv (.c (.lit (.int .i64 8)))⟩]) .ret) .skip)) (.seq (.reg [⟨none, some 4, .nil0 1⟩]) (.seq (.seq (.reg [⟨none, some 5, .mv (.c (.lit (.int .i64 0)))⟩]) (.block 0 (.loop [5, 1, 4] (.seq (.seq (.reg [⟨none, some 24, .mv (.s 5)⟩, ⟨none, some 25, .fa 0 (.s 1)⟩, ⟨none, some 26, .ld none (.s 25)⟩, ⟨none, some 27, .len (.s 26)⟩, ⟨none, some 28, .bin .lss (.s 24) (.s 27)⟩]) (.cond (.s 28) .skip (.exit 0))) (.seq (.block 1 (.seq (.seq (.reg [⟨none, some 31, .fa 0 (.s 1)⟩, ⟨none, some 32, .ld none (.s 31)⟩, ⟨none, some 33, .mv (.s 5)⟩, ⟨none, some 34, .ia 2 (.s 32) (.s 33)⟩, ⟨none, some 35, .fa 0 (.s 34)⟩, ⟨none, some 36, .ld none (.s 35)⟩, ⟨none, some 37, .call 71 [.s 36]⟩, ⟨none, some 38, .un .not (.s 37)⟩]) (.cond (.s 38) (.seq (.reg [⟨none, some 39, .mv (.s 5)⟩, ⟨none, some 2, .mv (.s 39)⟩, ⟨none, some 3, .mv (.c (.lit (.int .i64 4)))⟩]) .ret) .skip)) (.seq (.seq (.reg [⟨none, some 40, .mv (.s 4)⟩, ⟨none, some 41, .fa 0 (.s 1)⟩, ⟨none, some 42, .ld none (.s 41)⟩, ⟨none, some 43, .mv (.s 5)⟩, ⟨none, some 44, .ia 2 (.s 42) (.s 43)⟩, ⟨none, some 45, .fa 0 (.s 44)⟩, ⟨none, some 46, .ld none (.s 45)⟩, ⟨none, some 47, .call 72 [.s 40, .s 46]⟩]) (.cond (.s 47) (.seq (.reg [⟨none, some 48, .mv (.s 5)⟩, ⟨none, some 2, .mv (.s 48)⟩, ⟨none, some 3, .mv (.c (.lit (.int .i64 5)))⟩]) .ret) .skip)) (.reg [⟨none, some 49, .mv (.s 4)⟩, ⟨none, some 50, .fa 0 (.s 1)⟩, ⟨none, some 51, .ld none (.s 50)⟩, ⟨none, some 52, .mv (.s 5)⟩, ⟨none, some 53, .ia 2 (.s 51) (.s 52)⟩, ⟨none, some 54, .fa 0 (.s 53)⟩, ⟨none, some 55, .ld none (.s 54)⟩, ⟨none, some 56, .bsl (.lit (.string ⟨#[]⟩)) 1 1 [(0, (.s 55))]⟩, ⟨none, some 57, .app 1 (.s 49) (.s 56)⟩, ⟨none, some 4, .mv (.s 57)⟩])))) (.reg [⟨none, some 29, .mv (.s 5)⟩, ⟨none, some 30, .bin .add (.s 29) (.c (.lit (.int .i64 1)))⟩, ⟨none, some 5, .mv (.s 30)⟩])))))) (.seq (.seq (.reg [⟨none, some 6, .mv (.c (.lit (.int .i64 0)))⟩]) (.block 2 (.loop [6, 1] (.seq (.seq (.reg [⟨none, some 58, .mv (.s 6)⟩, ⟨none, some 59, .fa 1 (.s 1)⟩, ⟨none, some 60, .ld none (.s 59)⟩, ⟨none, some 61, .len (.s 60)⟩, ⟨none, some 62, .bin .lss (.s 58) (.s 61)⟩]) (.cond (.s 62) .skip (.exit 2))) (.seq (.block 3 (.seq (.reg [⟨none, some 65, .fa 1 (.s 1)⟩, ⟨none, some 66, .ld none (.s 65)⟩, ⟨none, some 67, .mv (.s 6)⟩, ⟨none, some 68, .ia 6 (.s 66) (.s 67)⟩, ⟨none, some 69, .ld (some 6) (.s 68)⟩, ⟨none, some 7, .new (.agg [(.lit (.int .i64 0)), (.lit (.int .i64 0)), (.lit (.int .i64 0)), (.lit (.int .i64 0)), (.lit (.int .i64 0)), (.lit (.int .i64 0))])⟩, ⟨none, none, .st 6 (.s 7) (.s 69)⟩]) (.seq (.seq (.reg [⟨none, some 70, .ld (some 2) (.s 1)⟩, ⟨none, some 71, .fa 0 (.s 7)⟩, ⟨none, some 72, .ld none (.s 71)⟩, ⟨none, some 73, .call 73 [.s 70, .s 72]⟩, ⟨none, some 74, .un .not (.s 73)⟩, ⟨none, some 75, .mv (.s 74)⟩, ⟨some (75, false), some 76, .ld (some 2) (.s 1)⟩, ⟨some (75, false), some 77, .fa 1 (.s 7)⟩, ⟨some (75, false), some 78, .ld none (.s 77)⟩, ⟨some (75, false), some 79, .call 73 [.s 76, .s 78]⟩, ⟨some (75, false), some 80, .un .not (.s 79)⟩, ⟨none, some 81, .pick (.s 75) (.c (.lit (.bool true))) (.s 80)⟩]) (.cond (.s 81) (.seq (.reg [⟨none, some 82, .mv (.s 6)⟩, ⟨none, some 2, .mv (.s 82)⟩, ⟨none, some 3, .mv (.c (.lit (.int .i64 6)))⟩]) .ret) .skip)) (.seq (.seq (.reg [⟨none, some 83, .fa 0 (.s 1)⟩, ⟨none, some 84, .ld none (.s 83)⟩, ⟨none, some 85, .fa 0 (.s 7)⟩, ⟨none, some 86, .ld none (.s 85)⟩, ⟨none, some 87, .ia 2 (.s 84) (.s 86)⟩, ⟨none, some 88, .fa 1 (.s 87)⟩, ⟨none, some 89, .ld none (.s 88)⟩, ⟨none, some 90, .mv (.s 89)⟩, ⟨some (90, false), some 91, .fa 0 (.s 1)⟩, ⟨some (90, false), some 92, .ld none (.s 91)⟩, ⟨some (90, false), some 93, .fa 1 (.s 7)⟩, ⟨some (90, false), some 94, .ld none (.s 93)⟩, ⟨some (90, false), some 95, .ia 2 (.s 92) (.s 94)⟩, ⟨some (90, false), some 96, .fa 1 (.s 95)⟩, ⟨some (90, false), some 97, .ld none (.s 96)⟩, ⟨some (90, false), some 98, .un .not (.s 97)⟩, ⟨none, some 99, .pick (.s 90) (.c (.lit (.bool true))) (.s 98)⟩]) (.cond (.s 99) (.seq (.reg [⟨none, some 100, .mv (.s 6)⟩, ⟨none, some 2, .mv (.s 100)⟩, ⟨none, some 3, .mv (.c (.lit (.int .i64 15)))⟩]) .ret) .skip)) (.seq (.seq (.reg [⟨none, some 101, .fa 2 (.s 7)⟩, ⟨none, some 102, .ld none (.s 101)⟩, ⟨none, some 103, .call 74 [.s 102]⟩, ⟨none, some 104, .un .not (.s 103)⟩, ⟨none, some 105, .mv (.s 104)⟩, ⟨some (105, false), some 106, .fa 3 (.s 7)⟩, ⟨some (105, false), some 107, .ld none (.s 106)⟩, ⟨some (105, false), some 108, .call 74 [.s 107]⟩, ⟨some (105, false), some 109, .un .not (.s 108)⟩, ⟨none, some 110, .pick (.s 105) (.c (.lit (.bool true))) (.s 109)⟩, ⟨none, some 111, .mv (.s 110)⟩, ⟨some (111, false), some 112, .fa 4 (.s 7)⟩, ⟨some (111, false), some 113, .ld none (.s 112)⟩, ⟨some (111, false), some 114, .call 47 [.s 113]⟩, ⟨some (111, false), some 115, .un .not (.s 114)⟩, ⟨none, some 116, .pick (.s 111) (.c (.lit (.bool true))) (.s 115)⟩, ⟨none, some 117, .mv (.s 116)⟩, ⟨some (117, false), some 118, .fa 5 (.s 7)⟩, ⟨some (117, false), some 119, .ld none (.s 118)⟩, ⟨some (117, false), some 120, .call 22 [.s 119, (.c (.lit (.int .i64 1))), (.c (.lit (.int .i64 10)))]⟩, ⟨some (117, false), some 121, .un .not (.s 120)⟩, ⟨none, some 122, .pick (.s 117) (.c (.lit (.bool true))) (.s 121)⟩]) (.cond (.s 122) (.seq (.reg [⟨none, some 123, .mv (.s 6)⟩, ⟨none, some 2, .mv (.s 123)⟩, ⟨none, some 3, .mv (.c (.lit (.int .i64 2)))⟩]) .ret) .skip)) (.seq (.reg [⟨none, some 8, .mv (.c (.lit (.int .i64 0)))⟩]) (.block 4 (.loop [8, 6, 1, 7] (.seq (.seq (.reg [⟨none, some 124, .mv (.s 8)⟩, ⟨none, some 125, .mv (.s 6)⟩, ⟨none, some 126, .bin .lss (.s 124) (.s 125)⟩]) (.cond (.s 126) .skip (.exit 4))) (.seq (.block 5 (.seq (.reg [⟨none, some 129, .fa 1 (.s 1)⟩, ⟨none, some 130, .ld none (.s 129)⟩, ⟨none, some 131, .mv (.s 8)⟩, ⟨none, some 132, .ia 6 (.s 130) (.s 131)⟩, ⟨none, some 133, .ld (some 6) (.s 132)⟩, ⟨none, some 9, .new (.agg [(.lit (.int .i64 0)), (.lit (.int .i64 0)), (.lit (.int .i64 0)), (.lit (.int .i64 0)), (.lit (.int .i64 0)), (.lit (.int .i64 0))])⟩, ⟨none, none, .st 6 (.s 9) (.s 133)⟩]) (.seq (.reg [⟨none, some 134, .fa 0 (.s 9)⟩, ⟨none, some 135, .ld none (.s 134)⟩, ⟨none, some 136, .fa 0 (.s 7)⟩, ⟨none, some 137, .ld none (.s 136)⟩, ⟨none, some 138, .bin .eql (.s 135) (.s 137)⟩, ⟨none, some 139, .mv (.s 138)⟩, ⟨some (139, true), some 140, .fa 2 (.s 9)⟩, ⟨some (139, true), some 141, .ld none (.s 140)⟩, ⟨some (139, true), some 142, .fa 2 (.s 7)⟩, ⟨some (139, true), some 143, .ld none (.s 142)⟩, ⟨some (139, true), some 144, .bin .eql (.s 141) (.s 143)⟩, ⟨none, some 145, .pick (.s 139) (.s 144) (.c (.lit (.bool false)))⟩, ⟨none, some 146, .mv (.s 145)⟩, ⟨some (146, false), some 147, .fa 1 (.s 9)⟩, ⟨some (146, false), some 148, .ld none (.s 147)⟩, ⟨some (146, false), some 149, .fa 1 (.s 7)⟩, ⟨some (146, false), some 150, .ld none (.s 149)⟩, ⟨some (146, false), some 151, .bin .eql (.s 148) (.s 150)⟩, ⟨some (146, false), some 152, .mv (.s 151)⟩, ⟨some (152, true), some 153, .fa 3 (.s 9)⟩, ⟨some (152, true), some 154, .ld none (.s 153)⟩, ⟨some (152, true), some 155, .fa 3 (.s 7)⟩, ⟨some (152, true), some 156, .ld none (.s 155)⟩, ⟨some (152, true), some 157, .bin .eql (.s 154) (.s 156)⟩, ⟨some (146, false), some 158, .pick (.s 152) (.s 157) (.c (.lit (.bool false)))⟩, ⟨none, some 159, .pick (.s 146) (.c (.lit (.bool true))) (.s 158)⟩]) (.cond (.s 159) (.seq (.reg [⟨none, some 160, .mv (.s 6)⟩, ⟨none, some 2, .mv (.s 160)⟩, ⟨none, some 3, .mv (.c (.lit (.int .i64 23)))⟩]) .ret) .skip)))) (.reg [⟨none, some 127, .mv (.s 8)⟩, ⟨none, some 128, .bin .add (.s 127) (.c (.lit (.int .i64 1)))⟩, ⟨none, some 8, .mv (.s 128)⟩]))))))))))) (.reg [⟨none, some 63, .mv (.s 6)⟩, ⟨none, some 64, .bin .add (.s 63) (.c (.lit (.int .i64 1)))⟩, ⟨none, some 6, .mv (.s 64)⟩])))))) (.seq (.reg [⟨none, some 2, .mv (.c (.lit (.int .i64 0)))⟩, ⟨none, some 3, .mv (.c (.lit (.int .i64 0)))⟩]) .ret)))))))⟩ := by kernel_rfl
set_option maxHeartbeats 4000000 in
theorem rCheckNet_z (k : Nat) (n : Nt) (hb : BdN n) : runZ MT (orA (k + 2)) (itA (k + 2)) 4000000 46 [encN n] [] = some (.tup [I64 (netF n).1, I64 (netF n).2], []) := by
  obtain ⟨b1, b2, b3⟩ := hb
  have hs1 : (MV.sl (n.ls.map encLn)).slen = some n.ls.length := by simp [MV.slen]
  have hs2 : (MV.sl (n.cs.map encCr)).slen = some n.cs.length := by simp [MV.slen]
  refine runZ_of mf_rCheckNet (by simp) ?_
  simp only [argsL]
  by_cases h0 : n.ls.length = 0
  · have HF := Lib.hid (show netF n = (0, 10) by unfold netF; rw [if_pos h0])
    repeat (first | apply ef_seq | (apply ef_mv; exact rfl; exact rfl) | (apply ef_bin; exact rfl; exact rfl; exact rfl; (exact cmp_t rfl (by first | exact rfl | (simp only [cmpP]; omega)))) | (apply ef_len; exact rfl; exact rfl; (assumption)) | (apply ef_ldp; exact rfl; exact rfl; (exact rfl); exact rfl; (exact rfl); (exact rfl)) | (apply ef_fap; exact rfl; exact rfl) | (apply ef_box; exact rfl; exact rfl; exact rfl; exact rfl) | apply ef_nil | apply seqQ.normal | apply ef_ret | apply seqQ.ret | (apply ef_condt; exact rfl; (exact (rfl : true = true))))
    (apply fin2; (· exact rfl); (· exact rfl); (· exact rfl); (· rw [HF.out]))
  · by_cases h1 : 8 < n.ls.length ∨ 16 < n.cs.length
    · have HF := Lib.hid (show netF n = (0, 8) by unfold netF; rw [if_neg h0, if_pos h1])
      by_cases h2 : n.ls.length ≤ 8
      · repeat (first | apply ef_seq | (apply ef_mv; exact rfl; exact rfl) | (apply ef_bin; exact rfl; exact rfl; exact rfl; (first | exact cmp_t rfl (by first | exact rfl | (simp only [cmpP]; omega)) | exact cmp_f rfl (by simp only [cmpP]; omega))) | (apply ef_gy; exact rfl; (exact (rfl : false = false))) | (apply ef_pick; exact rfl; exact rfl; exact rfl) | (apply ef_len; exact rfl; exact rfl; (assumption)) | (apply ef_ldp; exact rfl; exact rfl; (exact rfl); exact rfl; (exact rfl); (exact rfl)) | (apply ef_fap; exact rfl; exact rfl) | (apply ef_box; exact rfl; exact rfl; exact rfl; exact rfl) | apply ef_nil | apply seqQ.normal | apply ef_ret | apply seqQ.ret | apply ef_skip | (apply ef_condt; exact rfl; (exact (rfl : true = true))) | (apply ef_condf; exact rfl; (exact (rfl : false = false))))
        (apply fin2; (· exact rfl); (· exact rfl); (· exact rfl); (· rw [HF.out]))
      · repeat (first | apply ef_seq | (apply ef_mv; exact rfl; exact rfl) | (apply ef_bin; exact rfl; exact rfl; exact rfl; (first | exact cmp_t rfl (by first | exact rfl | (simp only [cmpP]; omega)) | exact cmp_f rfl (by simp only [cmpP]; omega))) | (apply ef_gn; exact rfl; (exact (rfl : true = true)); exact rfl) | (apply ef_pick; exact rfl; exact rfl; exact rfl) | (apply ef_len; exact rfl; exact rfl; (assumption)) | (apply ef_ldp; exact rfl; exact rfl; (exact rfl); exact rfl; (exact rfl); (exact rfl)) | (apply ef_fap; exact rfl; exact rfl) | (apply ef_box; exact rfl; exact rfl; exact rfl; exact rfl) | apply ef_nil | apply seqQ.normal | apply ef_ret | apply seqQ.ret | apply ef_skip | (apply ef_condt; exact rfl; (exact (rfl : true = true))) | (apply ef_condf; exact rfl; (exact (rfl : false = false))))
        (apply fin2; (· exact rfl); (· exact rfl); (· exact rfl); (· rw [HF.out]))
    · have HF := Lib.hid (show netF n = if (scanE lineE [] n.ls).2 = 0 then scanE (crossE n.ls) [] n.cs else scanE lineE [] n.ls by unfold netF; rw [if_neg h0, if_neg h1])
      repeat (first | apply ef_seq | (apply ef_mv; exact rfl; exact rfl) | (apply ef_bin; exact rfl; exact rfl; exact rfl; (exact cmp_f rfl (by simp only [cmpP]; omega))) | (apply ef_gy; exact rfl; (exact (rfl : false = false))) | (apply ef_pick; exact rfl; exact rfl; exact rfl) | (apply ef_len; exact rfl; exact rfl; (assumption)) | (apply ef_ldp; exact rfl; exact rfl; (exact rfl); exact rfl; (exact rfl); (exact rfl)) | (apply ef_fap; exact rfl; exact rfl) | (apply ef_box; exact rfl; exact rfl; exact rfl; exact rfl) | (apply ef_nil0; exact rfl) | apply ef_nil | apply seqQ.normal | apply ef_block | apply ef_skip | (apply ef_condf; exact rfl; (exact (rfl : false = false))))
      refine ef_loopf (α := Nat) (fun i => i ≤ n.ls.length ∧ scanE lineE [] n.ls = scanE lineE (n.ls.take i) (n.ls.drop i)) (fun i => [(5, I64 (i : Int)), (4, .arr 1 0 i i)]) [(1, .ptr 0 0 0 0)] (fun i => nmH n i) (fun i => n.ls.length - i) 0 [5, 4] (fun _ => rfl) (by ((repeat (refine Hold.cons (by exact rfl) ?_)); exact Hold.nil)) (by ((repeat (refine Hold.cons (by exact rfl) ?_)); exact Hold.nil)) rfl rfl ⟨by omega, by simp⟩ (by simp; omega) ?_
      rintro i ⟨hi, hz⟩
      try simp only at hi hz ⊢
      by_cases hlt : i < n.ls.length
      · have e1 := at_map encLn n.ls i hlt
        have HT := nm_next (List.getElem?_eq_getElem hlt)
        have hsz := b3 n.ls[i] (List.getElem_mem hlt)
        have HS0 := fun h0 => Lib.hid (scanE_step (f := lineE) hlt h0)
        have HS1 := fun h0 => Lib.hid (scanE_bad (f := lineE) hlt h0)
        have HZ := Lib.hid hz
        clear hz
        generalize n.ls[i] = l at e1 hsz HS0 HS1 HT
        obtain ⟨nb, hnb⟩ : ∃ b, nmB l.1 = b := ⟨_, rfl⟩
        obtain ⟨kn, hkn⟩ : ∃ b, (n.ls.take i).any (fun o => o.1 == l.1) = b := ⟨_, rfl⟩
        have hnm := fun h => bIsName_c (k + 1) l.1 hsz h
        have hht := HasText_c (k + 1) ((n.ls.take i).map (·.1)) l.1 (by simp; omega) (nmH n i) (v := .arr 1 0 i i) (frz_row (o := nmO n i) rfl rfl (by simp; omega) (ltL_S 0 _) rfl) (t := kn) (by rw [List.any_map]; exact hkn)
        have hle : lineE (n.ls.take i) l = firstE [unl nb 4, unl (!kn) 5] := by unfold lineE; rw [hkn, hnb]
        rw [hle] at HS0 HS1
        rw [hnb] at hnm
        clear hle hkn hnb
        cases nb
        · have HS := HS1 (by simp [firstE, unl])
          clear HS0 HS1
          repeat (first | apply ef_seq | (apply ef_mv; exact rfl; exact rfl) | (apply ef_bin; exact rfl; exact rfl; exact rfl; (exact cmp_t rfl (by first | exact rfl | (simp only [cmpP]; omega)))) | (apply ef_len; exact rfl; exact rfl; (assumption)) | (apply ef_ldr; exact rfl; exact rfl; (exact rfl)) | (apply ef_ldp; exact rfl; exact rfl; (exact rfl); exact rfl; (exact rfl); (exact rfl)) | (apply ef_ias; exact rfl; exact rfl; exact rfl; (omega); assumption; exact rfl) | (apply ef_fap; exact rfl; exact rfl) | (apply ef_far; exact rfl; exact rfl) | (apply ef_notF; exact rfl; exact rfl) | apply ef_nil | apply seqQ.normal | apply loopQ.ret | apply ef_ret | apply seqQ.ret | apply blockQ.ret | apply ef_block | apply ef_skip | (apply ef_condt; exact rfl; (exact (rfl : true = true))) | (apply ef_call; exact rfl; ((repeat (apply XVs.cons; exact rfl)); exact XVs.nil); (with_reducible exact hnm _)))
          (apply fin2; (· exact rfl); (· exact rfl); (· exact rfl); (· rw [HF.out, HZ.out, HS.out]; simp [firstE, unl]))
        · cases kn
          · have HS := HS0 (by simp [firstE, unl])
            clear HS0 HS1
            repeat (first | apply ef_seq | (apply ef_mv; exact rfl; exact rfl) | (apply ef_bin; exact rfl; exact rfl; exact rfl; (exact cmp_t rfl (by first | exact rfl | (simp only [cmpP]; omega)))) | (apply ef_len; exact rfl; exact rfl; (assumption)) | (apply ef_ldr; exact rfl; exact rfl; (exact rfl)) | (apply ef_ldp; exact rfl; exact rfl; (exact rfl); exact rfl; (exact rfl); (exact rfl)) | (apply ef_ias; exact rfl; exact rfl; exact rfl; (omega); assumption; exact rfl) | (apply ef_fap; exact rfl; exact rfl) | (apply ef_far; exact rfl; exact rfl) | (apply ef_notT; exact rfl; exact rfl) | apply ef_nil | apply seqQ.normal | apply ef_block | apply ef_skip | (apply ef_condt; exact rfl; (exact (rfl : true = true))) | (apply ef_condf; exact rfl; (exact (rfl : false = false))) | (apply ef_call; exact rfl; ((repeat (apply XVs.cons; exact rfl)); exact XVs.nil); (with_reducible exact hnm _)))
            (apply ef_call; (· exact rfl); (· ((repeat (apply XVs.cons; exact rfl)); exact XVs.nil)); · exact hht)
            repeat (first | (apply ef_mv; exact rfl; exact rfl) | (apply ef_ldr; exact rfl; exact rfl; (exact rfl)) | (apply ef_ldp; exact rfl; exact rfl; (exact rfl); exact rfl; (exact rfl); (exact rfl)) | (apply ef_ias; exact rfl; exact rfl; exact rfl; (omega); assumption; exact rfl) | (apply ef_fap; exact rfl; exact rfl) | (apply ef_far; exact rfl; exact rfl) | (apply ef_bsl; exact rfl; (repeat (apply XVs.cons; exact rfl)); exact XVs.nil; exact rfl) | apply ef_nil | apply seqQ.normal | apply ef_skip | (apply ef_condf; exact rfl; (exact (rfl : false = false))))
            (apply ef_app; (· exact rfl); (· exact rfl); (· exact rfl); (· exact rfl); (· exact rfl); (· exact rfl); (· (simp [nmL_len hi])); (· exact rfl); (· (simp [nmL_len hi]; omega)); (· (simp [MV.sOk, MV.cells, MV.one, Value.oneCell'])); (· exact rfl))
            repeat (first | (apply ef_mv; exact rfl; exact rfl) | (apply ef_bin; exact rfl; exact rfl; exact rfl; (((with_reducible refine bin_add (wrap_of ?_ ?_)) <;> omega))) | apply ef_nil | apply seqQ.normal | apply blockQ.normal)
            (refine loopQ.normal _ _ ⟨i + 1, ⟨hlt, by rw [HZ.out, HS.out]⟩, (by first | (simp only; omega) | omega), ⟨by ((repeat (refine Hold.cons (by exact rfl) ?_)); exact Hold.nil), by ((repeat (refine Hold.cons (by exact rfl) ?_)); exact Hold.nil)⟩, .inr ⟨by ((repeat (refine hdl_cons rfl (by first | rfl | (simp [MV.lt, ltL, ltL_Ln, ltL_Cr, ltL_nm, ltL_app2])) ?_)); exact hdl_nil), by (simp [hltL, ltL, MV.lt, ltL, ltL_Ln, ltL_Cr, ltL_nm, ltL_app2])⟩, by (show _ = ([⟨0, false, 2, [encN n]⟩, (⟨i + 1, decide (i + 1 = 0), 1, nmL n (i + 1)⟩ : MObj)] : MHeap); rw [HT]; exact rfl)⟩)
          · have HS := HS1 (by simp [firstE, unl])
            clear HS0 HS1
            repeat (first | apply ef_seq | (apply ef_mv; exact rfl; exact rfl) | (apply ef_bin; exact rfl; exact rfl; exact rfl; (exact cmp_t rfl (by first | exact rfl | (simp only [cmpP]; omega)))) | (apply ef_len; exact rfl; exact rfl; (assumption)) | (apply ef_ldr; exact rfl; exact rfl; (exact rfl)) | (apply ef_ldp; exact rfl; exact rfl; (exact rfl); exact rfl; (exact rfl); (exact rfl)) | (apply ef_ias; exact rfl; exact rfl; exact rfl; (omega); assumption; exact rfl) | (apply ef_fap; exact rfl; exact rfl) | (apply ef_far; exact rfl; exact rfl) | (apply ef_notT; exact rfl; exact rfl) | apply ef_nil | apply seqQ.normal | apply ef_block | apply ef_skip | (apply ef_condt; exact rfl; (exact (rfl : true = true))) | (apply ef_condf; exact rfl; (exact (rfl : false = false))) | (apply ef_call; exact rfl; ((repeat (apply XVs.cons; exact rfl)); exact XVs.nil); (with_reducible exact hnm _)))
            (apply ef_call; (· exact rfl); (· ((repeat (apply XVs.cons; exact rfl)); exact XVs.nil)); · exact hht)
            repeat (first | apply ef_seq | (apply ef_mv; exact rfl; exact rfl) | apply ef_nil | apply seqQ.normal | apply loopQ.ret | apply ef_ret | apply seqQ.ret | apply blockQ.ret | (apply ef_condt; exact rfl; (exact (rfl : true = true))))
            (apply fin2; (· exact rfl); (· exact rfl); (· exact rfl); (· rw [HF.out, HZ.out, HS.out]; simp [firstE, unl]))
      · have hsc : scanE lineE [] n.ls = (0, 0) := by rw [hz, List.drop_eq_nil_of_le (by omega), scanE_nil]
        have HF := Lib.hid (show netF n = scanE (crossE n.ls) [] n.cs by rw [HF.out, hsc, if_pos rfl])
        clear hz hsc
        obtain rfl : i = n.ls.length := by omega
        clear hlt hi
        repeat (first | apply ef_seq | (apply ef_mv; exact rfl; exact rfl) | (apply ef_bin; exact rfl; exact rfl; exact rfl; (exact cmp_f rfl (by simp only [cmpP]; omega))) | (apply ef_len; exact rfl; exact rfl; (assumption)) | (apply ef_ldp; exact rfl; exact rfl; (exact rfl); exact rfl; (exact rfl); (exact rfl)) | (apply ef_fap; exact rfl; exact rfl) | apply ef_nil | apply seqQ.normal | apply loopQ.exit | apply ef_exit | apply seqQ.exit | apply blockQ.here | apply ef_block | (apply ef_condf; exact rfl; (exact (rfl : false = false))))
        refine ef_loopf (α := Nat) (fun i => i ≤ n.cs.length ∧ scanE (crossE n.ls) [] n.cs = scanE (crossE n.ls) (n.cs.take i) (n.cs.drop i)) (fun i => [(6, I64 (i : Int))]) [(1, .ptr 0 0 0 0)] (fun _ => nmH n n.ls.length) (fun i => n.cs.length - i) 0 [6] (fun _ => rfl) (by ((repeat (refine Hold.cons (by exact rfl) ?_)); exact Hold.nil)) (by ((repeat (refine Hold.cons (by exact rfl) ?_)); exact Hold.nil)) rfl rfl ⟨by omega, by simp⟩ (by simp; omega) ?_
        rintro i ⟨hi, hz⟩
        try simp only at hi hz ⊢
        by_cases hlt : i < n.cs.length
        · have e1 := at_map encCr n.cs i hlt
          have HS0 := fun h0 => Lib.hid (scanE_step (f := crossE n.ls) hlt h0)
          have HS1 := fun h0 => Lib.hid (scanE_bad (f := crossE n.ls) hlt h0)
          have HZ := Lib.hid hz
          clear hz
          generalize n.cs[i] = c at e1 HS0 HS1
          have hbad : ∀ e, crossE n.ls (n.cs.take i) c = e → e ≠ 0 → RowKit.Hid (netF n = ((i : Int), e)) := fun e he h0 => Lib.hid (by rw [HF.out, HZ.out, (HS1 (by rw [he]; exact h0)).out, he])
          have hgo : crossE n.ls (n.cs.take i) c = 0 → RowKit.Hid (scanE (crossE n.ls) [] n.cs = scanE (crossE n.ls) (n.cs.take (i + 1)) (n.cs.drop (i + 1))) := fun he => Lib.hid (by rw [HZ.out, (HS0 he).out])
          clear HS0 HS1
          cases h1 : inB c.ln 0 ((n.ls.length : Int) - 1)
          · have hw1 := fun h => IsLine_c k n c.ln (by omega) h h1
            have HE := hbad 6 (by simp [crossE, h1]) (by decide)
            clear hbad hgo
            repeat (first | apply ef_seq | (apply ef_mv; exact rfl; exact rfl) | (apply ef_bin; exact rfl; exact rfl; exact rfl; (exact cmp_t rfl (by first | exact rfl | (simp only [cmpP]; omega)))) | (apply ef_gn; exact rfl; (exact (rfl : true = true)); exact rfl) | (apply ef_pick; exact rfl; exact rfl; exact rfl) | (apply ef_len; exact rfl; exact rfl; (assumption)) | (apply ef_ldr; exact rfl; exact rfl; (exact rd_6 rfl rfl rfl rfl rfl rfl)) | (apply ef_ldp; exact rfl; exact rfl; (exact rfl); exact rfl; (exact rfl); (first | exact rd_2 rfl rfl | exact rfl)) | (apply ef_ias; exact rfl; exact rfl; exact rfl; (omega); assumption; exact rfl) | (apply ef_fap; exact rfl; exact rfl) | (apply ef_notF; exact rfl; exact rfl) | (apply ef_new; exact rfl) | (apply ef_st; exact rfl; exact rfl; exact rfl; exact rfl; exact rfl; exact rfl; (exact rfl); exact rfl) | apply ef_nil | apply seqQ.normal | apply loopQ.ret | apply ef_ret | apply seqQ.ret | apply blockQ.ret | apply ef_block | apply ef_skip | (apply ef_condt; exact rfl; (exact (rfl : true = true))) | (apply ef_call; exact rfl; ((repeat (apply XVs.cons; exact rfl)); exact XVs.nil); (with_reducible exact hw1 _)))
            (apply fin2; (· exact rfl); (· exact rfl); (· exact rfl); (· rw [HE.out]))
          · have hw1 := fun h => IsLine_c k n c.ln (by omega) h h1
            cases h2 : inB c.ti 0 ((n.ls.length : Int) - 1)
            · have hw2 := fun h => IsLine_c k n c.ti (by omega) h h2
              have HE := hbad 6 (by simp [crossE, h1, h2]) (by decide)
              clear hbad hgo
              repeat (first | apply ef_seq | (apply ef_mv; exact rfl; exact rfl) | (apply ef_bin; exact rfl; exact rfl; exact rfl; (exact cmp_t rfl (by first | exact rfl | (simp only [cmpP]; omega)))) | (apply ef_gy; exact rfl; (exact (rfl : false = false))) | (apply ef_pick; exact rfl; exact rfl; exact rfl) | (apply ef_len; exact rfl; exact rfl; (assumption)) | (apply ef_ldr; exact rfl; exact rfl; (exact rd_6 rfl rfl rfl rfl rfl rfl)) | (apply ef_ldp; exact rfl; exact rfl; (exact rfl); exact rfl; (exact rfl); (first | exact rd_2 rfl rfl | exact rfl)) | (apply ef_ias; exact rfl; exact rfl; exact rfl; (omega); assumption; exact rfl) | (apply ef_fap; exact rfl; exact rfl) | (apply ef_notT; exact rfl; exact rfl) | (apply ef_notF; exact rfl; exact rfl) | (apply ef_new; exact rfl) | (apply ef_st; exact rfl; exact rfl; exact rfl; exact rfl; exact rfl; exact rfl; (exact rfl); exact rfl) | apply ef_nil | apply seqQ.normal | apply loopQ.ret | apply ef_ret | apply seqQ.ret | apply blockQ.ret | apply ef_block | apply ef_skip | (apply ef_condt; exact rfl; (exact (rfl : true = true))) | (apply ef_call; exact rfl; ((repeat (apply XVs.cons; exact rfl)); exact XVs.nil); (with_reducible first | exact hw1 _ | exact hw2 _)))
              (apply fin2; (· exact rfl); (· exact rfl); (· exact rfl); (· rw [HE.out]))
            · have hw2 := fun h => IsLine_c k n c.ti (by omega) h h2
              obtain ⟨p1, f1⟩ := ln_at h1
              obtain ⟨p2, f2⟩ := ln_at h2
              have HE := Lib.hid (show crossE n.ls (n.cs.take i) c = firstE [unl (!tieOf n.ls c.ln && tieOf n.ls c.ti) 15, unl (rngB c) 2, unl (!((n.cs.take i).any (dblB c))) 23] by simp [crossE, h1, h2])
              have ht1 : (n.ls.getD c.ln.toNat (⟨#[]⟩, false)).2 = tieOf n.ls c.ln := rfl
              have ht2 : (n.ls.getD c.ti.toNat (⟨#[]⟩, false)).2 = tieOf n.ls c.ti := rfl
              generalize n.ls.getD c.ln.toNat (⟨#[]⟩, false) = l1 at f1 ht1
              generalize n.ls.getD c.ti.toNat (⟨#[]⟩, false) = l2 at f2 ht2
              obtain ⟨n1, t1⟩ := l1
              obtain ⟨n2, t2⟩ := l2
              simp only at ht1 ht2
              rw [← ht1, ← ht2] at HE
              clear ht1 ht2 h1 h2
              by_cases hk : t1 = true ∨ t2 = false
              · have HX := hbad 15 (by rw [HE.out]; rcases hk with rfl | rfl <;> simp [firstE, unl]) (by decide)
                clear hbad hgo HE
                cases t1
                · obtain rfl : t2 = false := by simpa using hk
                  repeat (first | apply ef_seq | (apply ef_mv; exact rfl; exact rfl) | (apply ef_bin; exact rfl; exact rfl; exact rfl; (exact cmp_t rfl (by first | exact rfl | (simp only [cmpP]; omega)))) | (apply ef_gy; exact rfl; (exact (rfl : false = false))) | (apply ef_pick; exact rfl; exact rfl; exact rfl) | (apply ef_len; exact rfl; exact rfl; (assumption)) | (apply ef_ldr; exact rfl; exact rfl; (first | exact rd_6 rfl rfl rfl rfl rfl rfl | exact rfl)) | (apply ef_ldp; exact rfl; exact rfl; (exact rfl); exact rfl; (exact rfl); (first | exact rd_2 rfl rfl | exact rfl)) | (apply ef_ias; exact rfl; exact rfl; exact rfl; (omega); assumption; exact rfl) | (apply ef_fap; exact rfl; exact rfl) | (apply ef_far; exact rfl; exact rfl) | (apply ef_notT; exact rfl; exact rfl) | (apply ef_notF; exact rfl; exact rfl) | (apply ef_new; exact rfl) | (apply ef_st; exact rfl; exact rfl; exact rfl; exact rfl; exact rfl; exact rfl; (exact rfl); exact rfl) | apply ef_nil | apply seqQ.normal | apply loopQ.ret | apply ef_ret | apply seqQ.ret | apply blockQ.ret | apply ef_block | apply ef_skip | (apply ef_condt; exact rfl; (exact (rfl : true = true))) | (apply ef_condf; exact rfl; (exact (rfl : false = false))) | (apply ef_call; exact rfl; ((repeat (apply XVs.cons; exact rfl)); exact XVs.nil); (with_reducible first | exact hw1 _ | exact hw2 _)))
                  (apply fin2; (· exact rfl); (· exact rfl); (· exact rfl); (· rw [HX.out]))
                · repeat (first | apply ef_seq | (apply ef_mv; exact rfl; exact rfl) | (apply ef_bin; exact rfl; exact rfl; exact rfl; (exact cmp_t rfl (by first | exact rfl | (simp only [cmpP]; omega)))) | (apply ef_gy; exact rfl; (exact (rfl : false = false))) | (apply ef_gn; exact rfl; (exact (rfl : true = true)); exact rfl) | (apply ef_pick; exact rfl; exact rfl; exact rfl) | (apply ef_len; exact rfl; exact rfl; (assumption)) | (apply ef_ldr; exact rfl; exact rfl; (first | exact rd_6 rfl rfl rfl rfl rfl rfl | exact rfl)) | (apply ef_ldp; exact rfl; exact rfl; (exact rfl); exact rfl; (exact rfl); (first | exact rd_2 rfl rfl | exact rfl)) | (apply ef_ias; exact rfl; exact rfl; exact rfl; (omega); assumption; exact rfl) | (apply ef_fap; exact rfl; exact rfl) | (apply ef_far; exact rfl; exact rfl) | (apply ef_notT; exact rfl; exact rfl) | (apply ef_new; exact rfl) | (apply ef_st; exact rfl; exact rfl; exact rfl; exact rfl; exact rfl; exact rfl; (exact rfl); exact rfl) | apply ef_nil | apply seqQ.normal | apply loopQ.ret | apply ef_ret | apply seqQ.ret | apply blockQ.ret | apply ef_block | apply ef_skip | (apply ef_condt; exact rfl; (exact (rfl : true = true))) | (apply ef_condf; exact rfl; (exact (rfl : false = false))) | (apply ef_call; exact rfl; ((repeat (apply XVs.cons; exact rfl)); exact XVs.nil); (with_reducible first | exact hw1 _ | exact hw2 _)))
                  (apply fin2; (· exact rfl); (· exact rfl); (· exact rfl); (· rw [HX.out]))
              · obtain rfl : t1 = false := by cases t1 <;> simp_all
                obtain rfl : t2 = true := by cases t2 <;> simp_all
                clear hk
                have HR := Lib.hid (show rngB c = (inB c.pa 0 1000000 && (inB c.pt 0 1000000 && (inB c.df (-10000) 10000 && inB c.wt 1 10))) from rfl)
                generalize q1 : inB c.pa 0 1000000 = r1 at HR
                generalize q2 : inB c.pt 0 1000000 = r2 at HR
                generalize q3 : inB c.df (-10000) 10000 = r3 at HR
                generalize q4 : inB c.wt 1 10 = r4 at HR
                have hw3 := fun h => risPosition_c k c.pa h q1
                have hw4 := fun h => risPosition_c k c.pt h q2
                have hw5 := fun h => IsDifference_c k c.df h q3
                have hw6 := fun h => Within_c (k + 1) c.wt 1 10 h q4
                have hrg : (r1 && (r2 && (r3 && r4))) = false → crossE n.ls (n.cs.take i) c = 2 := fun h => by rw [HE.out, HR.out, h]; simp [firstE, unl]
                cases r1
                · have HE := hbad 2 (hrg rfl) (by decide)
                  clear hbad hgo hrg q1 q2 q3 q4 HR
                  repeat (first | apply ef_seq | (apply ef_mv; exact rfl; exact rfl) | (apply ef_bin; exact rfl; exact rfl; exact rfl; (exact cmp_t rfl (by first | exact rfl | (simp only [cmpP]; omega)))) | (apply ef_gy; exact rfl; (exact (rfl : false = false))) | (apply ef_gn; exact rfl; (exact (rfl : true = true)); exact rfl) | (apply ef_pick; exact rfl; exact rfl; exact rfl) | (apply ef_len; exact rfl; exact rfl; (assumption)) | (apply ef_ldr; exact rfl; exact rfl; (first | exact rd_6 rfl rfl rfl rfl rfl rfl | exact rfl)) | (apply ef_ldp; exact rfl; exact rfl; (exact rfl); exact rfl; (exact rfl); (first | exact rd_2 rfl rfl | exact rfl)) | (apply ef_ias; exact rfl; exact rfl; exact rfl; (omega); assumption; exact rfl) | (apply ef_fap; exact rfl; exact rfl) | (apply ef_far; exact rfl; exact rfl) | (apply ef_notT; exact rfl; exact rfl) | (apply ef_notF; exact rfl; exact rfl) | (apply ef_new; exact rfl) | (apply ef_st; exact rfl; exact rfl; exact rfl; exact rfl; exact rfl; exact rfl; (exact rfl); exact rfl) | apply ef_nil | apply seqQ.normal | apply loopQ.ret | apply ef_ret | apply seqQ.ret | apply blockQ.ret | apply ef_block | apply ef_skip | (apply ef_condt; exact rfl; (exact (rfl : true = true))) | (apply ef_condf; exact rfl; (exact (rfl : false = false))) | (apply ef_call; exact rfl; ((repeat (apply XVs.cons; exact rfl)); exact XVs.nil); (with_reducible first | exact hw1 _ | exact hw2 _ | exact hw3 _)))
                  (apply fin2; (· exact rfl); (· exact rfl); (· exact rfl); (· rw [HE.out]))
                · cases r2
                  · have HE := hbad 2 (hrg rfl) (by decide)
                    clear hbad hgo hrg q1 q2 q3 q4 HR
                    repeat (first | apply ef_seq | (apply ef_mv; exact rfl; exact rfl) | (apply ef_bin; exact rfl; exact rfl; exact rfl; (exact cmp_t rfl (by first | exact rfl | (simp only [cmpP]; omega)))) | (apply ef_gy; exact rfl; (exact (rfl : false = false))) | (apply ef_gn; exact rfl; (exact (rfl : true = true)); exact rfl) | (apply ef_pick; exact rfl; exact rfl; exact rfl) | (apply ef_len; exact rfl; exact rfl; (assumption)) | (apply ef_ldr; exact rfl; exact rfl; (first | exact rd_6 rfl rfl rfl rfl rfl rfl | exact rfl)) | (apply ef_ldp; exact rfl; exact rfl; (exact rfl); exact rfl; (exact rfl); (first | exact rd_2 rfl rfl | exact rfl)) | (apply ef_ias; exact rfl; exact rfl; exact rfl; (omega); assumption; exact rfl) | (apply ef_fap; exact rfl; exact rfl) | (apply ef_far; exact rfl; exact rfl) | (apply ef_notT; exact rfl; exact rfl) | (apply ef_notF; exact rfl; exact rfl) | (apply ef_new; exact rfl) | (apply ef_st; exact rfl; exact rfl; exact rfl; exact rfl; exact rfl; exact rfl; (exact rfl); exact rfl) | apply ef_nil | apply seqQ.normal | apply loopQ.ret | apply ef_ret | apply seqQ.ret | apply blockQ.ret | apply ef_block | apply ef_skip | (apply ef_condt; exact rfl; (exact (rfl : true = true))) | (apply ef_condf; exact rfl; (exact (rfl : false = false))) | (apply ef_call; exact rfl; ((repeat (apply XVs.cons; exact rfl)); exact XVs.nil); (with_reducible first | exact hw1 _ | exact hw2 _ | exact hw3 _ | exact hw4 _)))
                    (apply fin2; (· exact rfl); (· exact rfl); (· exact rfl); (· rw [HE.out]))
                  · cases r3
                    · have HE := hbad 2 (hrg rfl) (by decide)
                      clear hbad hgo hrg q1 q2 q3 q4 HR
                      repeat (first | apply ef_seq | (apply ef_mv; exact rfl; exact rfl) | (apply ef_bin; exact rfl; exact rfl; exact rfl; (exact cmp_t rfl (by first | exact rfl | (simp only [cmpP]; omega)))) | (apply ef_gy; exact rfl; (exact (rfl : false = false))) | (apply ef_gn; exact rfl; (exact (rfl : true = true)); exact rfl) | (apply ef_pick; exact rfl; exact rfl; exact rfl) | (apply ef_len; exact rfl; exact rfl; (assumption)) | (apply ef_ldr; exact rfl; exact rfl; (first | exact rd_6 rfl rfl rfl rfl rfl rfl | exact rfl)) | (apply ef_ldp; exact rfl; exact rfl; (exact rfl); exact rfl; (exact rfl); (first | exact rd_2 rfl rfl | exact rfl)) | (apply ef_ias; exact rfl; exact rfl; exact rfl; (omega); assumption; exact rfl) | (apply ef_fap; exact rfl; exact rfl) | (apply ef_far; exact rfl; exact rfl) | (apply ef_notT; exact rfl; exact rfl) | (apply ef_notF; exact rfl; exact rfl) | (apply ef_new; exact rfl) | (apply ef_st; exact rfl; exact rfl; exact rfl; exact rfl; exact rfl; exact rfl; (exact rfl); exact rfl) | apply ef_nil | apply seqQ.normal | apply loopQ.ret | apply ef_ret | apply seqQ.ret | apply blockQ.ret | apply ef_block | apply ef_skip | (apply ef_condt; exact rfl; (exact (rfl : true = true))) | (apply ef_condf; exact rfl; (exact (rfl : false = false))) | (apply ef_call; exact rfl; ((repeat (apply XVs.cons; exact rfl)); exact XVs.nil); (with_reducible first | exact hw1 _ | exact hw2 _ | exact hw3 _ | exact hw4 _ | exact hw5 _)))
                      (apply fin2; (· exact rfl); (· exact rfl); (· exact rfl); (· rw [HE.out]))
                    · cases r4
                      · have HE := hbad 2 (hrg rfl) (by decide)
                        clear hbad hgo hrg q1 q2 q3 q4 HR
                        repeat (first | apply ef_seq | (apply ef_mv; exact rfl; exact rfl) | (apply ef_bin; exact rfl; exact rfl; exact rfl; (exact cmp_t rfl (by first | exact rfl | (simp only [cmpP]; omega)))) | (apply ef_gy; exact rfl; (exact (rfl : false = false))) | (apply ef_pick; exact rfl; exact rfl; exact rfl) | (apply ef_len; exact rfl; exact rfl; (assumption)) | (apply ef_ldr; exact rfl; exact rfl; (first | exact rd_6 rfl rfl rfl rfl rfl rfl | exact rfl)) | (apply ef_ldp; exact rfl; exact rfl; (exact rfl); exact rfl; (exact rfl); (first | exact rd_2 rfl rfl | exact rfl)) | (apply ef_ias; exact rfl; exact rfl; exact rfl; (omega); assumption; exact rfl) | (apply ef_fap; exact rfl; exact rfl) | (apply ef_far; exact rfl; exact rfl) | (apply ef_notT; exact rfl; exact rfl) | (apply ef_notF; exact rfl; exact rfl) | (apply ef_new; exact rfl) | (apply ef_st; exact rfl; exact rfl; exact rfl; exact rfl; exact rfl; exact rfl; (exact rfl); exact rfl) | apply ef_nil | apply seqQ.normal | apply loopQ.ret | apply ef_ret | apply seqQ.ret | apply blockQ.ret | apply ef_block | apply ef_skip | (apply ef_condt; exact rfl; (exact (rfl : true = true))) | (apply ef_condf; exact rfl; (exact (rfl : false = false))) | (apply ef_call; exact rfl; ((repeat (apply XVs.cons; exact rfl)); exact XVs.nil); (with_reducible first | exact hw1 _ | exact hw2 _ | exact hw3 _ | exact hw4 _ | exact hw5 _ | exact hw6 _)))
                        (apply fin2; (· exact rfl); (· exact rfl); (· exact rfl); (· rw [HE.out]))
                      · have HE := Lib.hid (show crossE n.ls (n.cs.take i) c = unl (!((n.cs.take i).any (dblB c))) 23 by rw [HE.out, HR.out]; cases (n.cs.take i).any (dblB c) <;> simp [firstE, unl])
                        clear hrg q1 q2 q3 q4 HR
                        repeat (first | apply ef_seq | (apply ef_mv; exact rfl; exact rfl) | (apply ef_bin; exact rfl; exact rfl; exact rfl; (exact cmp_t rfl (by first | exact rfl | (simp only [cmpP]; omega)))) | (apply ef_gy; exact rfl; (exact (rfl : false = false))) | (apply ef_pick; exact rfl; exact rfl; exact rfl) | (apply ef_len; exact rfl; exact rfl; (assumption)) | (apply ef_ldr; exact rfl; exact rfl; (first | exact rd_6 rfl rfl rfl rfl rfl rfl | exact rfl)) | (apply ef_ldp; exact rfl; exact rfl; (exact rfl); exact rfl; (exact rfl); (first | exact rd_2 rfl rfl | exact rfl)) | (apply ef_ias; exact rfl; exact rfl; exact rfl; (omega); assumption; exact rfl) | (apply ef_fap; exact rfl; exact rfl) | (apply ef_far; exact rfl; exact rfl) | (apply ef_notT; exact rfl; exact rfl) | (apply ef_new; exact rfl) | (apply ef_st; exact rfl; exact rfl; exact rfl; exact rfl; exact rfl; exact rfl; (exact rfl); exact rfl) | apply ef_nil | apply seqQ.normal | apply ef_block | apply ef_skip | (apply ef_condt; exact rfl; (exact (rfl : true = true))) | (apply ef_condf; exact rfl; (exact (rfl : false = false))) | (apply ef_call; exact rfl; ((repeat (apply XVs.cons; exact rfl)); exact XVs.nil); (with_reducible first | exact hw1 _ | exact hw2 _ | exact hw3 _ | exact hw4 _ | exact hw5 _ | exact hw6 _)))
                        refine ef_loopf (α := Nat) (fun j => j ≤ i ∧ (n.cs.take i).any (dblB c) = ((n.cs.take i).drop j).any (dblB c)) (fun j => [(8, I64 (j : Int))]) [(6, I64 (i : Int)), (1, .ptr 0 0 0 0), (7, .ptr 2 0 0 0)] (fun _ => nmH n n.ls.length ++ [⟨0, false, 6, [encCr c]⟩]) (fun j => i - j) 0 [8] (fun _ => rfl) (by ((repeat (refine Hold.cons (by exact rfl) ?_)); exact Hold.nil)) (by ((repeat (refine Hold.cons (by exact rfl) ?_)); exact Hold.nil)) rfl rfl ⟨by omega, by simp⟩ (by simp; omega) ?_
                        rintro j ⟨hj, hy⟩
                        try simp only at hj hy ⊢
                        by_cases hjl : j < i
                        · have g1 := at_map encCr n.cs j (by omega)
                          have HD := Lib.hid (show (n.cs.take i).drop j = n.cs[j] :: (n.cs.take i).drop (j + 1) by rw [List.drop_eq_getElem_cons (by simp; omega)]; simp)
                          have HY := Lib.hid hy
                          clear hy
                          generalize n.cs[j] = o at g1 HD
                          have HB := Lib.hid (show dblB c o = ((decide (o.ln = c.ln) && decide (o.pa = c.pa)) || (decide (o.ti = c.ti) && decide (o.pt = c.pt))) from rfl)
                          have hyes : dblB c o = true → RowKit.Hid (netF n = ((i : Int), 23)) := fun hd => hbad 23 (by rw [HE.out, HY.out, HD.out, List.any_cons, hd]; rfl) (by decide)
                          have hno : dblB c o = false → RowKit.Hid ((n.cs.take i).any (dblB c) = ((n.cs.take i).drop (j + 1)).any (dblB c)) := fun hd => Lib.hid (by rw [HY.out, HD.out, List.any_cons, hd]; rfl)
                          clear hbad hgo
                          by_cases d1 : o.ln = c.ln ∧ o.pa = c.pa
                          · have HG := hyes (by rw [HB.out]; simp [d1])
                            clear hyes hno
                            repeat (first | apply ef_seq | (apply ef_mv; exact rfl; exact rfl) | (apply ef_bin; exact rfl; exact rfl; exact rfl; (exact cmp_t rfl (by first | exact rfl | (simp only [cmpP]; omega)))) | (apply ef_gy; exact rfl; (exact (rfl : true = true))) | (apply ef_gn; exact rfl; (exact (rfl : true = true)); exact rfl) | (apply ef_gu; exact rfl; exact rfl) | (apply ef_pick; exact rfl; exact rfl; exact rfl) | (apply ef_ldr; exact rfl; exact rfl; (exact rd_6 rfl rfl rfl rfl rfl rfl)) | (apply ef_ldp; exact rfl; exact rfl; (exact rfl); exact rfl; (exact rfl); (exact rfl)) | (apply ef_ias; exact rfl; exact rfl; exact rfl; (omega); assumption; exact rfl) | (apply ef_fap; exact rfl; exact rfl) | (apply ef_new; exact rfl) | (apply ef_st; exact rfl; exact rfl; exact rfl; exact rfl; exact rfl; exact rfl; (exact rfl); exact rfl) | apply ef_nil | apply seqQ.normal | apply loopQ.ret | apply ef_ret | apply seqQ.ret | apply blockQ.ret | apply ef_block | apply ef_skip | (apply ef_condt; exact rfl; (exact (rfl : true = true))))
                            (apply fin2; (· exact rfl); (· exact rfl); (· exact rfl); (· rw [HG.out]))
                          · by_cases d2 : o.ti = c.ti ∧ o.pt = c.pt
                            · have HG := hyes (by rw [HB.out]; simp [d2])
                              clear hyes hno
                              by_cases d3 : o.ln = c.ln
                              · repeat (first | apply ef_seq | (apply ef_mv; exact rfl; exact rfl) | (apply ef_bin; exact rfl; exact rfl; exact rfl; (first | exact cmp_t rfl (by first | exact rfl | (simp only [cmpP]; omega)) | exact cmp_f rfl (by simp only [cmpP]; omega))) | (apply ef_gy; exact rfl; (first | exact (rfl : true = true) | exact (rfl : false = false))) | (apply ef_pick; exact rfl; exact rfl; exact rfl) | (apply ef_ldr; exact rfl; exact rfl; (exact rd_6 rfl rfl rfl rfl rfl rfl)) | (apply ef_ldp; exact rfl; exact rfl; (exact rfl); exact rfl; (exact rfl); (exact rfl)) | (apply ef_ias; exact rfl; exact rfl; exact rfl; (omega); assumption; exact rfl) | (apply ef_fap; exact rfl; exact rfl) | (apply ef_new; exact rfl) | (apply ef_st; exact rfl; exact rfl; exact rfl; exact rfl; exact rfl; exact rfl; (exact rfl); exact rfl) | apply ef_nil | apply seqQ.normal | apply loopQ.ret | apply ef_ret | apply seqQ.ret | apply blockQ.ret | apply ef_block | apply ef_skip | (apply ef_condt; exact rfl; (exact (rfl : true = true))))
                                (apply fin2; (· exact rfl); (· exact rfl); (· exact rfl); (· rw [HG.out]))
                              · repeat (first | apply ef_seq | (apply ef_mv; exact rfl; exact rfl) | (apply ef_bin; exact rfl; exact rfl; exact rfl; (first | exact cmp_t rfl (by first | exact rfl | (simp only [cmpP]; omega)) | exact cmp_f rfl (by simp only [cmpP]; omega))) | (apply ef_gy; exact rfl; (first | exact (rfl : true = true) | exact (rfl : false = false))) | (apply ef_gn; exact rfl; (exact (rfl : false = false)); exact rfl) | (apply ef_pick; exact rfl; exact rfl; exact rfl) | (apply ef_ldr; exact rfl; exact rfl; (exact rd_6 rfl rfl rfl rfl rfl rfl)) | (apply ef_ldp; exact rfl; exact rfl; (exact rfl); exact rfl; (exact rfl); (exact rfl)) | (apply ef_ias; exact rfl; exact rfl; exact rfl; (omega); assumption; exact rfl) | (apply ef_fap; exact rfl; exact rfl) | (apply ef_new; exact rfl) | (apply ef_st; exact rfl; exact rfl; exact rfl; exact rfl; exact rfl; exact rfl; (exact rfl); exact rfl) | apply ef_nil | apply seqQ.normal | apply loopQ.ret | apply ef_ret | apply seqQ.ret | apply blockQ.ret | apply ef_block | apply ef_skip | (apply ef_condt; exact rfl; (exact (rfl : true = true))))
                                (apply fin2; (· exact rfl); (· exact rfl); (· exact rfl); (· rw [HG.out]))
                            · have HG := hno (by rw [HB.out]; simp; omega)
                              clear hyes hno
                              by_cases d3 : o.ln = c.ln <;> by_cases d4 : o.ti = c.ti
                              all_goals repeat (first | apply ef_seq | (apply ef_mv; exact rfl; exact rfl) | (apply ef_bin; exact rfl; exact rfl; exact rfl; (first | exact cmp_t rfl (by first | exact rfl | (simp only [cmpP]; omega)) | exact cmp_f rfl (by simp only [cmpP]; omega) | ((with_reducible refine bin_add (wrap_of ?_ ?_)) <;> omega))) | (apply ef_gy; exact rfl; (first | exact (rfl : true = true) | exact (rfl : false = false))) | (apply ef_gn; exact rfl; (exact (rfl : false = false)); exact rfl) | (apply ef_pick; exact rfl; exact rfl; exact rfl) | (apply ef_ldr; exact rfl; exact rfl; (exact rd_6 rfl rfl rfl rfl rfl rfl)) | (apply ef_ldp; exact rfl; exact rfl; (exact rfl); exact rfl; (exact rfl); (exact rfl)) | (apply ef_ias; exact rfl; exact rfl; exact rfl; (omega); assumption; exact rfl) | (apply ef_fap; exact rfl; exact rfl) | (apply ef_new; exact rfl) | (apply ef_st; exact rfl; exact rfl; exact rfl; exact rfl; exact rfl; exact rfl; (exact rfl); exact rfl) | apply ef_nil | apply seqQ.normal | apply blockQ.normal | apply ef_block | apply ef_skip | (apply ef_condt; exact rfl; (exact (rfl : true = true))) | (apply ef_condf; exact rfl; (exact (rfl : false = false))))
                              all_goals (refine loopQ.normal _ _ ⟨j + 1, ⟨hjl, HG.out⟩, (by first | (simp only; omega) | omega), ⟨by ((repeat (refine Hold.cons (by exact rfl) ?_)); exact Hold.nil), by ((repeat (refine Hold.cons (by exact rfl) ?_)); exact Hold.nil)⟩, .inr ⟨by ((repeat (refine hdl_cons rfl (by first | rfl | (simp [MV.lt, ltL, ltL_Ln, ltL_Cr, ltL_nm])) ?_)); exact hdl_nil), by first | rfl | (simp [hltL, ltL, MV.lt, ltL, ltL_Ln, ltL_Cr, ltL_nm])⟩, by first | exact rfl | (simp only [List.map_append, List.map_set]; exact rfl)⟩)
                        · have HG := hgo (by rw [HE.out, hy, List.drop_eq_nil_of_le (by simp; omega)]; rfl)
                          clear hbad hgo
                          repeat (first | apply ef_seq | (apply ef_mv; exact rfl; exact rfl) | (apply ef_bin; exact rfl; exact rfl; exact rfl; (first | exact cmp_f rfl (by simp only [cmpP]; omega) | ((with_reducible refine bin_add (wrap_of ?_ ?_)) <;> omega))) | apply ef_nil | apply seqQ.normal | apply loopQ.exit | apply ef_exit | apply seqQ.exit | apply blockQ.normal | apply blockQ.here | (apply ef_condf; exact rfl; (exact (rfl : false = false))))
                          (refine loopQ.normal _ _ ⟨i + 1, ⟨hlt, HG.out⟩, (by first | (simp only; omega) | omega), ⟨by ((repeat (refine Hold.cons (by exact rfl) ?_)); exact Hold.nil), by ((repeat (refine Hold.cons (by exact rfl) ?_)); exact Hold.nil)⟩, .inr ⟨by ((repeat (refine hdl_cons rfl (by first | rfl | (simp [MV.lt, ltL, ltL_Ln, ltL_Cr, ltL_nm])) ?_)); exact hdl_nil), by first | rfl | (simp [hltL, ltL, MV.lt, ltL, ltL_Ln, ltL_Cr, ltL_nm])⟩, by first | exact rfl | (simp only [List.map_append, List.map_set]; exact rfl)⟩)
        · have HF := Lib.hid (show netF n = (0, 0) by rw [HF.out, hz, List.drop_eq_nil_of_le (by omega), scanE_nil])
          repeat (first | apply ef_seq | (apply ef_mv; exact rfl; exact rfl) | (apply ef_bin; exact rfl; exact rfl; exact rfl; (exact cmp_f rfl (by simp only [cmpP]; omega))) | (apply ef_len; exact rfl; exact rfl; (assumption)) | (apply ef_ldp; exact rfl; exact rfl; (exact rfl); exact rfl; (exact rfl); (exact rfl)) | (apply ef_fap; exact rfl; exact rfl) | apply ef_nil | apply seqQ.normal | apply loopQ.exit | apply ef_ret | apply ef_exit | apply seqQ.exit | apply blockQ.here | (apply ef_condf; exact rfl; (exact (rfl : false = false))))
          (apply fin2; (· exact rfl); (· exact rfl); (· exact rfl); (· rw [HF.out]))
theorem rCheckNet_c (k : Nat) (n : Nt) (hb : BdN n) (h : MHeap) : orA (k + 3) 46 [encN n] h = some (.tup [I64 (netF n).1, I64 (netF n).2], h) :=
  callTT (args' := [encN n]) (frzL_lt (by simp [ltL, MV.lt, ltL_Ln, ltL_Cr])) rfl (rCheckNet_z k n hb)
theorem mf_NetErr : MT.mf 14 = some ⟨11, [(.tmp 2)], (.seq (.reg [⟨none, some 1, .box 2 (.s 0)⟩, ⟨none, some 2, .mv (.c (.lit (.int .i64 0)))⟩]) (.seq (.reg [⟨none, some 6, .ld (some 2) (.s 1)⟩, ⟨none, some 7, .call 46 [.s 6]⟩, ⟨none, some 5, .mv (.s 7)⟩, ⟨none, some 8, .ext (.s 5) 0⟩, ⟨none, some 9, .ext (.s 5) 1⟩, ⟨none, some 3, .mv (.s 8)⟩, ⟨none, some 4, .mv (.s 9)⟩]) (.seq (.reg [⟨none, some 10, .mv (.s 4)⟩, ⟨none, some 2, .mv (.s 10)⟩]) .ret)))⟩ := by kernel_rfl
theorem NetErr_c (k : Nat) (n : Nt) (hb : BdN n) (h : MHeap) : orA (k + 4) 14 [encN n] h = some (I64 (netF n).2, h) := by
  refine callL (args' := [encN n]) (frzL_lt (by simp [ltL, MV.lt, ltL_Ln, ltL_Cr])) rfl (runZ_of mf_NetErr (by simp) ?_)
  simp only [argsL]
  have hc := fun h => rCheckNet_c k n hb h
  repeat (first | apply ef_seq | (apply ef_mv; exact rfl; exact rfl) | (apply ef_ldp; exact rfl; exact rfl; (exact rfl); exact rfl; (exact rfl); (exact rd_2 rfl rfl)) | (apply ef_ext; exact rfl; exact rfl; exact rfl) | (apply ef_box; exact rfl; exact rfl; exact rfl; exact rfl) | apply ef_nil | apply seqQ.normal | apply ef_ret | (apply ef_call; exact rfl; ((repeat (apply XVs.cons; exact rfl)); exact XVs.nil); (with_reducible exact hc _)))
  (refine fin1 rfl (by exact rfl) rfl ?_)
  rfl
end Go.Proofs.Ytbdleggmdbihnaa

/- Faster evaluation: slots in a tree. -/
namespace Go.Proofs.Ytbdleggmdbihnaa
open Go.RowKit
set_option linter.unusedVariables false
def MX.gt (g : Nat → MV) : MX → MV
  | .s t => g t
  | .c v => v
def evOg : (Nat → Bool) → Oracle → (Nat → MV) → MHeap → MO → Option (MV × MHeap)
  | lk, O, s, h, .mv x => some (x.gt s, h)
  | lk, O, s, h, .nil0 sz => some (.arr h.length 0 0 0, h ++ [⟨0, true, sz, []⟩])
  | lk, O, s, h, .nilck x => match x.gt s with
    | .ptr id i off g => some (.ptr id i off g, h)
    | .rp e off => some (.rp e off, h)
    | .fn f k cs => some (.fn f k cs, h)
    | _ => none
  | lk, O, s, h, .pick c a b => match c.gt s with
    | .lit (.bool t) => some (if t then a.gt s else b.gt s, h)
    | _ => none
  | lk, O, s, h, .new z => some (.ptr h.length 0 0 0, h ++ [⟨0, false, z.cells.length, [z]⟩])
  | lk, O, s, h, .box sz x => if (x.gt s).cells.length = sz ∧ (x.gt s).cOk then some (.ptr h.length 0 0 0, h ++ [⟨0, false, sz, [x.gt s]⟩]) else none
  | lk, O, s, h, .build z parts => match fillM z (parts.map fun p => (p.1, (p.2.2.gt s).cells)) with
    | some cs => if parts.all (fun p => (p.2.2.gt s).cells.length == p.2.1 && (p.2.2.gt s).cOk) then some (.agg cs, h) else none
    | none => none
  | lk, O, s, h, .bsl z sz len parts => match setAtM (List.replicate len z) sz (parts.map fun p => (p.1, p.2.gt s)) with
    | some es => some (.arr h.length 0 len 0, h ++ [⟨0, false, sz, es⟩])
    | none => none
  | lk, O, s, h, .vsl z sz len parts => match setAtM (List.replicate len z) sz (parts.map fun p => (p.1, p.2.gt s)) with
    | some es => some (if es.isEmpty then .emp else .sl es, h)
    | none => none
  | lk, O, s, h, .ld agg x => match x.gt s with
    | .rp e off => (rdCells e.cells off agg).map fun v => (v, h)
    | .ptr id i off g => match h[id]? with
      | some o => if o.g = g then match o.es[i]? with
          | some e => (rdCells e.cells off agg).map fun v => (v, h)
          | none => none
        else none
      | none => none
    | _ => none
  | lk, O, s, h, .st sz a x => if (x.gt s).sOk sz then match a.gt s with
    | .ptr id i off g => match h[id]? with
      | some o => if o.g = g ∧ lk id = false then match o.es[i]? with
          | some e => match wrElem e off (x.gt s) with
            | some e' => some (.lit undef, h.set id { o with es := o.es.set i e' })
            | none => none
          | none => none
        else none
      | none => none
    | _ => none else none
  | lk, O, s, h, .bin op x y => match x.gt s, y.gt s with
    | .lit (.int k a), .lit (.int k' b) => if k = k' then (binI op k a b).map fun v => (.lit v, h) else none
    | _, _ => none
  | lk, O, s, h, .beq neg x y => match x.gt s, y.gt s with
    | .lit (.bool a), .lit (.bool b) => some (.lit (.bool (negIf neg (a == b))), h)
    | _, _ => none
  | lk, O, s, h, .seq neg x y => match x.gt s, y.gt s with
    | .lit (.string a), .lit (.string b) => some (.lit (.bool (negIf neg (a == b))), h)
    | _, _ => none
  | lk, O, s, h, .eqa n neg x y => match x.gt s, y.gt s with
    | .agg ps, .agg qs => if ps.length = n ∧ qs.length = n then (litEq ps qs).map fun b => (.lit (.bool (negIf neg b)), h) else none
    | _, _ => none
  | lk, O, s, h, .eqn neg x => match x.gt s with
    | .arr id i n g => match h[id]? with
      | some o => if o.g = g ∧ i + n ≤ o.es.length then some (.lit (.bool (negIf neg o.nl)), h) else none
      | none => none
    | .lit (.slice A _ _) => some (.lit (.bool (negIf neg A.isNone)), h)
    | .sl (_ :: _) => some (.lit (.bool neg), h)
    | .emp => some (.lit (.bool neg), h)
    | _ => none
  | lk, O, s, h, .bad => none
  | lk, O, s, h, .un op x => match op, x.gt s with
    | .not, .lit (.bool b) => some (.lit (.bool !b), h)
    | .neg, .lit (.int k n) => some (.lit (.int k (k.wrap (0 - n))), h)
    | _, _ => none
  | lk, O, s, h, .cv k x => match x.gt s with
    | .lit (.int _ n) => some (.lit (.int k (k.wrap n)), h)
    | _ => none
  | lk, O, s, h, .mf f k caps => some (.fn f k (caps.map (MX.gt s)), h)
  | lk, O, s, h, .mks z n => match n.gt s with
    | .lit (.int .i64 n) => if 0 ≤ n ∧ n ≤ 1000000 then some (.arr h.length 0 n.toNat 0, h ++ [⟨0, false, z.cells.length, List.replicate n.toNat z⟩]) else none
    | _ => none
  | lk, O, s, h, .slc sz x lo hi => match (x.gt s), ((lo.map (MX.gt s)).map intOf?).getD (some 0), (hi.map (MX.gt s)).map intOf? with
    | .sl es, some l, some (some u) => if 0 ≤ l ∧ l ≤ u ∧ u ≤ es.length ∧ es.all (fun e => e.cells.length == sz) then some (.sl ((es.drop l.toNat).take (u - l).toNat), h) else none
    | .sl es, some l, none => if 0 ≤ l ∧ l ≤ es.length ∧ es.all (fun e => e.cells.length == sz) then some (.sl (es.drop l.toNat), h) else none
    | .arr id i n g, some l, some (some u) => if 0 ≤ l ∧ l ≤ u ∧ u ≤ n ∧ MHeap.ok h id g sz then some (.arr id (i + l.toNat) (u - l).toNat g, h) else none
    | .arr id i n g, some l, none => if 0 ≤ l ∧ l ≤ n ∧ MHeap.ok h id g sz then some (.arr id (i + l.toNat) (n - l.toNat) g, h) else none
    | _, _, _ => none
  | lk, O, s, h, .fa off x => match x.gt s with
    | .ptr id i o g => some (.ptr id i (o + off) g, h)
    | .rp e o => some (.rp e (o + off), h)
    | _ => none
  | lk, O, s, h, .fd off agg x => match x.gt s with
    | .agg cs => (rdCells cs off agg).map fun v => (v, h)
    | _ => none
  | lk, O, s, h, .ix agg sz len x i => match x.gt s, intOf? (i.gt s) with
    | .agg cs, some k => if 0 ≤ k ∧ k < len then (rdCells cs (k.toNat * sz) agg).map fun v => (v, h) else none
    | _, _ => none
  | lk, O, s, h, .ia sz x i => match x.gt s, intOf? (i.gt s) with
    | .sl es, some k => if 0 ≤ k then (es[k.toNat]?).bind fun e => if e.cells.length = sz then some (.rp e 0, h) else none else none
    | .arr id j n g, some k => if 0 ≤ k ∧ k < n ∧ MHeap.ok h id g sz then some (.ptr id (j + k.toNat) 0 g, h) else none
    | _, _ => none
  | lk, O, s, h, .iaa sz len x i => match x.gt s, intOf? (i.gt s) with
    | .ptr id j o g, some k => if 0 ≤ k ∧ k < len then some (.ptr id j (o + k.toNat * sz) g, h) else none
    | .rp e o, some k => if 0 ≤ k ∧ k < len then some (.rp e (o + k.toNat * sz), h) else none
    | _, _ => none
  | lk, O, s, h, .ext x i => match x.gt s with
    | .tup vs => (vs[i]?).map fun v => (v, h)
    | _ => none
  | lk, O, s, h, .call f args => O f (args.map (MX.gt s)) h
  | lk, O, s, h, .callv x args => match x.gt s with
    | .fn f k caps => O f (caps.take k ++ args.map (MX.gt s) ++ caps.drop k) h
    | _ => none
  | lk, O, s, h, .s2b x => match x.gt s with
    | .lit (.string b) => some (.sl (b.data.toList.map fun c => .lit (.int .u8 c.toNat)), h)
    | _ => none
  | lk, O, s, h, .sln x => match x.gt s with
    | .lit (.string b) => some (.lit (.int .i64 b.size), h)
    | _ => none
  | lk, O, s, h, .len x => match (x.gt s).slen with
    | some n => some (.lit (.int .i64 n), h)
    | none => none
  | lk, O, s, h, .app sz d x => match d.gt s, (x.gt s).elems h with
    | .arr id i n g, some xs => match h[id]? with
      | some o => if o.g = g ∧ i + n = o.es.length ∧ o.sz = sz then
          if xs = [] then some (.arr id i n g, h)
          else if o.es.length + xs.length ≤ 4000000 ∧ xs.all (MV.sOk sz) ∧ lk id = false then some (.arr id 0 (n + xs.length) (g + 1), h.set id ⟨g + 1, false, sz, o.es.drop i ++ xs⟩) else none
        else none
      | none => none
    | .lit (.slice none 0 0), some xs =>
      if xs = [] then some (.lit (.slice none 0 0), h)
      else if xs.length ≤ 4000000 ∧ xs.all (MV.sOk sz) then some (.arr h.length 0 xs.length 0, h ++ [⟨0, false, sz, xs⟩]) else none
    | .emp, some xs =>
      if xs = [] then some (.emp, h)
      else if xs.length ≤ 4000000 ∧ xs.all (MV.sOk sz) then some (.arr h.length 0 xs.length 0, h ++ [⟨0, false, sz, xs⟩]) else none
    | _, _ => none
  | lk, O, s, h, .mx x y => match x.gt s, y.gt s with
    | .lit (.int k a), .lit (.int _ b) => some (.lit (.int k (if b > a then b else a)), h)
    | _, _ => none
  | lk, O, s, h, .mn x y => match x.gt s, y.gt s with
    | .lit (.int k a), .lit (.int _ b) => some (.lit (.int k (if b < a then b else a)), h)
    | _, _ => none
  | lk, O, s, h, .ne x y => if neB (x.gt s) (y.gt s) then some (.lit undef, h) else none
  | lk, O, s, h, .mkm => some (.mp h.length 0, h ++ [⟨0, true, 1, [.tup []]⟩])
  | lk, O, s, h, .mlk n z ok x k => match k.gt s, (x.gt s).ents h with
    | .agg ps, some es => if ps.length = n then match mfind ps es 0 with
        | some r => some (mres z ok r, h)
        | none => none
      else none
    | _, _ => none
  | lk, O, s, h, .mup n m k x => match m.gt s, k.gt s, (m.gt s).ents h with
    | .mp id g, .agg ps, some es => if ps.length = n ∧ lk id = false then match mfind ps es 0 with
        | some r => some (.lit undef, h.set id ⟨g, true, 1, [.tup (mset es (.tup [.agg ps, x.gt s]) r)]⟩)
        | none => none
      else none
    | _, _, _ => none
  | lk, O, s, h, .shf op x y => match x.gt s, y.gt s with
    | .lit (.int k a), .lit (.int _ b) => (shfI op k a b).map fun v => (.lit v, h)
    | _, _ => none
  | lk, O, s, h, .sx x i => match x.gt s, intOf? (i.gt s) with
    | .lit (.string b), some k => if 0 ≤ k then (b.data.toList[k.toNat]?).map fun c => (.lit (.int .u8 c.toNat), h) else none
    | _, _ => none
  | lk, O, s, h, .cat x y => match x.gt s, y.gt s with
    | .lit (.string a), .lit (.string b) => if a.size + b.size ≤ 1000000000 then some (.lit (.string (a ++ b)), h) else none
    | _, _ => none
  | lk, O, s, h, .ssl x lo hi => match x.gt s, ((lo.map (MX.gt s)).map intOf?).getD (some 0), (hi.map (MX.gt s)).map intOf? with
    | .lit (.string b), some l, some (some u) => if 0 ≤ l ∧ l ≤ u ∧ u ≤ b.size then some (.lit (.string (b.extract l.toNat u.toNat)), h) else none
    | .lit (.string b), some l, none => if 0 ≤ l ∧ l ≤ b.size then some (.lit (.string (b.extract l.toNat b.size)), h) else none
    | _, _, _ => none
  | lk, O, s, h, .cpy d x => match d.gt s, (x.gt s).elems h with
    | .arr id i n g, some xs => match h[id]? with
      | some o => if o.g = g ∧ 0 < n ∧ i + n ≤ o.es.length ∧ o.sz = 1 ∧ xs ≠ [] ∧ xs.all (MV.sOk 1) = true ∧ lk id = false then
          some (.lit (.int .i64 (xs.take n).length), h.set id { o with es := o.es.take i ++ xs.take n ++ o.es.drop (i + (xs.take n).length) }) else none
      | none => none
    | _, _ => none
  | lk, O, s, h, .srt f cf x => match x.gt s with
    | .arr id i n g => match h[id]? with
      | some o => if o.g = g ∧ i + n ≤ o.es.length ∧ n ≤ 4000000 ∧ lk id = false then match sortKind f cf with
          | some k => match srtM k ((o.es.drop i).take n) with
            | some es => some (.lit (.tuple #[]), h.set id { o with es := o.es.take i ++ es ++ o.es.drop (i + n) })
            | none => none
          | none => none
        else none
      | none => none
    | _ => none
theorem gt_get {g : Nat → MV} {s : List MV} (hg : ∀ t, g t = s.getD t (.lit undef)) : MX.gt g = MX.get s := by
  funext x
  cases x with
  | s t => exact hg t
  | c v => rfl
theorem evOg_eq {lk : Nat → Bool} {O : Oracle} {g : Nat → MV} {s : List MV} {h : MHeap} (hg : ∀ t, g t = s.getD t (.lit undef)) (mo : MO) : evOg lk O g h mo = evO lk O s h mo := by
  have e := gt_get hg
  cases mo <;> simp only [evOg, evO, e] <;> rfl
inductive TS where
  | leaf (v : MV)
  | node (l r : TS)
noncomputable def tget (tr : TS) : Nat → MV :=
  TS.rec (motive := fun _ => Nat → MV) (fun v _ => v) (fun _ _ il ir t => Nat.rec (motive := fun _ => MV) (il (t / 2)) (fun _ _ => ir (t / 2)) (t % 2)) tr
noncomputable def tset (tr : TS) : Nat → MV → TS :=
  TS.rec (motive := fun _ => Nat → MV → TS) (fun _ _ v => .leaf v) (fun l r il ir t v => Nat.rec (motive := fun _ => TS) (.node (il (t / 2) v) r) (fun _ _ => .node l (ir (t / 2) v)) (t % 2)) tr
def fullT (v : MV) : Nat → TS
  | 0 => .leaf v
  | d + 1 => .node (fullT v d) (fullT v d)
def IsFull : Nat → TS → Prop
  | 0, .leaf _ => True
  | d + 1, .node l r => IsFull d l ∧ IsFull d r
  | _, _ => False
theorem tget_node (l r : TS) (t : Nat) : tget (.node l r) t = if t % 2 = 0 then tget l (t / 2) else tget r (t / 2) := by
  show Nat.rec (motive := fun _ => MV) (tget l (t / 2)) (fun _ _ => tget r (t / 2)) (t % 2) = _
  rcases Nat.mod_two_eq_zero_or_one t with h | h <;> rw [h] <;> rfl
theorem tset_node (l r : TS) (t : Nat) (v : MV) : tset (.node l r) t v = if t % 2 = 0 then .node (tset l (t / 2) v) r else .node l (tset r (t / 2) v) := by
  show Nat.rec (motive := fun _ => TS) (.node (tset l (t / 2) v) r) (fun _ _ => .node l (tset r (t / 2) v)) (t % 2) = _
  rcases Nat.mod_two_eq_zero_or_one t with h | h <;> rw [h] <;> rfl
theorem full_set : ∀ {d : Nat} {tr : TS} (t : Nat) (v : MV), IsFull d tr → IsFull d (tset tr t v)
  | 0, .leaf _, t, v, h => trivial
  | 0, .node _ _, t, v, h => h.elim
  | d + 1, .leaf _, t, v, h => h.elim
  | d + 1, .node l r, t, v, h => by
    rw [tset_node]
    split
    · exact ⟨full_set _ _ h.1, h.2⟩
    · exact ⟨h.1, full_set _ _ h.2⟩
theorem full_fullT (v : MV) : ∀ d, IsFull d (fullT v d)
  | 0 => trivial
  | d + 1 => ⟨full_fullT v d, full_fullT v d⟩
theorem get_fullT (v : MV) : ∀ d t, tget (fullT v d) t = v
  | 0, t => rfl
  | d + 1, t => by simp [fullT, tget_node, get_fullT v d]
theorem get_set : ∀ {d : Nat} {tr : TS} {t u : Nat} {v : MV}, IsFull d tr → t < 2 ^ d → u < 2 ^ d → tget (tset tr t v) u = if t = u then v else tget tr u
  | 0, .leaf _, t, u, v, h, h1, h2 => by
    have : t = u := by simp at h1 h2; omega
    simp [this]; rfl
  | 0, .node _ _, t, u, v, h, _, _ => h.elim
  | d + 1, .leaf _, t, u, v, h, _, _ => h.elim
  | d + 1, .node l r, t, u, v, h, h1, h2 => by
    have h1' : t / 2 < 2 ^ d := by rw [Nat.pow_succ] at h1; omega
    have h2' : u / 2 < 2 ^ d := by rw [Nat.pow_succ] at h2; omega
    rw [tset_node]
    split
    · rename_i ht
      rw [tget_node, tget_node, get_set h.1 h1' h2']
      by_cases hu : u % 2 = 0
      · simp only [hu, if_true]
        by_cases e : t / 2 = u / 2
        · have : t = u := by omega
          simp [this]
        · have : t ≠ u := fun e' => e (by rw [e'])
          simp [this, e]
      · have : t ≠ u := fun e' => hu (by rw [← e']; exact ht)
        simp [hu, this]
    · rename_i ht
      rw [tget_node, tget_node, get_set h.2 h1' h2']
      by_cases hu : u % 2 = 0
      · have : t ≠ u := fun e' => ht (by rw [e']; exact hu)
        simp [hu, this]
      · simp only [hu, if_false]
        by_cases e : t / 2 = u / 2
        · have : t = u := by omega
          simp [this]
        · have : t ≠ u := fun e' => e (by rw [e'])
          simp [this, e]
structure TR (n : Nat) (tr : TS) (s : List MV) : Prop where
  len : s.length = n
  small : n ≤ 2 ^ 8
  full : IsFull 8 tr
  get : ∀ t, t < n → s[t]? = some (tget tr t)
noncomputable def fget (n : Nat) (tr : TS) (t : Nat) : MV := Bool.rec (motive := fun _ => MV) (tget tr t) (.lit undef) (Nat.ble n t)
noncomputable def fset (n : Nat) (tr : TS) (t : Nat) (v : MV) : TS := Bool.rec (motive := fun _ => TS) (tset tr t v) tr (Nat.ble n t)
theorem TR.g {n : Nat} {tr : TS} {s : List MV} (h : TR n tr s) (t : Nat) : fget n tr t = s.getD t (.lit undef) := by
  unfold fget
  cases hb : Nat.ble n t
  · have : t < n := by
      refine Nat.lt_of_not_le fun hle => ?_
      rw [Nat.ble_eq_true_of_le hle] at hb; cases hb
    simp [h.get t this]
  · have : n ≤ t := Nat.le_of_ble_eq_true hb
    have : s[t]? = none := by rw [List.getElem?_eq_none_iff, h.len]; exact this
    simp [this]
theorem TR.set {n : Nat} {tr : TS} {s : List MV} (h : TR n tr s) (t : Nat) (v : MV) : TR n (fset n tr t v) (s.set t v) := by
  unfold fset
  cases hb : Nat.ble n t
  · have hlt : t < n := by
      refine Nat.lt_of_not_le fun hle => ?_
      rw [Nat.ble_eq_true_of_le hle] at hb; cases hb
    refine ⟨by simp [h.len], h.small, full_set _ _ h.full, fun u hu => ?_⟩
    show _ = some (tget (tset tr t v) u)
    rw [get_set h.full (Nat.lt_of_lt_of_le hlt h.small) (Nat.lt_of_lt_of_le hu h.small), List.getElem?_set]
    by_cases e : t = u
    · subst e; simp [h.len, hlt]
    · simp [e, h.get u hu]
  · have : n ≤ t := Nat.le_of_ble_eq_true hb
    have e : s.set t v = s := List.set_eq_of_length_le (by rw [h.len]; exact this)
    show TR n tr (s.set t v)
    rw [e]; exact h
end Go.Proofs.Ytbdleggmdbihnaa

/- Faster evaluation: control; it comes to the same. -/
namespace Go.Proofs.Ytbdleggmdbihnaa
open Go.RowKit
set_option linter.unusedVariables false
abbrev FS := TS × MHeap
def wantF (g : Nat → MV) : Option (Nat × Bool) → Option Bool
  | none => some true
  | some (t, b) => match g t with
    | .lit (.bool x) => some (x == b)
    | .lit (.tuple _) => some false
    | _ => none
noncomputable def putF (n : Nat) (tr : TS) (d : Option Nat) (v : MV) : TS :=
  match d with
  | some d => fset n tr d v
  | none => tr
noncomputable def evGF (lk : Nat → Bool) (O : Oracle) (n : Nat) (o : GO) (st : FS) : Option FS :=
  match wantF (fget n st.1) o.guard with
  | none => none
  | some t => if t then
      match evOg lk O (fget n st.1) st.2 o.op with
      | some (v, h) => some (putF n st.1 o.dst v, h)
      | none => none
    else some (putF n st.1 o.dst (.lit undef), st.2)
noncomputable def evRF (lk : Nat → Bool) (O : Oracle) (n : Nat) (l : List GO) : FS → Option FS :=
  List.rec (motive := fun _ => FS → Option FS) (fun st => some st) (fun o _ ih st => match evGF lk O n o st with
    | some st' => ih st'
    | none => none) l
def roundsF {σ : Type} (f : σ → Option (MX2 × σ)) : Nat → σ → Option (MX2 × σ)
  | 0, _ => none
  | n + 1, st => match f st with
    | some (.normal, st') => roundsF f n st'
    | r => r
noncomputable def strikeF (n : Nat) (keep : List Nat) (tr : TS) : TS := keep.foldl (fun acc k => fset n acc k (fget n tr k)) (fullT .junk 8)
noncomputable def headF (keep : List Nat) (nh n : Nat) (st : FS) : FS :=
  if st.2.length ≤ nh then (strikeF n keep st.1, st.2) else if keep.all (fun k => (fget n st.1 k).lt nh) && hltL nh (st.2.take nh) then (strikeF n keep st.1, st.2.take nh) else (strikeF n keep st.1, st.2)
noncomputable def putAllF (n : Nat) (tr : TS) : List Nat → List MV → TS
  | p :: ps, v :: vs => putAllF n (fset n tr p v) ps vs
  | _, _ => tr
noncomputable def evCF : Oracle → Iter → Nat → Nat → MC → (Nat → Bool) → FS → Option (MX2 × FS)
  | O, I, N, n, .skip, lk, st => some (.normal, st)
  | O, I, N, n, .reg ops, lk, st => match evRF lk O n ops st with
    | some st => some (.normal, st)
    | none => none
  | O, I, N, n, .seq a b, lk, st => match evCF O I N n a lk st with
    | some (.normal, st') => evCF O I N n b lk st'
    | r => r
  | O, I, N, n, .cond c a b, lk, st => match c.gt (fget n st.1) with
    | .lit (.bool t) => if t then evCF O I N n a lk st else evCF O I N n b lk st
    | _ => none
  | O, I, N, n, .block id b, lk, st => match evCF O I N n b lk st with
    | some (.exit k, st') => if k = id then some (.normal, st') else some (.exit k, st')
    | r => r
  | O, I, N, n, .loop keep b, lk, st => roundsF (fun st' => evCF O I N n b lk (headF keep st.2.length n st')) N st
  | O, I, N, n, .rf keep f ps a b, lk, st => match f.gt (fget n st.1) with
    | .fn g k caps => match I g k caps st.2 with
      | some xs => if xs.all (fun x => x.length == ps.length) then
        match overH (fun x h => match evCF O I N n a (fun id => lk id || (caps.flatMap (MV.ids st.2 6)).contains id) (putAllF n (headF keep st.2.length n (st.1, h)).1 ps x, (headF keep st.2.length n (st.1, h)).2) with
          | some (.normal, st2) => match evCF O I N n b (fun id => lk id || (caps.flatMap (MV.ids st.2 6)).contains id) st2 with
            | some (y, st3) => some (y, st3.2)
            | none => none
          | _ => none) xs st.2 with
        | some r => some (r.1, (st.1, r.2))
        | none => none
        else none
      | none => none
    | _ => none
  | O, I, N, n, .exit id, lk, st => some (.exit id, st)
  | O, I, N, n, .ret, lk, st => some (.ret, st)
  | O, I, N, n, .bad, lk, st => none
  | O, I, N, n, .give _ _, lk, st => none
theorem wantF_eq {g : Nat → MV} {s : List MV} (hg : ∀ t, g t = s.getD t (.lit undef)) (gd : Option (Nat × Bool)) : wantF g gd = wantM s gd := by
  cases gd with
  | none => rfl
  | some p => obtain ⟨t, b⟩ := p; simp only [wantF, wantM, hg]; rfl
theorem putF_TR {n : Nat} {tr : TS} {s : List MV} (h : TR n tr s) (d : Option Nat) (v : MV) : TR n (putF n tr d v) (putM s d v) := by
  cases d with
  | none => exact h
  | some d => exact h.set d v
theorem evGF_ok {lk : Nat → Bool} {O : Oracle} {n : Nat} {o : GO} {tr : TS} {s : List MV} {h : MHeap} (hT : TR n tr s) {st' : FS} (he : evGF lk O n o (tr, h) = some st') : ∃ s', evG lk O o ⟨s, h⟩ = some ⟨s', st'.2⟩ ∧ TR n st'.1 s' := by
  unfold evGF at he
  unfold evG
  simp only [wantF_eq hT.g, evOg_eq hT.g] at he
  split at he
  · cases he
  · rename_i t ht
    simp only [ht]
    cases t
    · simp only [Bool.false_eq_true, if_false, Option.some.injEq] at he ⊢
      subst he
      exact ⟨_, rfl, putF_TR hT _ _⟩
    · simp only [if_true] at he ⊢
      split at he
      · rename_i v h' hev
        simp only [Option.some.injEq] at he
        subst he
        simp only [hev]
        exact ⟨_, rfl, putF_TR hT _ _⟩
      · cases he
theorem evRF_ok {lk : Nat → Bool} {O : Oracle} {n : Nat} : ∀ {l : List GO} {tr : TS} {s : List MV} {h : MHeap} {st' : FS}, TR n tr s → evRF lk O n l (tr, h) = some st' → ∃ s', evR lk O l ⟨s, h⟩ = some ⟨s', st'.2⟩ ∧ TR n st'.1 s'
  | [], tr, s, h, st', hT, he => by
    have e : evRF lk O n [] (tr, h) = some (tr, h) := rfl
    rw [e] at he
    cases he
    exact ⟨s, rfl, hT⟩
  | o :: l, tr, s, h, st', hT, he => by
    have e : evRF lk O n (o :: l) (tr, h) = match evGF lk O n o (tr, h) with
      | some st' => evRF lk O n l st'
      | none => none := rfl
    rw [e] at he
    split at he
    case h_2 => cases he
    rename_i st1 h1
    obtain ⟨s1, k1, k2⟩ := evGF_ok hT h1
    obtain ⟨s2, j1, j2⟩ := evRF_ok k2 he
    exact ⟨s2, by simp only [evR, k1, Option.bind_some]; exact j1, j2⟩
theorem keepS_get {keep : List Nat} : ∀ (s : List MV) (i t : Nat), (keepS keep i s)[t]? = (s[t]?).map fun v => if keep.contains (i + t) then v else .junk
  | [], i, t => by simp [keepS]
  | v :: s, i, 0 => by simp [keepS]
  | v :: s, i, t + 1 => by
    simp only [keepS, List.getElem?_cons_succ]
    rw [keepS_get s (i + 1) t, show i + 1 + t = i + (t + 1) by omega]
theorem strikeF_TR {n : Nat} {keep : List Nat} {tr : TS} {s : List MV} (h : TR n tr s) : TR n (strikeF n keep tr) (keepS keep 0 s) := by
  have key : ∀ (l : List Nat) (acc : TS), IsFull 8 acc → IsFull 8 (l.foldl (fun acc k => fset n acc k (fget n tr k)) acc) ∧ ∀ t, t < n → tget (l.foldl (fun acc k => fset n acc k (fget n tr k)) acc) t = if t ∈ l then tget tr t else tget acc t := by
    intro l
    induction l with
    | nil => intro acc ha; exact ⟨ha, fun t _ => by simp⟩
    | cons k l ih =>
      intro acc ha
      simp only [List.foldl_cons]
      have hf : IsFull 8 (fset n acc k (fget n tr k)) := by
        unfold fset
        cases Nat.ble n k
        · exact full_set _ _ ha
        · exact ha
      obtain ⟨h1, h2⟩ := ih _ hf
      refine ⟨h1, fun t ht => ?_⟩
      rw [h2 t ht]
      by_cases hm : t ∈ l
      · simp [hm]
      · simp only [hm, if_false, List.mem_cons, or_false]
        unfold fset
        cases hb : Nat.ble n k
        · have hk : k < n := by
            refine Nat.lt_of_not_le fun hle => ?_
            rw [Nat.ble_eq_true_of_le hle] at hb; cases hb
          show tget (tset acc k (fget n tr k)) t = _
          rw [get_set ha (Nat.lt_of_lt_of_le hk h.small) (Nat.lt_of_lt_of_le ht h.small)]
          by_cases e : k = t
          · subst e
            simp [fget, hb]
          · have e' : ¬ t = k := fun x => e x.symm
            simp [e, e']
        · have hk : n ≤ k := Nat.le_of_ble_eq_true hb
          have : ¬ t = k := by omega
          simp only [this, if_false]
  obtain ⟨h1, h2⟩ := key keep (fullT .junk 8) (full_fullT _ _)
  refine ⟨by rw [keepS_len, h.len], h.small, h1, fun t ht => ?_⟩
  rw [keepS_get, h.get t ht]
  simp only [Option.map_some, Nat.zero_add, Option.some.injEq]
  unfold strikeF
  rw [h2 t ht, get_fullT]
  by_cases hm : t ∈ keep <;> simp [hm]
theorem ltL_iff {n : Nat} : ∀ {l : List MV}, ltL n l = true ↔ ∀ m ∈ l, m.lt n = true
  | [] => by simp [ltL]
  | v :: l => by simp [ltL, ltL_iff (l := l)]
theorem headF_TR {n nh : Nat} {keep : List Nat} {tr : TS} {s : List MV} {h : MHeap} (hT : TR n tr s) : TR n (headF keep nh n (tr, h)).1 (headM keep nh ⟨s, h⟩).s ∧ (headF keep nh n (tr, h)).2 = (headM keep nh ⟨s, h⟩).h := by
  have e : keep.all (fun k => (fget n tr k).lt nh) = ltL nh (keepS keep 0 s) := by
    rw [Bool.eq_iff_iff, ltL_iff, List.all_eq_true]
    constructor
    · intro hk m hm
      obtain ⟨t, ht⟩ := List.getElem?_of_mem hm
      rw [keepS_get, Option.map_eq_some_iff] at ht
      obtain ⟨v, h1, rfl⟩ := ht
      simp only [Nat.zero_add]
      split
      · rename_i hc
        have := hk t (by simpa using hc)
        rw [hT.g] at this
        simpa [h1] using this
      · rfl
    · intro hk k hkm
      rw [hT.g]
      by_cases hl : k < s.length
      · have := hk s[k] (List.mem_of_getElem? (i := k) (by rw [keepS_get]; simp [hkm, hl]))
        simpa [hl] using this
      · simp [Nat.not_lt.1 hl]; rfl
  unfold headF headM
  simp only [e]
  split
  · exact ⟨strikeF_TR hT, rfl⟩
  · split
    · exact ⟨strikeF_TR hT, rfl⟩
    · exact ⟨strikeF_TR hT, rfl⟩
theorem putAllF_TR {n : Nat} : ∀ {ps : List Nat} {vs : List MV} {tr : TS} {s : List MV}, TR n tr s → TR n (putAllF n tr ps vs) (putAll s ps vs)
  | [], vs, tr, s, h => by
    have e1 : putAllF n tr [] vs = tr := by cases vs <;> rfl
    have e2 : putAll s [] vs = s := by cases vs <;> rfl
    rw [e1, e2]; exact h
  | p :: ps, [], tr, s, h => h
  | p :: ps, v :: vs, tr, s, h => putAllF_TR (ps := ps) (vs := vs) (h.set p v)
theorem overH_mono {f f' : List MV → MHeap → Option (MX2 × MHeap)} (hf : ∀ x h r, f x h = some r → f' x h = some r) : ∀ {xs : List (List MV)} {h : MHeap} {r : MX2 × MHeap}, overH f xs h = some r → overH f' xs h = some r
  | [], h, r, he => by simpa [overH] using he
  | x :: xs, h, r, he => by
    simp only [overH] at he ⊢
    split at he
    · rename_i h' h1
      rw [hf _ _ _ h1]
      exact overH_mono hf he
    · rename_i y hne
      obtain ⟨y1, y2⟩ := r
      rw [hf _ _ _ he]
      split
      · rename_i h3 e
        cases e
        exact absurd he (hne _)
      · rfl
theorem evCF_ok {O : Oracle} {I : Iter} {N n : Nat} : ∀ (mc : MC) (lk : Nat → Bool) (tr : TS) (s : List MV) (h : MHeap) (x : MX2) (st' : FS), TR n tr s → evCF O I N n mc lk (tr, h) = some (x, st') → ∃ s', evC O I N mc lk ⟨s, h⟩ = some (x, ⟨s', st'.2⟩) ∧ TR n st'.1 s' := by
  intro mc
  induction mc with
  | skip => intro lk tr s h x st' hT he; simp only [evCF, Option.some.injEq, Prod.mk.injEq] at he; obtain ⟨rfl, rfl⟩ := he; exact ⟨s, rfl, hT⟩
  | exit id => intro lk tr s h x st' hT he; simp only [evCF, Option.some.injEq, Prod.mk.injEq] at he; obtain ⟨rfl, rfl⟩ := he; exact ⟨s, rfl, hT⟩
  | ret => intro lk tr s h x st' hT he; simp only [evCF, Option.some.injEq, Prod.mk.injEq] at he; obtain ⟨rfl, rfl⟩ := he; exact ⟨s, rfl, hT⟩
  | bad => intro lk tr s h x st' hT he; simp [evCF] at he
  | give t b _ => intro lk tr s h x st' hT he; simp [evCF] at he
  | reg ops =>
    intro lk tr s h x st' hT he
    simp only [evCF] at he
    split at he
    case h_2 => cases he
    rename_i st1 h1
    cases he
    obtain ⟨s', k1, k2⟩ := evRF_ok hT h1
    exact ⟨s', by simp only [evC, k1, Option.map_some], k2⟩
  | seq a b iha ihb =>
    intro lk tr s h x st' hT he
    simp only [evCF] at he
    split at he
    · rename_i st1 h1
      obtain ⟨s1, k1, k2⟩ := iha lk tr s h _ _ hT h1
      obtain ⟨s2, j1, j2⟩ := ihb lk st1.1 s1 st1.2 _ _ k2 he
      exact ⟨s2, by simp only [evC, k1]; exact j1, j2⟩
    · rename_i r hne
      obtain ⟨s1, k1, k2⟩ := iha lk tr s h _ _ hT he
      refine ⟨s1, ?_, k2⟩
      simp only [evC, k1]
      cases x with
      | normal => exact absurd he (hne _)
      | exit id => rfl
      | ret => rfl
  | cond c a b iha ihb =>
    intro lk tr s h x st' hT he
    simp only [evCF, gt_get hT.g] at he
    split at he
    case h_2 => cases he
    rename_i t ht
    simp only [evC, ht]
    cases t
    · simp only [Bool.false_eq_true, if_false] at he ⊢
      exact ihb lk tr s h x st' hT he
    · simp only [if_true] at he ⊢
      exact iha lk tr s h x st' hT he
  | block id b ih =>
    intro lk tr s h x st' hT he
    simp only [evCF] at he
    split at he
    · rename_i k st1 h1
      obtain ⟨s1, k1, k2⟩ := ih lk tr s h _ _ hT h1
      simp only [evC, k1]
      split at he
      · rename_i e
        cases he
        exact ⟨s1, by simp [e], k2⟩
      · rename_i e
        cases he
        exact ⟨s1, by simp [e], k2⟩
    · rename_i r hne
      obtain ⟨s1, k1, k2⟩ := ih lk tr s h _ _ hT he
      refine ⟨s1, ?_, k2⟩
      simp only [evC, k1]
      cases x with
      | normal => rfl
      | exit id => exact absurd he (hne _ _)
      | ret => rfl
  | loop keep b ih =>
    intro lk tr s h x st' hT he
    simp only [evCF] at he
    simp only [evC]
    have key : ∀ (M : Nat) (tr1 : TS) (s1 : List MV) (h1 : MHeap), TR n tr1 s1 → roundsF (fun st' => evCF O I N n b lk (headF keep h.length n st')) M (tr1, h1) = some (x, st') → ∃ s', rounds (fun st' => evC O I N b lk (headM keep h.length st')) M ⟨s1, h1⟩ = some (x, ⟨s', st'.2⟩) ∧ TR n st'.1 s' := by
      intro M
      induction M with
      | zero => intro tr1 s1 h1 _ he; simp [roundsF] at he
      | succ M ihM =>
        intro tr1 s1 h1 hT1 he
        obtain ⟨q1, q2⟩ := headF_TR (keep := keep) (nh := h.length) (h := h1) hT1
        have hpair : headF keep h.length n (tr1, h1) = ((headF keep h.length n (tr1, h1)).1, (headM keep h.length ⟨s1, h1⟩).h) := by rw [← q2]
        simp only [roundsF] at he
        rw [hpair] at he
        simp only [rounds]
        split at he
        · rename_i st2 h2
          obtain ⟨s2, k1, k2⟩ := ih lk _ _ _ _ _ q1 h2
          have k1' : evC O I N b lk (headM keep h.length ⟨s1, h1⟩) = some (.normal, ⟨s2, st2.2⟩) := k1
          simp only [k1']
          exact ihM _ _ _ k2 he
        · rename_i r hne
          obtain ⟨s2, k1, k2⟩ := ih lk _ _ _ _ _ q1 he
          have k1' : evC O I N b lk (headM keep h.length ⟨s1, h1⟩) = some (x, ⟨s2, st'.2⟩) := k1
          simp only [k1']
          refine ⟨s2, ?_, k2⟩
          cases x with
          | normal => exact absurd he (hne _)
          | exit id => rfl
          | ret => rfl
    exact key N tr s h hT he
  | rf keep f ps a b iha ihb =>
    intro lk tr s h x st' hT he
    simp only [evCF, gt_get hT.g] at he
    split at he
    case h_2 => cases he
    rename_i g k caps hf
    split at he
    case h_2 => cases he
    rename_i xs hxs
    split at he
    case isFalse => cases he
    rename_i hlen
    split at he
    case h_2 => cases he
    rename_i r hov
    simp only [Option.some.injEq, Prod.mk.injEq] at he
    obtain ⟨rfl, rfl⟩ := he
    simp only [evC, hf, hxs, if_pos hlen]
    refine ⟨s, ?_, hT⟩
    rw [overH_mono ?_ hov]
    · rfl
    · intro x1 h1 r1 he1
      obtain ⟨q1, q2⟩ := headF_TR (keep := keep) (nh := h.length) (h := h1) hT
      rw [q2] at he1
      split at he1
      · rename_i st2 h2
        obtain ⟨s2, k1, k2⟩ := iha _ _ _ _ _ _ (putAllF_TR q1) h2
        simp only [k1]
        split at he1
        · rename_i y st3 h3
          obtain ⟨s3, j1, j2⟩ := ihb _ st2.1 s2 st2.2 _ _ k2 h3
          have j1' : evC O I N b (fun id => lk id || (caps.flatMap (MV.ids h 6)).contains id) ⟨s2, st2.2⟩ = some (y, ⟨s3, st3.2⟩) := j1
          simp only [j1']
          exact he1
        · cases he1
      · cases he1
end Go.Proofs.Ytbdleggmdbihnaa

/- Faster evaluation: functions; the oracle. -/
namespace Go.Proofs.Ytbdleggmdbihnaa
open Go.RowKit
noncomputable def insF (tr : TS) (i : Nat) (args : List MV) : TS :=
  List.rec (motive := fun _ => TS → Nat → TS) (fun tr _ => tr) (fun v _ ih tr i => ih (tset tr i v) (i + 1)) args tr i
def resG (g : Nat → MV) (h : MHeap) : MRes → Option MV
  | .tmp t => some (g t)
  | .cell t ag => match g t with
    | .ptr id i off gn => match h[id]? with
      | some o => if o.g = gn then match o.es[i]? with
          | some e => rdCells e.cells off ag
          | none => none
        else none
      | none => none
    | _ => none
noncomputable def runFf (O : Oracle) (I : Iter) (N : Nat) (m : MF) (args : List MV) (h : MHeap) : Option (MV × MHeap) :=
  if args.length ≤ m.ntmps ∧ m.ntmps ≤ 256 then
    match evCF O I N m.ntmps m.body (fun id => Nat.blt id h.length) (insF (fullT (.lit undef) 8) 0 args, h) with
    | some (x, st) => if outX x then match m.res.mapM (resG (fget m.ntmps st.1) st.2) with
        | some vs => if (impIds h.length vs).Nodup then match expL h.length (impIds h.length vs) st.2 vs h.length with
            | some (vs', news) => some (oneOf vs', h ++ news)
            | none => none
          else none
        | none => none
      else none
    | none => none
  else none
theorem insF_ok : ∀ (args : List MV) (tr : TS) (i : Nat), IsFull 8 tr → i + args.length ≤ 2 ^ 8 → IsFull 8 (insF tr i args) ∧ ∀ t, t < 2 ^ 8 → tget (insF tr i args) t = if i ≤ t ∧ t < i + args.length then args.getD (t - i) (.lit undef) else tget tr t
  | [], tr, i, hf, _ => ⟨hf, fun t _ => by
    have e : insF tr i [] = tr := rfl
    rw [e]
    simp only [List.length_nil, Nat.add_zero]
    split
    · omega
    · rfl⟩
  | v :: args, tr, i, hf, hl => by
    have e : insF tr i (v :: args) = insF (tset tr i v) (i + 1) args := rfl
    rw [e]
    simp only [List.length_cons] at hl
    obtain ⟨h1, h2⟩ := insF_ok args (tset tr i v) (i + 1) (full_set _ _ hf) (by omega)
    refine ⟨h1, fun t ht => ?_⟩
    rw [h2 t ht, get_set hf (by omega) ht]
    simp only [List.length_cons]
    by_cases e1 : i = t
    · subst e1
      have : ¬ (i + 1 ≤ i ∧ i < i + 1 + args.length) := by omega
      simp [this]
    · by_cases e2 : i + 1 ≤ t ∧ t < i + 1 + args.length
      · have e3 : i ≤ t ∧ t < i + (args.length + 1) := by omega
        rw [if_pos e2, if_pos e3]
        obtain ⟨d, hd⟩ : ∃ d, t - i = d + 1 := ⟨t - i - 1, by omega⟩
        rw [hd]
        have : t - (i + 1) = d := by omega
        rw [this]
        simp
      · have e3 : ¬ (i ≤ t ∧ t < i + (args.length + 1)) := by omega
        rw [if_neg e2, if_neg e3, if_neg e1]
theorem init_TR {n : Nat} {args : List MV} (h1 : args.length ≤ n) (h2 : n ≤ 256) : TR n (insF (fullT (.lit undef) 8) 0 args) (args ++ List.replicate (n - args.length) (.lit undef)) := by
  obtain ⟨k1, k2⟩ := insF_ok args (fullT (.lit undef) 8) 0 (full_fullT _ _) (by simpa using Nat.le_trans h1 h2)
  refine ⟨by simp; omega, h2, k1, fun t ht => ?_⟩
  rw [k2 t (Nat.lt_of_lt_of_le ht h2), get_fullT]
  by_cases e : t < args.length
  · rw [List.getElem?_append_left e]; simp [e]
  · have : ¬ (0 ≤ t ∧ t < 0 + args.length) := by omega
    rw [if_neg this, List.getElem?_append_right (by omega), List.getElem?_replicate]
    rw [if_pos (by omega)]
theorem resG_eq {g : Nat → MV} {s : List MV} (hg : ∀ t, g t = s.getD t (.lit undef)) (h : MHeap) : resG g h = resM s h := by
  funext r
  cases r with
  | tmp t => simp only [resG, resM, hg]
  | cell t ag => simp only [resG, resM, hg]; rfl
theorem runFf_ok {O : Oracle} {I : Iter} {N : Nat} {m : MF} {args : List MV} {h : MHeap} {r : MV × MHeap} (he : runFf O I N m args h = some r) : runF O I N m args h = some r := by
  unfold runFf at he
  split at he
  case isFalse => cases he
  rename_i hn
  split at he
  case h_2 => cases he
  rename_i x st hev
  have elk : (fun id => Nat.blt id h.length) = fun id => decide (id < h.length) := by
    funext id
    rw [Bool.eq_iff_iff, Nat.blt_eq]
    simp
  rw [elk] at hev
  obtain ⟨s', k1, k2⟩ := evCF_ok m.body _ _ _ _ _ _ (init_TR hn.1 hn.2) hev
  split at he
  case isFalse => cases he
  rename_i hx
  rw [resG_eq k2.g] at he
  unfold runF
  rw [k1]
  have hx' : x = .ret ∨ x = .normal := by cases x <;> simp [outX] at hx <;> simp
  simp only [if_pos hx']
  exact he
end Go.Proofs.Ytbdleggmdbihnaa

/- Faster evaluation of closed calls: what it answers, the program answers. -/
namespace Go.Proofs.Ytbdleggmdbihnaa
open Go.RowKit
set_option linter.unusedVariables false
def LeO (O O' : Oracle) : Prop := ∀ f as_ h r, O f as_ h = some r → O' f as_ h = some r
def LeI (I I' : Iter) : Prop := ∀ g k cs h r, I g k cs h = some r → I' g k cs h = some r
theorem evO_le {O O' : Oracle} (hO : LeO O O') {lk : Nat → Bool} {s : List MV} {h : MHeap} {mo : MO} {r : MV × MHeap} (he : evO lk O s h mo = some r) : evO lk O' s h mo = some r := by
  cases mo <;> first
    | exact he
    | (simp only [evO] at he ⊢; exact hO _ _ _ _ he)
    | skip
  simp only [evO] at he ⊢
  split at he
  · exact hO _ _ _ _ he
  · cases he
theorem evG_le {O O' : Oracle} (hO : LeO O O') {lk : Nat → Bool} {g : GO} {st st' : MSt} (he : evG lk O g st = some st') : evG lk O' g st = some st' := by
  unfold evG at he ⊢
  split at he
  · cases he
  · rename_i t ht
    cases t
    · simpa using he
    · simp only [if_true] at he ⊢
      split at he
      · rename_i v h1 hev
        rw [evO_le hO hev]
        exact he
      · cases he
theorem evR_le {O O' : Oracle} (hO : LeO O O') {lk : Nat → Bool} : ∀ {l : List GO} {st st' : MSt}, evR lk O l st = some st' → evR lk O' l st = some st'
  | [], st, st', he => he
  | o :: l, st, st', he => by
    simp only [evR, Option.bind_eq_some_iff] at he ⊢
    obtain ⟨st1, h1, h2⟩ := he
    exact ⟨st1, evG_le hO h1, evR_le hO h2⟩
theorem rounds_le {f f' : MSt → Option (MX2 × MSt)} (hf : ∀ st r, f st = some r → f' st = some r) : ∀ (n : Nat) (st : MSt) (r : MX2 × MSt), rounds f n st = some r → rounds f' n st = some r
  | 0, st, r, he => by simp [rounds] at he
  | n + 1, st, r, he => by
    simp only [rounds] at he ⊢
    split at he
    · rename_i st1 h1
      rw [hf _ _ h1]
      exact rounds_le hf n st1 r he
    · rename_i x hne
      rw [hf _ _ he]
      obtain ⟨y, st2⟩ := r
      cases y with
      | normal => exact absurd he (hne _)
      | exit id => rfl
      | ret => rfl
theorem evC_le {O O' : Oracle} {I I' : Iter} (hO : LeO O O') (hI : LeI I I') {N : Nat} : ∀ (mc : MC) (lk : Nat → Bool) (st : MSt) (r : MX2 × MSt), evC O I N mc lk st = some r → evC O' I' N mc lk st = some r := by
  intro mc
  induction mc with
  | skip => intro lk st r he; exact he
  | exit id => intro lk st r he; exact he
  | ret => intro lk st r he; exact he
  | bad => intro lk st r he; exact he
  | reg ops =>
    intro lk st r he
    simp only [evC, Option.map_eq_some_iff] at he ⊢
    obtain ⟨st1, h1, h2⟩ := he
    exact ⟨st1, evR_le hO h1, h2⟩
  | seq a b iha ihb =>
    intro lk st r he
    simp only [evC] at he ⊢
    split at he
    · rename_i st1 h1
      rw [iha _ _ _ h1]
      exact ihb _ _ _ he
    · rename_i x hne
      rw [iha _ _ _ he]
      obtain ⟨y, st2⟩ := r
      cases y with
      | normal => exact absurd he (hne _)
      | exit id => rfl
      | ret => rfl
  | cond c a b iha ihb =>
    intro lk st r he
    simp only [evC] at he ⊢
    split at he
    · rename_i t ht
      cases t
      · simp only [Bool.false_eq_true, if_false] at he ⊢; exact ihb _ _ _ he
      · simp only [if_true] at he ⊢; exact iha _ _ _ he
    · cases he
  | block id b ih =>
    intro lk st r he
    simp only [evC] at he ⊢
    split at he
    · rename_i k st1 h1
      rw [ih _ _ _ h1]
      exact he
    · rename_i x hne
      rw [ih _ _ _ he]
      obtain ⟨y, st2⟩ := r
      cases y with
      | normal => rfl
      | exit id => exact absurd he (hne _ _)
      | ret => rfl
  | loop keep b ih =>
    intro lk st r he
    simp only [evC] at he ⊢
    exact rounds_le (fun st r h => ih _ _ _ h) N st r he
  | rf keep f ps a b iha ihb =>
    intro lk st r he
    simp only [evC] at he ⊢
    split at he
    case h_2 => cases he
    rename_i g k caps hf
    split at he
    case h_2 => cases he
    rename_i xs hxs
    rw [hI _ _ _ _ _ hxs]
    simp only
    split at he
    case isFalse => cases he
    rename_i hlen
    rw [if_pos hlen]
    rw [Option.map_eq_some_iff] at he ⊢
    obtain ⟨r1, h1, h2⟩ := he
    refine ⟨r1, overH_mono (fun x h r he => ?_) h1, h2⟩
    split at he
    · rename_i st2 h3
      rw [iha _ _ _ h3]
      simp only
      split at he
      · rename_i y st3 h4
        rw [ihb _ _ _ h4]
        exact he
      · cases he
    · cases he
  | give t b ih =>
    intro lk st r he
    simp only [evC] at he ⊢
    split at he
    · split at he
      · exact ih _ _ _ he
      · cases he
    · split at he
      · exact ih _ _ _ he
      · cases he
theorem runF_le {O O' : Oracle} {I I' : Iter} (hO : LeO O O') (hI : LeI I I') {N : Nat} {m : MF} {as_ : List MV} {h : MHeap} {r : MV × MHeap} (he : runF O I N m as_ h = some r) : runF O' I' N m as_ h = some r := by
  unfold runF at he ⊢
  split at he
  · rename_i x st h1
    rw [evC_le hO hI _ _ _ _ h1]
    exact he
  · cases he
theorem frzCall_le {run run' : List MV → Option (MV × MHeap)} (hr : ∀ a r, run a = some r → run' a = some r) {as_ : List MV} {h : MHeap} {r : MV × MHeap} (he : frzCall run as_ h = some r) : frzCall run' as_ h = some r := by
  unfold frzCall at he ⊢
  split at he
  · rename_i as' h1
    split at he
    · rename_i m news h2
      rw [hr _ _ h2]
      exact he
    · cases he
  · cases he
noncomputable def orL (mf : Nat → Option MF) (N : Nat) : Nat → Oracle
  | 0, _, _, _ => none
  | k + 1, f, as_, h => frzCall (fun as' => match mf f with
    | some m => runFf (orL mf N k) noI N m as' []
    | none => none) as_ h
theorem orL_ok {M : Tab} {T : Oracle} {I0 : Iter} {N : Nat} {mf : Nat → Option MF} (hmf : ∀ f m, mf f = some m → M.mf f = some m ∧ ∀ as_, T f as_ [] = none) : ∀ k, LeO (orL mf N k) (orZ M T I0 N k)
  | 0 => fun f as_ h r he => by simp [orL] at he
  | k + 1 => fun f as_ h r he => by
    simp only [orL] at he
    simp only [orZ]
    rw [frzCall_le (run' := tabZ M T (orZ M T I0 N k) (orI M I0 (orZ M T I0 N k) N) N f) (fun a r hr => ?_) he]
    split at hr
    · rename_i m hm
      obtain ⟨h1, h2⟩ := hmf f m hm
      unfold tabZ runZ
      rw [h2, h1]
      exact runF_le (orL_ok hmf k) (fun g k cs h r he => by cases he) (runFf_ok hr)
    · cases hr
def OkT (M : Tab) (l : List (Nat × MF)) : Prop := ∀ p ∈ l, M.mf p.1 = some p.2
theorem OkT.nil {M : Tab} : OkT M [] := fun p hp => by cases hp
theorem OkT.cons {M : Tab} {k : Nat} {m : MF} {l : List (Nat × MF)} (h : M.mf k = some m) (hl : OkT M l) : OkT M ((k, m) :: l) := fun p hp => by
  rcases List.mem_cons.1 hp with rfl | hp
  · exact h
  · exact hl p hp
noncomputable def lookT (l : List (Nat × MF)) (f : Nat) : Option MF :=
  List.rec (motive := fun _ => Option MF) none (fun p _ ih => Bool.rec (motive := fun _ => Option MF) ih (some p.2) (Nat.beq f p.1)) l
theorem OkT.look {M : Tab} {f : Nat} {m : MF} : ∀ {l : List (Nat × MF)}, OkT M l → lookT l f = some m → M.mf f = some m
  | [], _, h => by cases h
  | p :: l, hl, h => by
    have e : lookT (p :: l) f = Bool.rec (motive := fun _ => Option MF) (lookT l f) (some p.2) (Nat.beq f p.1) := rfl
    rw [e] at h
    cases hb : Nat.beq f p.1
    · rw [hb] at h
      exact OkT.look (fun q hq => hl q (List.mem_cons_of_mem _ hq)) h
    · rw [hb] at h
      cases h
      rw [Nat.eq_of_beq_eq_true hb]
      exact hl p List.mem_cons_self
theorem runL_ok {M : Tab} {T : Oracle} {I0 : Iter} {N : Nat} {mf : Nat → Option MF} (hmf : ∀ f m, mf f = some m → M.mf f = some m ∧ ∀ as_, T f as_ [] = none) {k f : Nat} {m : MF} {as_ : List MV} {r : MV × MHeap} (hm : mf f = some m) (he : runFf (orL mf N k) noI N m as_ [] = some r) (I : Iter) : runZ M (orZ M T I0 N k) I N f as_ [] = some r := by
  unfold runZ
  rw [(hmf f m hm).1]
  exact runF_le (orL_ok hmf k) (fun g k cs h r he => by cases he) (runFf_ok he)
end Go.Proofs.Ytbdleggmdbihnaa
