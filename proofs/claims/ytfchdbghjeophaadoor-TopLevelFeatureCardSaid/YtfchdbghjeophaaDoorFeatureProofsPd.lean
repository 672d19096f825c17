/- Flows: a change along a cycle; without a program. -/
import Derived.Test.YtfchdbghjeophaaDoorFeatureProofsPc
/- Rows that are read only. -/
namespace Go.Proofs.YtfchdbghjeophaaDoor
open Go.RowKit
set_option linter.unusedVariables false
inductive SlI : MV → List Int → Prop
 | sl (l : List Int) : SlI (.sl (l.map I64)) l
 | nil : SlI (.lit (.slice none 0 0)) []
theorem SlI.lt {v : MV} {l : List Int} (h : SlI v l) : v.lt 0 = true := by
 cases h with
 | sl l => simp [MV.lt, ltL_I]
 | nil => rfl
theorem SlI.frz {v : MV} {l : List Int} (h : SlI v l) (H : MHeap) : Go.Proofs.YtfchdbghjeophaaDoor.frz 0 [] H 8 v = some v := frz_lt h.lt
theorem SlI.slen {v : MV} {l : List Int} (h : SlI v l) : v.slen = some l.length := by
 cases h with
 | sl l => simp [MV.slen]
 | nil => rfl
theorem SlI.pos {v : MV} {l : List Int} (h : SlI v l) (hp : 0 < l.length) : v = .sl (l.map I64) := by
 cases h with
 | sl l => rfl
 | nil => simp at hp
theorem SlI.cell {v : MV} {l : List Int} (h : SlI v l) : rdCells v.cells 0 none = some v := by cases h <;> rfl
end Go.Proofs.YtfchdbghjeophaaDoor

/- Contracts: names; the program's check of a net. -/
namespace Go.Proofs.YtfchdbghjeophaaDoor
open Go.RowKit
set_option linter.unusedVariables false
theorem unl_eq {b : Bool} {n : Int} (hn : n ≠ 0) : unl b n = 0 ↔ b = true := by
 cases b <;> simp [unl, hn]
theorem firstE_zero {x : Int} {xs : List Int} : firstE (x :: xs) = 0 ↔ x = 0 ∧ firstE xs = 0 := by
 by_cases h : x = 0 <;> simp [firstE, h]
theorem or32_all : (List.range 256).all (fun c => match binI .or .u8 (c : Nat) 32 with | some (.int .u8 o) => decide (0 ≤ o) && (decide (o ≤ 255) && (inB o 97 122 == ((decide (97 ≤ c) && decide (c ≤ 122)) || (decide (65 ≤ c) && decide (c ≤ 90))))) | _ => false) = true := by kernel_rfl
theorem or32 (c : UInt8) : ∃ o : Int, binI .or .u8 c.toNat 32 = some (.int .u8 o) ∧ 0 ≤ o ∧ o ≤ 255 ∧ inB o 97 122 = letB c := by
 have h := List.all_eq_true.1 or32_all c.toNat (List.mem_range.2 c.toNat_lt)
 split at h
 ·rename_i o ho
  simp only [Bool.and_eq_true, decide_eq_true_eq, beq_iff_eq] at h
  exact ⟨o, ho, h.1, h.2.1, h.2.2⟩
 ·cases h
theorem mf_isName : MT.mf 57 = some mfW_l57 := mfW_q57
theorem allNb_step {bs : List UInt8} {i : Nat} (h : i < bs.length) : allNb i (bs.drop i) = (nbB i bs[i] && allNb (i + 1) (bs.drop (i + 1))) := by
 rw [List.drop_eq_getElem_cons h, allNb]
set_option maxHeartbeats 1000000 in
theorem isName_z (k : Nat) (s : ByteArray) (hs : s.size ≤ 1000) : runZ MT (orA (k + 1)) (itA (k + 1)) 4000000 57 [.lit (.string s)] [] = some (Bo (nmB s), []) := by
 obtain ⟨bs, hbs⟩ : ∃ bs, s.data.toList = bs := ⟨_, rfl⟩
 have hbl : bs.length = s.size := by rw [← hbs, Array.length_toList]; rfl
 have hl : (MV.sl (s.data.toList.map fun c => MV.lit (.int .u8 c.toNat))).slen = some bs.length := by simp [MV.slen, hbs]
 have HNM := Lib.hid (show nmB s = (allNb 0 bs && inB s.size 1 12) by rw [← hbs]; rfl)
 refine runZ_of mf_isName (by simp) ?_
 simp only [argsL]
 repeat (first | apply ef_seq | (apply ef_mv; exact rfl; exact rfl) | (apply ef_len; exact rfl; exact rfl; (assumption)) | (apply ef_s2b; exact rfl; exact rfl) | apply ef_nil | apply seqQ.normal | apply ef_block)
 rw [hbs]
 refine ef_loopf (α := Nat) (fun i => i ≤ bs.length ∧ allNb 0 bs = allNb i (bs.drop i)) (fun i => [(9, I64 (i : Int))]) [(8, I64 (bs.length : Int)), (7, .sl (bs.map encB)), (0, .lit (.string s))] (fun _ => []) (fun i => bs.length - i) 0 [9] (fun _ => rfl) (by ((repeat (refine Hold.cons (by exact rfl) ?_)); exact Hold.nil)) (by ((repeat (refine Hold.cons (by exact rfl) ?_)); exact Hold.nil)) rfl rfl ⟨by omega, rfl⟩ (by simp; omega) ?_
 rintro i ⟨hi, hz⟩
 try simp only at hi hz ⊢
 by_cases hlt : i < bs.length
 ·have e1 := at_map encB bs i hlt
  have HS := Lib.hid (allNb_step hlt)
  have HZ := Lib.hid hz
  clear hz
  generalize bs[i] = c at e1 HS
  have hc := c.toNat_lt
  obtain ⟨o, ho, o1, o2, o3⟩ := or32 c
  have hw := fun h => within_c k o 97 122 h o3
  have hd := fun h => within_c k (c.toNat : Int) 48 57 h rfl
  have HB := Lib.hid (show nbB i c = (letB c || (decide (i ≠ 0) && (decide (c.toNat = 45) || inB c.toNat 48 57))) by unfold nbB; congr 3; unfold inB; rw [Bool.eq_iff_iff]; simp; omega)
  generalize letB c = lt at hw HB
  generalize hdd : inB (c.toNat : Int) 48 57 = dg at hd HB
  clear o3 hdd
  cases lt
  ·by_cases h0 : i = 0
   ·subst h0
    repeat (first | apply ef_seq | (apply ef_mv; exact rfl; exact rfl) | (apply ef_bin; (iterate 3 exact rfl); (first | assumption | exact cmp_t rfl (by first | exact rfl | (simp only [cmpP]; omega)))) | (apply ef_gy; exact rfl; (exact (rfl : true = true))) | (apply ef_gn; exact rfl; (exact (rfl : true = true)); exact rfl) | (apply ef_gu; exact rfl; exact rfl) | (apply ef_pick; (iterate 3 exact rfl)) | (apply ef_ldr; exact rfl; exact rfl; (exact rfl)) | (apply ef_ias; (iterate 3 exact rfl); (omega); assumption; exact rfl) | (apply ef_notF; exact rfl; exact rfl) | (apply ef_cv; exact rfl; exact rfl; (exact wrap_of (by omega) (by omega))) | apply ef_nil | apply seqQ.normal | apply loopQ.ret | apply ef_ret | apply seqQ.ret | apply blockQ.ret | apply ef_block | apply ef_skip | (apply ef_condt; exact rfl; (exact (rfl : true = true))) | (apply ef_call; exact rfl; ((repeat (apply XVs.cons; exact rfl)); exact XVs.nil); (with_reducible exact hw _)))
    (refine fin1 rfl (by exact rfl) rfl ?_)
    rw [HNM.out, HZ.out, HS.out, HB.out]; simp
   ·by_cases h45 : c.toNat = 45
    ·repeat (first | apply ef_seq | (apply ef_mv; exact rfl; exact rfl) | (apply ef_bin; (iterate 3 exact rfl); (first | assumption | exact cmp_t rfl (by first | exact rfl | (simp only [cmpP]; omega)) | exact cmp_f rfl (by simp only [cmpP]; omega) | ((with_reducible refine bin_add (wrap_of ?_ ?_)) <;> omega))) | (apply ef_gy; exact rfl; (first | exact (rfl : true = true) | exact (rfl : false = false))) | (apply ef_gn; exact rfl; (exact (rfl : false = false)); exact rfl) | (apply ef_pick; (iterate 3 exact rfl)) | (apply ef_ldr; exact rfl; exact rfl; (exact rfl)) | (apply ef_ias; (iterate 3 exact rfl); (omega); assumption; exact rfl) | (apply ef_notF; exact rfl; exact rfl) | (apply ef_cv; exact rfl; exact rfl; (exact wrap_of (by omega) (by omega))) | apply ef_nil | apply seqQ.normal | apply blockQ.normal | apply ef_block | apply ef_skip | (apply ef_condt; exact rfl; (exact (rfl : true = true))) | (apply ef_condf; exact rfl; (exact (rfl : false = false))) | (apply ef_call; exact rfl; ((repeat (apply XVs.cons; exact rfl)); exact XVs.nil); (with_reducible exact hw _)))
     (refine loopQ.normal _ _ ⟨i + 1, ⟨hlt, by rw [HZ.out, HS.out, HB.out]; simp [h0, h45]⟩, (by first | (simp only; omega) | omega), ⟨by ((repeat (refine Hold.cons (by exact rfl) ?_)); exact Hold.nil), by ((repeat (refine Hold.cons (by exact rfl) ?_)); exact Hold.nil)⟩, .inl (Nat.le_refl _), (by first | exact List.take_length | exact rfl | exact takeF rfl rfl)⟩)
    ·cases dg
     ·repeat (first | apply ef_seq | (apply ef_mv; exact rfl; exact rfl) | (apply ef_bin; (iterate 3 exact rfl); (first | assumption | exact cmp_t rfl (by first | exact rfl | (simp only [cmpP]; omega)) | exact cmp_f rfl (by simp only [cmpP]; omega))) | (apply ef_gy; exact rfl; (first | exact (rfl : true = true) | exact (rfl : false = false))) | (apply ef_pick; (iterate 3 exact rfl)) | (apply ef_ldr; exact rfl; exact rfl; (exact rfl)) | (apply ef_ias; (iterate 3 exact rfl); (omega); assumption; exact rfl) | (apply ef_notF; exact rfl; exact rfl) | (apply ef_cv; exact rfl; exact rfl; (exact wrap_of (by omega) (by omega))) | apply ef_nil | apply seqQ.normal | apply loopQ.ret | apply ef_ret | apply seqQ.ret | apply blockQ.ret | apply ef_block | apply ef_skip | (apply ef_condt; exact rfl; (exact (rfl : true = true))) | (apply ef_call; exact rfl; ((repeat (apply XVs.cons; exact rfl)); exact XVs.nil); (with_reducible first | exact hw _ | exact hd _)))
      (refine fin1 rfl (by exact rfl) rfl ?_)
      rw [HNM.out, HZ.out, HS.out, HB.out]; simp [h0, h45]
     ·repeat (first | apply ef_seq | (apply ef_mv; exact rfl; exact rfl) | (apply ef_bin; (iterate 3 exact rfl); (first | assumption | exact cmp_t rfl (by first | exact rfl | (simp only [cmpP]; omega)) | exact cmp_f rfl (by simp only [cmpP]; omega) | ((with_reducible refine bin_add (wrap_of ?_ ?_)) <;> omega))) | (apply ef_gy; exact rfl; (first | exact (rfl : true = true) | exact (rfl : false = false))) | (apply ef_pick; (iterate 3 exact rfl)) | (apply ef_ldr; exact rfl; exact rfl; (exact rfl)) | (apply ef_ias; (iterate 3 exact rfl); (omega); assumption; exact rfl) | (apply ef_notT; exact rfl; exact rfl) | (apply ef_notF; exact rfl; exact rfl) | (apply ef_cv; exact rfl; exact rfl; (exact wrap_of (by omega) (by omega))) | apply ef_nil | apply seqQ.normal | apply blockQ.normal | apply ef_block | apply ef_skip | (apply ef_condt; exact rfl; (exact (rfl : true = true))) | (apply ef_condf; exact rfl; (exact (rfl : false = false))) | (apply ef_call; exact rfl; ((repeat (apply XVs.cons; exact rfl)); exact XVs.nil); (with_reducible first | exact hw _ | exact hd _)))
      (refine loopQ.normal _ _ ⟨i + 1, ⟨hlt, by rw [HZ.out, HS.out, HB.out]; simp [h0, h45]⟩, (by first | (simp only; omega) | omega), ⟨by ((repeat (refine Hold.cons (by exact rfl) ?_)); exact Hold.nil), by ((repeat (refine Hold.cons (by exact rfl) ?_)); exact Hold.nil)⟩, .inl (Nat.le_refl _), (by first | exact List.take_length | exact rfl | exact takeF rfl rfl)⟩)
  ·repeat (first | apply ef_seq | (apply ef_mv; exact rfl; exact rfl) | (apply ef_bin; (iterate 3 exact rfl); (first | assumption | exact cmp_t rfl (by first | exact rfl | (simp only [cmpP]; omega)) | ((with_reducible refine bin_add (wrap_of ?_ ?_)) <;> omega))) | (apply ef_gn; exact rfl; (exact (rfl : false = false)); exact rfl) | (apply ef_gu; exact rfl; exact rfl) | (apply ef_pick; (iterate 3 exact rfl)) | (apply ef_ldr; exact rfl; exact rfl; (exact rfl)) | (apply ef_ias; (iterate 3 exact rfl); (omega); assumption; exact rfl) | (apply ef_notT; exact rfl; exact rfl) | (apply ef_cv; exact rfl; exact rfl; (exact wrap_of (by omega) (by omega))) | apply ef_nil | apply seqQ.normal | apply blockQ.normal | apply ef_block | apply ef_skip | (apply ef_condt; exact rfl; (exact (rfl : true = true))) | (apply ef_condf; exact rfl; (exact (rfl : false = false))) | (apply ef_call; exact rfl; ((repeat (apply XVs.cons; exact rfl)); exact XVs.nil); (with_reducible exact hw _)))
   (refine loopQ.normal _ _ ⟨i + 1, ⟨hlt, by rw [HZ.out, HS.out, HB.out]; simp⟩, (by first | (simp only; omega) | omega), ⟨by ((repeat (refine Hold.cons (by exact rfl) ?_)); exact Hold.nil), by ((repeat (refine Hold.cons (by exact rfl) ?_)); exact Hold.nil)⟩, .inl (Nat.le_refl _), (by first | exact List.take_length | exact rfl | exact takeF rfl rfl)⟩)
 ·have hw := fun h => within_c k (s.size : Int) 1 12 h rfl
  repeat (first | apply ef_seq | (apply ef_mv; exact rfl; exact rfl) | (apply ef_bin; (iterate 3 exact rfl); (exact cmp_f rfl (by simp only [cmpP]; omega))) | (apply ef_sln; exact rfl; exact rfl) | apply ef_nil | apply seqQ.normal | apply loopQ.exit | apply ef_ret | apply ef_exit | apply seqQ.exit | apply blockQ.here | (apply ef_condf; exact rfl; (exact (rfl : false = false))) | (apply ef_call; exact rfl; ((repeat (apply XVs.cons; exact rfl)); exact XVs.nil); (with_reducible exact hw _)))
  (refine fin1 rfl (by exact rfl) rfl ?_)
  rw [HNM.out, hz, List.drop_eq_nil_of_le (by omega)]; simp [allNb]
theorem isName_c (k : Nat) (s : ByteArray) (hs : s.size ≤ 1000) (h : MHeap) : orA (k + 2) 57 [.lit (.string s)] h = some (Bo (nmB s), h) :=
 callL (args' := [.lit (.string s)]) (frzL_lt rfl) rfl (isName_z k s hs)
end Go.Proofs.YtfchdbghjeophaaDoor

/- Contracts: the program's check of a net. -/
namespace Go.Proofs.YtfchdbghjeophaaDoor
open Go.RowKit
set_option linter.unusedVariables false
theorem mf_IndexFuncL : MT.mf 63 = some mfW_l63 := mfW_q63
theorem IndexFuncL_z (k g : Nat) (caps : List MV) (P : Ln → Bool) (zs : List Ln) (hx : zs.length ≤ 1000) (hg : ∀ z ∈ zs, ∀ h, orA k g (encLn z :: caps) h = some (Bo (P z), h)) :
  runZ MT (orA k) (itA k) 4000000 63 [.sl (zs.map encLn), .fn g 0 caps] [] = some (I64 (fIxG P zs 0), []) := by
 have hl : (MV.sl (zs.map encLn)).slen = some zs.length := by simp [MV.slen]
 refine runZ_of mf_IndexFuncL (by simp) ?_
 simp only [argsL]
 repeat (first | apply ef_seq | (apply ef_mv; exact rfl; exact rfl) | (apply ef_len; exact rfl; exact rfl; (assumption)) | apply ef_nil | apply seqQ.normal | apply ef_block)
 refine ef_loop (α := Nat) (fun i => i ≤ zs.length ∧ fIxG P zs 0 = fIxG P (zs.drop i) i) (fun i => [(8, I64 (i : Int)), (7, I64 (zs.length : Int)), (1, .fn g 0 caps), (0, .sl (zs.map encLn))]) (fun _ => []) (fun i => zs.length - i) 0 [8, 7, 1, 0] (fun _ => rfl) rfl ⟨by omega, rfl⟩ (by simp; omega) (by ((repeat (refine Hold.cons (by exact rfl) ?_)); exact Hold.nil)) rfl ?_
 rintro i ⟨hi, hz⟩
 by_cases hlt : i < zs.length
 ·have e1 := at_map encLn zs i hlt
  have HD := Lib.hid (drop_at zs i hlt)
  have HZ := Lib.hid hz
  have hg1 := hg zs[i] (List.getElem_mem hlt)
  clear hz hg
  obtain ⟨t, ht⟩ : ∃ t, P zs[i] = t := ⟨_, rfl⟩
  have HT := Lib.hid ht
  rw [ht] at hg1
  clear ht
  generalize zs[i] = z at e1 HD hg1 HT
  cases t
  ·repeat (first | apply ef_seq | (apply ef_mv; exact rfl; exact rfl) | (apply ef_bin; (iterate 3 exact rfl); (exact cmp_t rfl (by first | exact rfl | (simp only [cmpP]; omega)))) | (apply ef_ldr; exact rfl; exact rfl; (exact rd_2 rfl rfl)) | (apply ef_ias; (iterate 3 exact rfl); (omega); assumption; exact rfl) | apply ef_nil | apply seqQ.normal | apply ef_block | apply ef_skip | (apply ef_condt; exact rfl; (exact (rfl : true = true))))
   (apply ef_callv; exact rfl; exact rfl; ((repeat (apply XVs.cons; exact rfl)); exact XVs.nil); exact rfl; exact hg1 _)
   repeat (first | (apply ef_mv; exact rfl; exact rfl) | (apply ef_bin; (iterate 3 exact rfl); (((with_reducible refine bin_add (wrap_of ?_ ?_)) <;> omega))) | apply ef_nil | apply seqQ.normal | apply blockQ.normal | apply ef_skip | (apply ef_condf; exact rfl; (exact (rfl : false = false))))
   (refine loopQ.normal _ _ ⟨i + 1, ⟨hlt, by rw [HZ.out, HD.out]; simp [fIxG, HT.out]⟩, (by first | (simp only; omega) | omega), by ((repeat (refine Hold.cons (by exact rfl) ?_)); exact Hold.nil), .inl (Nat.le_refl _), (by first | exact List.take_length | exact rfl)⟩)
  ·repeat (first | apply ef_seq | (apply ef_mv; exact rfl; exact rfl) | (apply ef_bin; (iterate 3 exact rfl); (exact cmp_t rfl (by first | exact rfl | (simp only [cmpP]; omega)))) | (apply ef_ldr; exact rfl; exact rfl; (exact rd_2 rfl rfl)) | (apply ef_ias; (iterate 3 exact rfl); (omega); assumption; exact rfl) | apply ef_nil | apply seqQ.normal | apply ef_block | apply ef_skip | (apply ef_condt; exact rfl; (exact (rfl : true = true))))
   (apply ef_callv; exact rfl; exact rfl; ((repeat (apply XVs.cons; exact rfl)); exact XVs.nil); exact rfl; exact hg1 _)
   repeat (first | apply ef_seq | (apply ef_mv; exact rfl; exact rfl) | apply ef_nil | apply seqQ.normal | apply loopQ.ret | apply ef_ret | apply seqQ.ret | apply blockQ.ret | (apply ef_condt; exact rfl; (exact (rfl : true = true))))
   (refine fin1 rfl (by exact rfl) rfl ?_)
   rw [HZ.out, HD.out]; simp [fIxG, HT.out]
 ·repeat (first | apply ef_seq | (apply ef_mv; exact rfl; exact rfl) | (apply ef_bin; (iterate 3 exact rfl); (exact cmp_f rfl (by simp only [cmpP]; omega))) | apply ef_nil | apply seqQ.normal | apply loopQ.exit | apply ef_ret | apply ef_exit | apply seqQ.exit | apply blockQ.here | (apply ef_condf; exact rfl; (exact (rfl : false = false))))
  (refine fin1 rfl (by exact rfl) rfl ?_)
  rw [hz, List.drop_eq_nil_of_le (by omega)]; rfl
theorem IndexFuncL_c (k g : Nat) (caps : List MV) (P : Ln → Bool) (zs : List Ln) (h : MHeap) {v fv : MV} (hx : zs.length ≤ 1000) (hg : ∀ z ∈ zs, ∀ h, orA k g (encLn z :: caps) h = some (Bo (P z), h)) (hv : frz 0 [] h 8 v = some (.sl (zs.map encLn))) (hf : frz 0 [] h 8 fv = some (.fn g 0 caps)) :
  orA (k + 1) 63 [v, fv] h = some (I64 (fIxG P zs 0), h) :=
 callL (args' := [.sl (zs.map encLn), .fn g 0 caps]) (by simp [List.mapM_cons, hv, hf]) rfl (IndexFuncL_z k g caps P zs hx hg)
theorem mf_ContainsFuncL : MT.mf 55 = some mfW_l55 := mfW_q55
theorem ContainsFuncL_c (k g : Nat) (caps : List MV) (P : Ln → Bool) (zs : List Ln) (h : MHeap) {v fv : MV} {t : Bool} (hx : zs.length ≤ 1000) (hg : ∀ z ∈ zs, ∀ h, orA k g (encLn z :: caps) h = some (Bo (P z), h)) (hl : ltL 0 caps = true) (hv : frz 0 [] h 8 v = some (.sl (zs.map encLn))) (hf : frz 0 [] h 8 fv = some (.fn g 0 caps))
  (ht : zs.any P = t) : orA (k + 2) 55 [v, fv] h = some (Bo t, h) := by
 refine callL (args' := [.sl (zs.map encLn), .fn g 0 caps]) (by simp [List.mapM_cons, hv, hf]) rfl (runZ_of mf_ContainsFuncL (by simp) ?_)
 simp only [argsL]
 have hi := fun h => IndexFuncL_c k g caps P zs h (v := .sl (zs.map encLn)) (fv := .fn g 0 caps) hx hg (frz_sl (ltL_lits (fun _ => by simp [MV.lt, ltL]) zs)) (by simp [frz, MV.lt, hl])
 repeat (first | apply ef_seq | (apply ef_mv; exact rfl; exact rfl) | (apply ef_bin; (iterate 3 exact rfl); (exact rfl)) | apply ef_nil | apply seqQ.normal | apply ef_ret | (apply ef_call; exact rfl; ((repeat (apply XVs.cons; exact rfl)); exact XVs.nil); (with_reducible exact hi _)))
 (refine fin1 rfl (by exact rfl) rfl ?_)
 rw [← ht]
 exact fIxG_any P zs
theorem mf_IndexFuncC : MT.mf 67 = some mfW_l67 := mfW_q67
theorem IndexFuncC_z (k g : Nat) (caps : List MV) (P : Cr → Bool) (zs : List Cr) (hx : zs.length ≤ 1000) (hg : ∀ z ∈ zs, ∀ h, orA k g (encCr z :: caps) h = some (Bo (P z), h)) :
  runZ MT (orA k) (itA k) 4000000 67 [.sl (zs.map encCr), .fn g 0 caps] [] = some (I64 (fIxG P zs 0), []) := by
 have hl : (MV.sl (zs.map encCr)).slen = some zs.length := by simp [MV.slen]
 refine runZ_of mf_IndexFuncC (by simp) ?_
 simp only [argsL]
 repeat (first | apply ef_seq | (apply ef_mv; exact rfl; exact rfl) | (apply ef_len; exact rfl; exact rfl; (assumption)) | apply ef_nil | apply seqQ.normal | apply ef_block)
 refine ef_loop (α := Nat) (fun i => i ≤ zs.length ∧ fIxG P zs 0 = fIxG P (zs.drop i) i) (fun i => [(8, I64 (i : Int)), (7, I64 (zs.length : Int)), (1, .fn g 0 caps), (0, .sl (zs.map encCr))]) (fun _ => []) (fun i => zs.length - i) 0 [8, 7, 1, 0] (fun _ => rfl) rfl ⟨by omega, rfl⟩ (by simp; omega) (by ((repeat (refine Hold.cons (by exact rfl) ?_)); exact Hold.nil)) rfl ?_
 rintro i ⟨hi, hz⟩
 by_cases hlt : i < zs.length
 ·have e1 := at_map encCr zs i hlt
  have HD := Lib.hid (drop_at zs i hlt)
  have HZ := Lib.hid hz
  have hg1 := hg zs[i] (List.getElem_mem hlt)
  clear hz hg
  obtain ⟨t, ht⟩ : ∃ t, P zs[i] = t := ⟨_, rfl⟩
  have HT := Lib.hid ht
  rw [ht] at hg1
  clear ht
  generalize zs[i] = z at e1 HD hg1 HT
  cases t
  ·repeat (first | apply ef_seq | (apply ef_mv; exact rfl; exact rfl) | (apply ef_bin; (iterate 3 exact rfl); (exact cmp_t rfl (by first | exact rfl | (simp only [cmpP]; omega)))) | (apply ef_ldr; exact rfl; exact rfl; (exact rd_6 rfl rfl rfl rfl rfl rfl)) | (apply ef_ias; (iterate 3 exact rfl); (omega); assumption; exact rfl) | apply ef_nil | apply seqQ.normal | apply ef_block | apply ef_skip | (apply ef_condt; exact rfl; (exact (rfl : true = true))))
   (apply ef_callv; exact rfl; exact rfl; ((repeat (apply XVs.cons; exact rfl)); exact XVs.nil); exact rfl; exact hg1 _)
   repeat (first | (apply ef_mv; exact rfl; exact rfl) | (apply ef_bin; (iterate 3 exact rfl); (((with_reducible refine bin_add (wrap_of ?_ ?_)) <;> omega))) | apply ef_nil | apply seqQ.normal | apply blockQ.normal | apply ef_skip | (apply ef_condf; exact rfl; (exact (rfl : false = false))))
   (refine loopQ.normal _ _ ⟨i + 1, ⟨hlt, by rw [HZ.out, HD.out]; simp [fIxG, HT.out]⟩, (by first | (simp only; omega) | omega), by ((repeat (refine Hold.cons (by exact rfl) ?_)); exact Hold.nil), .inl (Nat.le_refl _), (by first | exact List.take_length | exact rfl)⟩)
  ·repeat (first | apply ef_seq | (apply ef_mv; exact rfl; exact rfl) | (apply ef_bin; (iterate 3 exact rfl); (exact cmp_t rfl (by first | exact rfl | (simp only [cmpP]; omega)))) | (apply ef_ldr; exact rfl; exact rfl; (exact rd_6 rfl rfl rfl rfl rfl rfl)) | (apply ef_ias; (iterate 3 exact rfl); (omega); assumption; exact rfl) | apply ef_nil | apply seqQ.normal | apply ef_block | apply ef_skip | (apply ef_condt; exact rfl; (exact (rfl : true = true))))
   (apply ef_callv; exact rfl; exact rfl; ((repeat (apply XVs.cons; exact rfl)); exact XVs.nil); exact rfl; exact hg1 _)
   repeat (first | apply ef_seq | (apply ef_mv; exact rfl; exact rfl) | apply ef_nil | apply seqQ.normal | apply loopQ.ret | apply ef_ret | apply seqQ.ret | apply blockQ.ret | (apply ef_condt; exact rfl; (exact (rfl : true = true))))
   (refine fin1 rfl (by exact rfl) rfl ?_)
   rw [HZ.out, HD.out]; simp [fIxG, HT.out]
 ·repeat (first | apply ef_seq | (apply ef_mv; exact rfl; exact rfl) | (apply ef_bin; (iterate 3 exact rfl); (exact cmp_f rfl (by simp only [cmpP]; omega))) | apply ef_nil | apply seqQ.normal | apply loopQ.exit | apply ef_ret | apply ef_exit | apply seqQ.exit | apply blockQ.here | (apply ef_condf; exact rfl; (exact (rfl : false = false))))
  (refine fin1 rfl (by exact rfl) rfl ?_)
  rw [hz, List.drop_eq_nil_of_le (by omega)]; rfl
theorem IndexFuncC_c (k g : Nat) (caps : List MV) (P : Cr → Bool) (zs : List Cr) (h : MHeap) {v fv : MV} (hx : zs.length ≤ 1000) (hg : ∀ z ∈ zs, ∀ h, orA k g (encCr z :: caps) h = some (Bo (P z), h)) (hv : frz 0 [] h 8 v = some (.sl (zs.map encCr))) (hf : frz 0 [] h 8 fv = some (.fn g 0 caps)) :
  orA (k + 1) 67 [v, fv] h = some (I64 (fIxG P zs 0), h) :=
 callL (args' := [.sl (zs.map encCr), .fn g 0 caps]) (by simp [List.mapM_cons, hv, hf]) rfl (IndexFuncC_z k g caps P zs hx hg)
theorem mf_ContainsFuncC : MT.mf 65 = some mfW_l65 := mfW_q65
theorem ContainsFuncC_c (k g : Nat) (caps : List MV) (P : Cr → Bool) (zs : List Cr) (h : MHeap) {v fv : MV} {t : Bool} (hx : zs.length ≤ 1000) (hg : ∀ z ∈ zs, ∀ h, orA k g (encCr z :: caps) h = some (Bo (P z), h)) (hl : ltL 0 caps = true) (hv : frz 0 [] h 8 v = some (.sl (zs.map encCr))) (hf : frz 0 [] h 8 fv = some (.fn g 0 caps))
  (ht : zs.any P = t) : orA (k + 2) 65 [v, fv] h = some (Bo t, h) := by
 refine callL (args' := [.sl (zs.map encCr), .fn g 0 caps]) (by simp [List.mapM_cons, hv, hf]) rfl (runZ_of mf_ContainsFuncC (by simp) ?_)
 simp only [argsL]
 have hi := fun h => IndexFuncC_c k g caps P zs h (v := .sl (zs.map encCr)) (fv := .fn g 0 caps) hx hg (frz_sl (ltL_lits (fun _ => by simp [MV.lt, ltL]) zs)) (by simp [frz, MV.lt, hl])
 repeat (first | apply ef_seq | (apply ef_mv; exact rfl; exact rfl) | (apply ef_bin; (iterate 3 exact rfl); (exact rfl)) | apply ef_nil | apply seqQ.normal | apply ef_ret | (apply ef_call; exact rfl; ((repeat (apply XVs.cons; exact rfl)); exact XVs.nil); (with_reducible exact hi _)))
 (refine fin1 rfl (by exact rfl) rfl ?_)
 rw [← ht]
 exact fIxG_any P zs
theorem mf_CheckNet1 : MT.mf 56 = some mfW_l56 := mfW_q56
theorem CheckNet1_c (k : Nat) (o l : Ln) (h : MHeap) : orA (k + 1) 56 [encLn o, .rp (encLn l) 0] h = some (Bo (o.1 == l.1), h) := by
 refine callL (args' := [encLn o, .rp (encLn l) 0]) (frzL_lt rfl) rfl (runZ_of mf_CheckNet1 (by simp) ?_)
 simp only [argsL]
 repeat (first | apply ef_seq | (apply ef_mv; exact rfl; exact rfl) | (apply ef_ldr; exact rfl; exact rfl; (exact rfl)) | (apply ef_ldp; exact rfl; exact rfl; (exact rfl); exact rfl; (exact rfl); (exact rfl)) | (apply ef_fap; exact rfl; exact rfl) | (apply ef_far; exact rfl; exact rfl) | (apply ef_box; (iterate 4 exact rfl)) | (apply ef_sq; (iterate 3 exact rfl)) | apply ef_nil | apply seqQ.normal | apply ef_ret)
 repeat (fail)
 repeat (fail)
 (refine fin1 rfl (by exact rfl) rfl ?_)
 rfl
theorem mf_crossingErr1 : MT.mf 66 = some mfW_l66 := mfW_q66
theorem crossingErr1_c (k : Nat) (o c : Cr) (h : MHeap) : orA (k + 1) 66 [encCr o, .rp (encCr c) 0] h = some (Bo (dblB c o), h) := by
 refine callL (args' := [encCr o, .rp (encCr c) 0]) (frzL_lt rfl) rfl (runZ_of mf_crossingErr1 (by simp) ?_)
 simp only [argsL]
 have HD := Lib.hid (show dblB c o = ((decide (o.ln = c.ln) && decide (o.pa = c.pa)) || (decide (o.ti = c.ti) && decide (o.pt = c.pt))) from rfl)
 by_cases h1 : o.ln = c.ln <;> by_cases h2 : o.pa = c.pa <;> by_cases h3 : o.ti = c.ti <;> by_cases h4 : o.pt = c.pt
 all_goals repeat (first | apply ef_seq | (apply ef_mv; exact rfl; exact rfl) | (apply ef_bin; (iterate 3 exact rfl); (first | exact cmp_t rfl (by first | exact rfl | (simp only [cmpP]; omega)) | exact cmp_f rfl (by simp only [cmpP]; omega))) | (apply ef_gy; exact rfl; (first | exact (rfl : true = true) | exact (rfl : false = false))) | (apply ef_gn; exact rfl; (first | exact (rfl : true = true) | exact (rfl : false = false)); exact rfl) | (apply ef_gu; exact rfl; exact rfl) | (apply ef_pick; (iterate 3 exact rfl)) | (apply ef_ldr; exact rfl; exact rfl; (exact rfl)) | (apply ef_ldp; exact rfl; exact rfl; (exact rfl); exact rfl; (exact rfl); (exact rfl)) | (apply ef_fap; exact rfl; exact rfl) | (apply ef_far; exact rfl; exact rfl) | (apply ef_box; (iterate 4 exact rfl)) | apply ef_nil | apply seqQ.normal | apply ef_ret)
 all_goals (refine fin1 rfl (by exact rfl) rfl ?_)
 all_goals (rw [HD.out]; simp [h1, h2, h3, h4])
theorem mf_isPosition : MT.mf 64 = some mfW_l64 := mfW_q64
theorem isPosition_c (k : Nat) (n : Int) (h : MHeap) {b : Bool} (hb : inB n 0 1000000 = b) : orA (k + 2) 64 [I64 n] h = some (Bo b, h) := by
 refine callL (args' := [I64 n]) (frzL_lt rfl) rfl (runZ_of mf_isPosition (by simp) ?_)
 simp only [argsL]
 have hw := fun h => within_c k n 0 1000000 h hb
 repeat (first | apply ef_seq | (apply ef_mv; exact rfl; exact rfl) | apply ef_nil | apply seqQ.normal | apply ef_ret | (apply ef_call; exact rfl; ((repeat (apply XVs.cons; exact rfl)); exact XVs.nil); (with_reducible exact hw _)))
 (refine fin1 rfl (by exact rfl) rfl ?_)
 rfl
theorem mf_isSized : MT.mf 27 = some mfW_l27 := mfW_q27
theorem isSized_c (k : Nat) (n m : Int) (h : MHeap) {b : Bool} (h0 : 0 ≤ m) (h1 : m ≤ 1000000000) (hb : inB n (-m) m = b) : orA (k + 2) 27 [I64 n, I64 m] h = some (Bo b, h) := by
 refine callL (args' := [I64 n, I64 m]) (frzL_lt rfl) rfl (runZ_of mf_isSized (by simp) ?_)
 simp only [argsL]
 have hw := fun h => within_c k n (0 - m) m h (t := b) (by rw [Int.zero_sub]; exact hb)
 repeat (first | apply ef_seq | (apply ef_mv; exact rfl; exact rfl) | (apply ef_neg; exact rfl; exact rfl; exact wrap_of (by omega) (by omega)) | apply ef_nil | apply seqQ.normal | apply ef_ret | (apply ef_call; exact rfl; ((repeat (apply XVs.cons; exact rfl)); exact XVs.nil); (with_reducible exact hw _)))
 (refine fin1 rfl (by exact rfl) rfl ?_)
 rfl
theorem ln_at {ls : List Ln} {i : Int} (h : inB i 0 ((ls.length : Int) - 1) = true) : 0 ≤ i ∧ (ls.map encLn)[i.toNat]? = some (encLn (ls.getD i.toNat (⟨#[]⟩, false))) := by
 obtain ⟨h0, h1⟩ := inB_iff.1 h
 refine ⟨h0, ?_⟩
 have hlt : i.toNat < ls.length := by omega
 rw [List.getElem?_map, List.getElem?_eq_getElem hlt, List.getD_eq_getElem?_getD, List.getElem?_eq_getElem hlt]; rfl
theorem ltL_Ln (n : Nat) (ls : List Ln) : ltL n (ls.map encLn) = true := ltL_lits (fun _ => rfl) ls
theorem ltL_Cr (n : Nat) (ls : List Cr) : ltL n (ls.map encCr) = true := ltL_lits (fun _ => rfl) ls
theorem pureL_Ln (ls : List Ln) : pureL (ls.map encLn) = true := pureL_lits (fun _ => rfl) ls
theorem pureL_Cr (ls : List Cr) : pureL (ls.map encCr) = true := pureL_lits (fun _ => rfl) ls
theorem mf_crossingErr : MT.mf 58 = some mfW_l58 := mfW_q58
set_option maxHeartbeats 2000000 in
theorem crossingErr_c (k : Nat) (ls : List Ln) (pre : List Cr) (c : Cr) (h : MHeap) (hl : ls.length ≤ 1000) (hp : pre.length ≤ 1000) : orA (k + 4) 58 [.sl (ls.map encLn), .sl (pre.map encCr), encCr c] h = some (I64 (crossE ls pre c), h) := by
 refine callL (args' := [.sl (ls.map encLn), .sl (pre.map encCr), encCr c]) (frzL_lt (by simp [ltL, MV.lt, ltL_Ln, ltL_Cr])) rfl (runZ_of mf_crossingErr (by simp) ?_)
 simp only [argsL]
 have hsl : (MV.sl (ls.map encLn)).slen = some ls.length := by simp [MV.slen]
 have hun := fun b e h => unless_c (k + 2) b e h rfl
 cases h1 : inB c.ln 0 ((ls.length : Int) - 1)
 ·have hw1 := fun h => within_c (k + 2) c.ln 0 ((ls.length : Int) - 1) h h1
  repeat (first | apply ef_seq | (apply ef_mv; exact rfl; exact rfl) | (apply ef_bin; (iterate 3 exact rfl); (((with_reducible refine bin_sub (wrap_of ?_ ?_)) <;> omega))) | (apply ef_gn; exact rfl; (exact (rfl : true = true)); exact rfl) | (apply ef_pick; (iterate 3 exact rfl)) | (apply ef_len; exact rfl; exact rfl; (assumption)) | (apply ef_ldp; exact rfl; exact rfl; (exact rfl); exact rfl; (exact rfl); (exact rfl)) | (apply ef_fap; exact rfl; exact rfl) | (apply ef_notF; exact rfl; exact rfl) | (apply ef_box; (iterate 4 exact rfl)) | apply ef_nil | apply seqQ.normal | apply ef_ret | apply seqQ.ret | (apply ef_condt; exact rfl; (exact (rfl : true = true))) | (apply ef_call; exact rfl; ((repeat (apply XVs.cons; exact rfl)); exact XVs.nil); (with_reducible exact hw1 _)))
  (refine fin1 rfl (by exact rfl) rfl ?_)
  simp [crossE, h1]
 ·cases h2 : inB c.ti 0 ((ls.length : Int) - 1)
  ·have hw1 := fun h => within_c (k + 2) c.ln 0 ((ls.length : Int) - 1) h h1
   have hw2 := fun h => within_c (k + 2) c.ti 0 ((ls.length : Int) - 1) h h2
   repeat (first | apply ef_seq | (apply ef_mv; exact rfl; exact rfl) | (apply ef_bin; (iterate 3 exact rfl); (((with_reducible refine bin_sub (wrap_of ?_ ?_)) <;> omega))) | (apply ef_gy; exact rfl; (exact (rfl : false = false))) | (apply ef_pick; (iterate 3 exact rfl)) | (apply ef_len; exact rfl; exact rfl; (assumption)) | (apply ef_ldp; exact rfl; exact rfl; (exact rfl); exact rfl; (exact rfl); (exact rfl)) | (apply ef_fap; exact rfl; exact rfl) | (apply ef_notT; exact rfl; exact rfl) | (apply ef_notF; exact rfl; exact rfl) | (apply ef_box; (iterate 4 exact rfl)) | apply ef_nil | apply seqQ.normal | apply ef_ret | apply seqQ.ret | (apply ef_condt; exact rfl; (exact (rfl : true = true))) | (apply ef_call; exact rfl; ((repeat (apply XVs.cons; exact rfl)); exact XVs.nil); (with_reducible first | exact hw1 _ | exact hw2 _)))
   (refine fin1 rfl (by exact rfl) rfl ?_)
   simp [crossE, h1, h2]
  ·have hw1 := fun h => within_c (k + 2) c.ln 0 ((ls.length : Int) - 1) h h1
   have hw2 := fun h => within_c (k + 2) c.ti 0 ((ls.length : Int) - 1) h h2
   obtain ⟨p1, e1⟩ := ln_at h1
   obtain ⟨p2, e2⟩ := ln_at h2
   have HE := Lib.hid (show crossE ls pre c = firstE [unl (!tieOf ls c.ln && tieOf ls c.ti) 15, unl (rngB c) 2, unl (!(pre.any (dblB c))) 23] by simp [crossE, h1, h2])
   have HR := Lib.hid (show rngB c = (inB c.pa 0 1000000 && (inB c.pt 0 1000000 && (inB c.df (-10000) 10000 && inB c.wt 1 10))) from rfl)
   have ht1 : (ls.getD c.ln.toNat (⟨#[]⟩, false)).2 = tieOf ls c.ln := rfl
   have ht2 : (ls.getD c.ti.toNat (⟨#[]⟩, false)).2 = tieOf ls c.ti := rfl
   generalize ls.getD c.ln.toNat (⟨#[]⟩, false) = l1 at e1 ht1
   generalize ls.getD c.ti.toNat (⟨#[]⟩, false) = l2 at e2 ht2
   obtain ⟨n1, b1⟩ := l1
   obtain ⟨n2, b2⟩ := l2
   simp only at ht1 ht2
   rw [← ht1, ← ht2] at HE
   have hcf := fun h => ContainsFuncC_c (k + 1) 66 [.rp (encCr c) 0] (dblB c) pre h (v := .sl (pre.map encCr)) (fv := .fn 66 0 [.ptr 0 0 0 0]) (t := pre.any (dblB c)) hp (fun o _ h => crossingErr1_c k o c h) rfl (frz_sl (ltL_Cr 0 pre))
   have hc := hcf [⟨0, false, 6, [encCr c]⟩] (by simp [frz, MV.lt, ltL]) rfl
   generalize pre.any (dblB c) = db at hc HE
   generalize q1 : inB c.pa 0 1000000 = r1 at HR
   generalize q2 : inB c.pt 0 1000000 = r2 at HR
   generalize q3 : inB c.df (-10000) 10000 = r3 at HR
   generalize q4 : inB c.wt 1 10 = r4 at HR
   have hw3 := fun h => isPosition_c (k + 1) c.pa h q1
   have hw4 := fun h => isPosition_c (k + 1) c.pt h q2
   have hw5 := fun h => isSized_c (k + 1) c.df 10000 h (by omega) (by omega) q3
   have hw6 := fun h => within_c (k + 2) c.wt 1 10 h q4
   rw [HR.out] at HE
   clear hcf ht1 ht2 h1 h2 q1 q2 q3 q4 HR
   have key : ∀ rb, (r1 && (r2 && (r3 && r4))) = rb → RowKit.Hid (crossE ls pre c = firstE [unl (!b1 && b2) 15, unl rb 2, unl (!db) 23]) := fun rb hrb => Lib.hid (by rw [HE.out, hrb])
   clear HE
   cases r1
   ·have HE := key false rfl
    clear key
    cases b1
    all_goals repeat (first | apply ef_seq | (apply ef_mv; exact rfl; exact rfl) | (apply ef_bin; (iterate 3 exact rfl); (((with_reducible refine bin_sub (wrap_of ?_ ?_)) <;> omega))) | (apply ef_gy; exact rfl; (exact (rfl : false = false))) | (apply ef_gn; exact rfl; (exact (rfl : false = false)); exact rfl) | (apply ef_pick; (iterate 3 exact rfl)) | (apply ef_len; exact rfl; exact rfl; (assumption)) | (apply ef_ldp; exact rfl; exact rfl; (exact rfl); exact rfl; (exact rfl); (exact rfl)) | (apply ef_fap; exact rfl; exact rfl) | (apply ef_notT; exact rfl; exact rfl) | (apply ef_box; (iterate 4 exact rfl)) | (apply ef_mf; exact rfl; (repeat (apply XVs.cons; exact rfl)); exact XVs.nil) | apply ef_nil | apply seqQ.normal | apply ef_skip | (apply ef_condf; exact rfl; (exact (rfl : false = false))) | (apply ef_call; exact rfl; ((repeat (apply XVs.cons; exact rfl)); exact XVs.nil); (with_reducible first | exact hw1 _ | exact hw2 _ | exact hw3 _)))
    all_goals (apply ef_call; (· exact rfl); (· ((repeat (apply XVs.cons; exact rfl)); exact XVs.nil)); · exact hc)
    all_goals repeat (first | apply ef_seq | (apply ef_mv; exact rfl; exact rfl) | (apply ef_gy; exact rfl; (exact (rfl : true = true))) | (apply ef_gn; exact rfl; (exact (rfl : false = false)); exact rfl) | (apply ef_pick; (iterate 3 exact rfl)) | (apply ef_ldr; exact rfl; exact rfl; (exact rfl)) | (apply ef_ldp; exact rfl; exact rfl; (exact rfl); exact rfl; (exact rfl); (exact rfl)) | (apply ef_ias; (iterate 3 exact rfl); (omega); assumption; exact rfl) | (apply ef_fap; exact rfl; exact rfl) | (apply ef_far; exact rfl; exact rfl) | (apply ef_notT; exact rfl; exact rfl) | (apply ef_notF; exact rfl; exact rfl) | (apply ef_not; (iterate 3 exact rfl)) | (apply ef_bsl; exact rfl; (repeat (apply XVs.cons; exact rfl)); exact XVs.nil; exact rfl) | apply ef_nil | apply seqQ.normal | apply ef_ret | (apply ef_call; exact rfl; ((repeat (apply XVs.cons; exact rfl)); exact XVs.nil); (with_reducible exact hun _ _ _)) | (apply ef_call; exact rfl; ((repeat (apply XVs.cons; exact rfl)); exact XVs.nil); (with_reducible apply first3_c); (iterate 3 exact rfl); (exact rfl)))
    all_goals (refine fin1 rfl (by exact rfl) rfl ?_)
    all_goals (rw [HE.out]; rfl)
   ·cases r2
    ·have HE := key false rfl
     clear key
     cases b1
     all_goals repeat (first | apply ef_seq | (apply ef_mv; exact rfl; exact rfl) | (apply ef_bin; (iterate 3 exact rfl); (((with_reducible refine bin_sub (wrap_of ?_ ?_)) <;> omega))) | (apply ef_gy; exact rfl; (first | exact (rfl : true = true) | exact (rfl : false = false))) | (apply ef_gn; exact rfl; (exact (rfl : false = false)); exact rfl) | (apply ef_pick; (iterate 3 exact rfl)) | (apply ef_len; exact rfl; exact rfl; (assumption)) | (apply ef_ldp; exact rfl; exact rfl; (exact rfl); exact rfl; (exact rfl); (exact rfl)) | (apply ef_fap; exact rfl; exact rfl) | (apply ef_notT; exact rfl; exact rfl) | (apply ef_box; (iterate 4 exact rfl)) | (apply ef_mf; exact rfl; (repeat (apply XVs.cons; exact rfl)); exact XVs.nil) | apply ef_nil | apply seqQ.normal | apply ef_skip | (apply ef_condf; exact rfl; (exact (rfl : false = false))) | (apply ef_call; exact rfl; ((repeat (apply XVs.cons; exact rfl)); exact XVs.nil); (with_reducible first | exact hw1 _ | exact hw2 _ | exact hw3 _ | exact hw4 _)))
     all_goals (apply ef_call; (· exact rfl); (· ((repeat (apply XVs.cons; exact rfl)); exact XVs.nil)); · exact hc)
     all_goals repeat (first | apply ef_seq | (apply ef_mv; exact rfl; exact rfl) | (apply ef_gy; exact rfl; (exact (rfl : true = true))) | (apply ef_gn; exact rfl; (exact (rfl : false = false)); exact rfl) | (apply ef_pick; (iterate 3 exact rfl)) | (apply ef_ldr; exact rfl; exact rfl; (exact rfl)) | (apply ef_ldp; exact rfl; exact rfl; (exact rfl); exact rfl; (exact rfl); (exact rfl)) | (apply ef_ias; (iterate 3 exact rfl); (omega); assumption; exact rfl) | (apply ef_fap; exact rfl; exact rfl) | (apply ef_far; exact rfl; exact rfl) | (apply ef_notT; exact rfl; exact rfl) | (apply ef_notF; exact rfl; exact rfl) | (apply ef_not; (iterate 3 exact rfl)) | (apply ef_bsl; exact rfl; (repeat (apply XVs.cons; exact rfl)); exact XVs.nil; exact rfl) | apply ef_nil | apply seqQ.normal | apply ef_ret | (apply ef_call; exact rfl; ((repeat (apply XVs.cons; exact rfl)); exact XVs.nil); (with_reducible exact hun _ _ _)) | (apply ef_call; exact rfl; ((repeat (apply XVs.cons; exact rfl)); exact XVs.nil); (with_reducible apply first3_c); (iterate 3 exact rfl); (exact rfl)))
     all_goals (refine fin1 rfl (by exact rfl) rfl ?_)
     all_goals (rw [HE.out]; rfl)
    ·cases r3
     ·have HE := key false rfl
      clear key
      cases b1
      all_goals repeat (first | apply ef_seq | (apply ef_mv; exact rfl; exact rfl) | (apply ef_bin; (iterate 3 exact rfl); (((with_reducible refine bin_sub (wrap_of ?_ ?_)) <;> omega))) | (apply ef_gy; exact rfl; (first | exact (rfl : true = true) | exact (rfl : false = false))) | (apply ef_gn; exact rfl; (exact (rfl : false = false)); exact rfl) | (apply ef_pick; (iterate 3 exact rfl)) | (apply ef_len; exact rfl; exact rfl; (assumption)) | (apply ef_ldp; exact rfl; exact rfl; (exact rfl); exact rfl; (exact rfl); (exact rfl)) | (apply ef_fap; exact rfl; exact rfl) | (apply ef_notT; exact rfl; exact rfl) | (apply ef_box; (iterate 4 exact rfl)) | (apply ef_mf; exact rfl; (repeat (apply XVs.cons; exact rfl)); exact XVs.nil) | apply ef_nil | apply seqQ.normal | apply ef_skip | (apply ef_condf; exact rfl; (exact (rfl : false = false))) | (apply ef_call; exact rfl; ((repeat (apply XVs.cons; exact rfl)); exact XVs.nil); (with_reducible first | exact hw1 _ | exact hw2 _ | exact hw3 _ | exact hw4 _ | exact hw5 _)))
      all_goals (apply ef_call; (· exact rfl); (· ((repeat (apply XVs.cons; exact rfl)); exact XVs.nil)); · exact hc)
      all_goals repeat (first | apply ef_seq | (apply ef_mv; exact rfl; exact rfl) | (apply ef_gy; exact rfl; (exact (rfl : true = true))) | (apply ef_gn; exact rfl; (exact (rfl : false = false)); exact rfl) | (apply ef_pick; (iterate 3 exact rfl)) | (apply ef_ldr; exact rfl; exact rfl; (exact rfl)) | (apply ef_ldp; exact rfl; exact rfl; (exact rfl); exact rfl; (exact rfl); (exact rfl)) | (apply ef_ias; (iterate 3 exact rfl); (omega); assumption; exact rfl) | (apply ef_fap; exact rfl; exact rfl) | (apply ef_far; exact rfl; exact rfl) | (apply ef_notT; exact rfl; exact rfl) | (apply ef_notF; exact rfl; exact rfl) | (apply ef_not; (iterate 3 exact rfl)) | (apply ef_bsl; exact rfl; (repeat (apply XVs.cons; exact rfl)); exact XVs.nil; exact rfl) | apply ef_nil | apply seqQ.normal | apply ef_ret | (apply ef_call; exact rfl; ((repeat (apply XVs.cons; exact rfl)); exact XVs.nil); (with_reducible exact hun _ _ _)) | (apply ef_call; exact rfl; ((repeat (apply XVs.cons; exact rfl)); exact XVs.nil); (with_reducible apply first3_c); (iterate 3 exact rfl); (exact rfl)))
      all_goals (refine fin1 rfl (by exact rfl) rfl ?_)
      all_goals (rw [HE.out]; rfl)
     ·have HE := key r4 rfl
      clear key
      cases b1
      all_goals repeat (first | apply ef_seq | (apply ef_mv; exact rfl; exact rfl) | (apply ef_bin; (iterate 3 exact rfl); (((with_reducible refine bin_sub (wrap_of ?_ ?_)) <;> omega))) | (apply ef_gy; exact rfl; (first | exact (rfl : true = true) | exact (rfl : false = false))) | (apply ef_pick; (iterate 3 exact rfl)) | (apply ef_len; exact rfl; exact rfl; (assumption)) | (apply ef_ldp; exact rfl; exact rfl; (exact rfl); exact rfl; (exact rfl); (exact rfl)) | (apply ef_fap; exact rfl; exact rfl) | (apply ef_notT; exact rfl; exact rfl) | (apply ef_box; (iterate 4 exact rfl)) | (apply ef_mf; exact rfl; (repeat (apply XVs.cons; exact rfl)); exact XVs.nil) | apply ef_nil | apply seqQ.normal | apply ef_skip | (apply ef_condf; exact rfl; (exact (rfl : false = false))) | (apply ef_call; exact rfl; ((repeat (apply XVs.cons; exact rfl)); exact XVs.nil); (with_reducible first | exact hw1 _ | exact hw2 _ | exact hw3 _ | exact hw4 _ | exact hw5 _ | exact hw6 _)))
      all_goals (apply ef_call; (· exact rfl); (· ((repeat (apply XVs.cons; exact rfl)); exact XVs.nil)); · exact hc)
      all_goals repeat (first | apply ef_seq | (apply ef_mv; exact rfl; exact rfl) | (apply ef_gy; exact rfl; (exact (rfl : true = true))) | (apply ef_gn; exact rfl; (exact (rfl : false = false)); exact rfl) | (apply ef_pick; (iterate 3 exact rfl)) | (apply ef_ldr; exact rfl; exact rfl; (exact rfl)) | (apply ef_ldp; exact rfl; exact rfl; (exact rfl); exact rfl; (exact rfl); (exact rfl)) | (apply ef_ias; (iterate 3 exact rfl); (omega); assumption; exact rfl) | (apply ef_fap; exact rfl; exact rfl) | (apply ef_far; exact rfl; exact rfl) | (apply ef_notT; exact rfl; exact rfl) | (apply ef_notF; exact rfl; exact rfl) | (apply ef_not; (iterate 3 exact rfl)) | (apply ef_bsl; exact rfl; (repeat (apply XVs.cons; exact rfl)); exact XVs.nil; exact rfl) | apply ef_nil | apply seqQ.normal | apply ef_ret | (apply ef_call; exact rfl; ((repeat (apply XVs.cons; exact rfl)); exact XVs.nil); (with_reducible exact hun _ _ _)) | (apply ef_call; exact rfl; ((repeat (apply XVs.cons; exact rfl)); exact XVs.nil); (with_reducible apply first3_c); (iterate 3 exact rfl); (exact rfl)))
      all_goals (refine fin1 rfl (by exact rfl) rfl ?_)
      all_goals (rw [HE.out]; rfl)
end Go.Proofs.YtfchdbghjeophaaDoor

/- The contract of the program's check of a net. -/
namespace Go.Proofs.YtfchdbghjeophaaDoor
open Go.RowKit
set_option linter.unusedVariables false
set_option linter.unusedSimpArgs false
structure BdN (n : Nt) : Prop where
 b1 : n.ls.length ≤ 100
 b2 : n.cs.length ≤ 100
 b3 : ∀ l ∈ n.ls, l.1.size ≤ 1000
theorem take_sl {α : Type} (f : α → MV) (xs : List α) (i : Nat) : (((xs.map f).drop (0 : Int).toNat).take (((i : Nat) : Int) - 0).toNat) = (xs.take i).map f := by
 simp
theorem mf_CheckNet : MT.mf 43 = some mfW_l43 := mfW_q43
set_option maxHeartbeats 2000000 in
theorem CheckNet_z (k : Nat) (n : Nt) (hb : BdN n) : runZ MT (orA (k + 4)) (itA (k + 4)) 4000000 43 [encN n] [] = some (.tup [I64 (netF n).1, I64 (netF n).2], []) := by
 obtain ⟨b1, b2, b3⟩ := hb
 have hs1 : (MV.sl (n.ls.map encLn)).slen = some n.ls.length := by simp [MV.slen]
 have hs2 : (MV.sl (n.cs.map encCr)).slen = some n.cs.length := by simp [MV.slen]
 have hun := fun b e h => unless_c (k + 3) b e h rfl
 have hall1 : (n.ls.map encLn).all (fun e => e.cells.length == 2) = true := by
  rw [List.all_eq_true]; intro m hm; obtain ⟨l, _, rfl⟩ := List.mem_map.1 hm; rfl
 have hall2 : (n.cs.map encCr).all (fun e => e.cells.length == 6) = true := by
  rw [List.all_eq_true]; intro m hm; obtain ⟨l, _, rfl⟩ := List.mem_map.1 hm; rfl
 refine runZ_of mf_CheckNet (by simp) ?_
 simp only [argsL]
 by_cases h0 : n.ls.length = 0
 ·have HF := Lib.hid (show netF n = (0, 10) by unfold netF; rw [if_pos h0])
  repeat (first | apply ef_seq | (apply ef_mv; exact rfl; exact rfl) | (apply ef_bin; (iterate 3 exact rfl); (first | exact cmp_t rfl (by first | exact rfl | (simp only [cmpP]; omega)) | exact cmp_f rfl (by simp only [cmpP]; omega) | exact rfl)) | (apply ef_gy; exact rfl; (exact (rfl : true = true))) | (apply ef_pick; (iterate 3 exact rfl)) | (apply ef_len; exact rfl; exact rfl; (assumption)) | (apply ef_ldp; exact rfl; exact rfl; (exact rfl); exact rfl; (exact rfl); (exact rfl)) | (apply ef_fap; exact rfl; exact rfl) | (apply ef_box; (iterate 4 exact rfl)) | (apply ef_bsl; exact rfl; (repeat (apply XVs.cons; exact rfl)); exact XVs.nil; exact rfl) | apply ef_nil | apply seqQ.normal | apply ef_ret | apply seqQ.ret | (apply ef_condt; exact rfl; (exact (rfl : true = true))) | (apply ef_call; exact rfl; ((repeat (apply XVs.cons; exact rfl)); exact XVs.nil); (with_reducible exact hun _ _ _)) | (apply ef_call; exact rfl; ((repeat (apply XVs.cons; exact rfl)); exact XVs.nil); (with_reducible apply first2_c); (iterate 3 exact rfl); (exact rfl)))
  (apply fin2; (· exact rfl); (· exact rfl); (· exact rfl); (· rw [HF.out]; first | rfl | (simp [firstE, unl])))
 ·by_cases h1 : 8 < n.ls.length ∨ 16 < n.cs.length
  ·have HF := Lib.hid (show netF n = (0, 8) by unfold netF; rw [if_neg h0, if_pos h1])
   by_cases h2 : n.ls.length ≤ 8
   ·repeat (first | apply ef_seq | (apply ef_mv; exact rfl; exact rfl) | (apply ef_bin; (iterate 3 exact rfl); (first | exact cmp_t rfl (by first | exact rfl | (simp only [cmpP]; omega)) | exact cmp_f rfl (by simp only [cmpP]; omega) | exact rfl)) | (apply ef_gy; exact rfl; (exact (rfl : true = true))) | (apply ef_pick; (iterate 3 exact rfl)) | (apply ef_len; exact rfl; exact rfl; (assumption)) | (apply ef_ldp; exact rfl; exact rfl; (exact rfl); exact rfl; (exact rfl); (exact rfl)) | (apply ef_fap; exact rfl; exact rfl) | (apply ef_box; (iterate 4 exact rfl)) | (apply ef_bsl; exact rfl; (repeat (apply XVs.cons; exact rfl)); exact XVs.nil; exact rfl) | apply ef_nil | apply seqQ.normal | apply ef_ret | apply seqQ.ret | (apply ef_condt; exact rfl; (exact (rfl : true = true))) | (apply ef_call; exact rfl; ((repeat (apply XVs.cons; exact rfl)); exact XVs.nil); (with_reducible exact hun _ _ _)) | (apply ef_call; exact rfl; ((repeat (apply XVs.cons; exact rfl)); exact XVs.nil); (with_reducible apply first2_c); (iterate 3 exact rfl); (exact rfl)))
    (apply fin2; (· exact rfl); (· exact rfl); (· exact rfl); (· rw [HF.out]; first | rfl | (simp [firstE, unl])))
   ·repeat (first | apply ef_seq | (apply ef_mv; exact rfl; exact rfl) | (apply ef_bin; (iterate 3 exact rfl); (first | exact cmp_t rfl (by first | exact rfl | (simp only [cmpP]; omega)) | exact cmp_f rfl (by simp only [cmpP]; omega) | exact rfl)) | (apply ef_gn; exact rfl; (exact (rfl : false = false)); exact rfl) | (apply ef_pick; (iterate 3 exact rfl)) | (apply ef_len; exact rfl; exact rfl; (assumption)) | (apply ef_ldp; exact rfl; exact rfl; (exact rfl); exact rfl; (exact rfl); (exact rfl)) | (apply ef_fap; exact rfl; exact rfl) | (apply ef_box; (iterate 4 exact rfl)) | (apply ef_bsl; exact rfl; (repeat (apply XVs.cons; exact rfl)); exact XVs.nil; exact rfl) | apply ef_nil | apply seqQ.normal | apply ef_ret | apply seqQ.ret | (apply ef_condt; exact rfl; (exact (rfl : true = true))) | (apply ef_call; exact rfl; ((repeat (apply XVs.cons; exact rfl)); exact XVs.nil); (with_reducible exact hun _ _ _)) | (apply ef_call; exact rfl; ((repeat (apply XVs.cons; exact rfl)); exact XVs.nil); (with_reducible apply first2_c); (iterate 3 exact rfl); (exact rfl)))
    (apply fin2; (· exact rfl); (· exact rfl); (· exact rfl); (· rw [HF.out]; first | rfl | (simp [firstE, unl])))
  ·have HF := Lib.hid (show netF n = if (scanE lineE [] n.ls).2 = 0 then scanE (crossE n.ls) [] n.cs else scanE lineE [] n.ls by unfold netF; rw [if_neg h0, if_neg h1])
   repeat (first | apply ef_seq | (apply ef_mv; exact rfl; exact rfl) | (apply ef_bin; (iterate 3 exact rfl); (first | exact cmp_t rfl (by first | exact rfl | (simp only [cmpP]; omega)) | exact rfl)) | (apply ef_gy; exact rfl; (exact (rfl : true = true))) | (apply ef_pick; (iterate 3 exact rfl)) | (apply ef_len; exact rfl; exact rfl; (assumption)) | (apply ef_ldp; exact rfl; exact rfl; (exact rfl); exact rfl; (exact rfl); (exact rfl)) | (apply ef_fap; exact rfl; exact rfl) | (apply ef_box; (iterate 4 exact rfl)) | (apply ef_bsl; exact rfl; (repeat (apply XVs.cons; exact rfl)); exact XVs.nil; exact rfl) | apply ef_nil | apply seqQ.normal | apply ef_block | apply ef_skip | (apply ef_condf; exact rfl; (exact (rfl : false = false))) | (apply ef_call; exact rfl; ((repeat (apply XVs.cons; exact rfl)); exact XVs.nil); (with_reducible exact hun _ _ _)) | (apply ef_call; exact rfl; ((repeat (apply XVs.cons; exact rfl)); exact XVs.nil); (with_reducible apply first2_c); (iterate 3 exact rfl); (exact rfl)))
   refine ef_loopf (α := Nat) (fun i => i ≤ n.ls.length ∧ scanE lineE [] n.ls = scanE lineE (n.ls.take i) (n.ls.drop i)) (fun i => [(38, I64 (i : Int))]) [(37, I64 (n.ls.length : Int)), (36, .sl (n.ls.map encLn)), (1, .ptr 0 0 0 0)] (fun _ => [⟨0, false, 2, [encN n]⟩, ⟨0, false, 1, [I64 0, I64 0]⟩]) (fun i => n.ls.length - i) 0 [38] (fun _ => rfl) (by ((repeat (refine Hold.cons (by exact rfl) ?_)); exact Hold.nil)) (by ((repeat (refine Hold.cons (by exact rfl) ?_)); exact Hold.nil)) rfl rfl ⟨by omega, by simp⟩ (by simp; omega) ?_
   rintro i ⟨hi, hz⟩
   try simp only at hi hz ⊢
   by_cases hlt : i < n.ls.length
   ·have e1 := at_map encLn n.ls i hlt
    have hsz := b3 n.ls[i] (List.getElem_mem hlt)
    have HS0 := fun h0 => Lib.hid (scanE_step (f := lineE) hlt h0)
    have HS1 := fun h0 => Lib.hid (scanE_bad (f := lineE) hlt h0)
    have HZ := Lib.hid hz
    clear hz
    generalize n.ls[i] = l at e1 hsz HS0 HS1
    have hnm := fun h => isName_c (k + 2) l.1 hsz h
    obtain ⟨kn, hkn⟩ : ∃ b, (n.ls.take i).any (fun o => o.1 == l.1) = b := ⟨_, rfl⟩
    have hcf := ContainsFuncL_c (k + 2) 56 [.rp (encLn l) 0] (fun o => o.1 == l.1) (n.ls.take i) [⟨0, false, 2, [encN n]⟩, ⟨0, false, 1, [I64 0, I64 0]⟩, ⟨0, false, 2, [encLn l]⟩] (v := .sl ((n.ls.take i).map encLn)) (fv := .fn 56 0 [.ptr 2 0 0 0]) (by simp; omega) (fun o _ h => CheckNet1_c (k + 1) o l h) rfl (frz_sl (ltL_Ln 0 _)) (by simp [frz, MV.lt, ltL]) hkn
    obtain ⟨e, he⟩ : ∃ e, firstE [unl (nmB l.1) 4, unl (!kn) 5] = e := ⟨_, rfl⟩
    have hle : lineE (n.ls.take i) l = e := by unfold lineE; rw [hkn]; exact he
    rw [hle] at HS0 HS1
    clear hle hkn
    by_cases he0 : e = 0
    ·have HS := HS0 he0
     clear HS0 HS1
     repeat (first | apply ef_seq | (apply ef_mv; exact rfl; exact rfl) | (apply ef_bin; (iterate 3 exact rfl); (exact cmp_t rfl (by first | exact rfl | (simp only [cmpP]; omega)))) | (apply ef_ldr; exact rfl; exact rfl; (exact rd_2 rfl rfl)) | (apply ef_ldp; exact rfl; exact rfl; (exact rfl); exact rfl; (exact rfl); (exact rfl)) | (apply ef_ias; (iterate 3 exact rfl); (omega); assumption; exact rfl) | (apply ef_fap; exact rfl; exact rfl) | (apply ef_new; exact rfl) | (apply ef_st; (iterate 6 exact rfl); (exact rfl); exact rfl) | apply ef_nil | apply seqQ.normal | apply ef_block | apply ef_skip | (apply ef_condt; exact rfl; (exact (rfl : true = true))))
     (apply ef_slcs; (· exact rfl); (· exact rfl); (· exact rfl); (· exact rfl); (· (simp; omega)); (· exact hall1))
     rw [take_sl]
     repeat (first | (apply ef_mf; exact rfl; (repeat (apply XVs.cons; exact rfl)); exact XVs.nil))
     (apply ef_call; (· exact rfl); (· ((repeat (apply XVs.cons; exact rfl)); exact XVs.nil)); · exact hcf)
     repeat (first | apply ef_seq | (apply ef_mv; exact rfl; exact rfl) | (apply ef_bin; (iterate 3 exact rfl); (first | exact cmp_f rfl (by simp only [cmpP]; omega) | ((with_reducible refine bin_add (wrap_of ?_ ?_)) <;> omega))) | (apply ef_ldp; exact rfl; exact rfl; (exact rfl); exact rfl; (exact rfl); (exact rfl)) | (apply ef_fap; exact rfl; exact rfl) | (apply ef_not; (iterate 3 exact rfl)) | (apply ef_bsl; exact rfl; (repeat (apply XVs.cons; exact rfl)); exact XVs.nil; exact rfl) | apply ef_nil | apply seqQ.normal | apply blockQ.normal | apply ef_skip | (apply ef_condf; exact rfl; (exact (rfl : false = false))) | (apply ef_call; exact rfl; ((repeat (apply XVs.cons; exact rfl)); exact XVs.nil); (with_reducible first | exact hnm _ | exact hun _ _ _)) | (apply ef_call; exact rfl; ((repeat (apply XVs.cons; exact rfl)); exact XVs.nil); (with_reducible apply first2_c); (iterate 3 exact rfl); (assumption)))
     (refine loopQ.normal _ _ ⟨i + 1, ⟨hlt, by rw [HZ.out, HS.out]⟩, (by first | (simp only; omega) | omega), ⟨by ((repeat (refine Hold.cons (by exact rfl) ?_)); exact Hold.nil), by ((repeat (refine Hold.cons (by exact rfl) ?_)); exact Hold.nil)⟩, .inr ⟨by ((repeat (refine hdl_cons rfl (by first | rfl | (simp [MV.lt, ltL, ltL_Ln, ltL_Cr])) ?_)); exact hdl_nil), by first | rfl | (simp [hltL, ltL, MV.lt, ltL, ltL_Ln, ltL_Cr])⟩, by first | exact rfl | (simp only [List.map_append, List.map_set]; exact rfl)⟩)
    ·have HS := HS1 he0
     clear HS0 HS1
     repeat (first | apply ef_seq | (apply ef_mv; exact rfl; exact rfl) | (apply ef_bin; (iterate 3 exact rfl); (exact cmp_t rfl (by first | exact rfl | (simp only [cmpP]; omega)))) | (apply ef_ldr; exact rfl; exact rfl; (exact rd_2 rfl rfl)) | (apply ef_ldp; exact rfl; exact rfl; (exact rfl); exact rfl; (exact rfl); (exact rfl)) | (apply ef_ias; (iterate 3 exact rfl); (omega); assumption; exact rfl) | (apply ef_fap; exact rfl; exact rfl) | (apply ef_new; exact rfl) | (apply ef_st; (iterate 6 exact rfl); (exact rfl); exact rfl) | apply ef_nil | apply seqQ.normal | apply ef_block | apply ef_skip | (apply ef_condt; exact rfl; (exact (rfl : true = true))))
     (apply ef_slcs; (· exact rfl); (· exact rfl); (· exact rfl); (· exact rfl); (· (simp; omega)); (· exact hall1))
     rw [take_sl]
     repeat (first | (apply ef_mf; exact rfl; (repeat (apply XVs.cons; exact rfl)); exact XVs.nil))
     (apply ef_call; (· exact rfl); (· ((repeat (apply XVs.cons; exact rfl)); exact XVs.nil)); · exact hcf)
     repeat (first | apply ef_seq | (apply ef_mv; exact rfl; exact rfl) | (apply ef_bin; (iterate 3 exact rfl); (exact cmp_t rfl (by first | exact rfl | (simp only [cmpP]; omega)))) | (apply ef_ldp; exact rfl; exact rfl; (exact rfl); exact rfl; (exact rfl); (exact rfl)) | (apply ef_fap; exact rfl; exact rfl) | (apply ef_not; (iterate 3 exact rfl)) | (apply ef_bsl; exact rfl; (repeat (apply XVs.cons; exact rfl)); exact XVs.nil; exact rfl) | apply ef_nil | apply seqQ.normal | apply loopQ.ret | apply ef_ret | apply seqQ.ret | apply blockQ.ret | (apply ef_condt; exact rfl; (exact (rfl : true = true))) | (apply ef_call; exact rfl; ((repeat (apply XVs.cons; exact rfl)); exact XVs.nil); (with_reducible first | exact hnm _ | exact hun _ _ _)) | (apply ef_call; exact rfl; ((repeat (apply XVs.cons; exact rfl)); exact XVs.nil); (with_reducible apply first2_c); (iterate 3 exact rfl); (assumption)))
     (apply fin2; (· exact rfl); (· exact rfl); (· exact rfl); (· rw [HF.out, HZ.out, HS.out, if_neg he0]))
   ·have hsc : scanE lineE [] n.ls = (0, 0) := by rw [hz, List.drop_eq_nil_of_le (by omega), scanE_nil]
    have HF := Lib.hid (show netF n = scanE (crossE n.ls) [] n.cs by rw [HF.out, hsc, if_pos rfl])
    clear hz hsc
    repeat (first | apply ef_seq | (apply ef_mv; exact rfl; exact rfl) | (apply ef_bin; (iterate 3 exact rfl); (exact cmp_f rfl (by simp only [cmpP]; omega))) | (apply ef_len; exact rfl; exact rfl; (assumption)) | (apply ef_ldp; exact rfl; exact rfl; (exact rfl); exact rfl; (exact rfl); (exact rfl)) | (apply ef_fap; exact rfl; exact rfl) | apply ef_nil | apply seqQ.normal | apply loopQ.exit | apply ef_exit | apply seqQ.exit | apply blockQ.here | apply ef_block | (apply ef_condf; exact rfl; (exact (rfl : false = false))))
    refine ef_loopf (α := Nat) (fun i => i ≤ n.cs.length ∧ scanE (crossE n.ls) [] n.cs = scanE (crossE n.ls) (n.cs.take i) (n.cs.drop i)) (fun i => [(66, I64 (i : Int))]) [(65, I64 (n.cs.length : Int)), (64, .sl (n.cs.map encCr)), (1, .ptr 0 0 0 0)] (fun _ => [⟨0, false, 2, [encN n]⟩, ⟨0, false, 1, [I64 0, I64 0]⟩]) (fun i => n.cs.length - i) 0 [66] (fun _ => rfl) (by ((repeat (refine Hold.cons (by exact rfl) ?_)); exact Hold.nil)) (by ((repeat (refine Hold.cons (by exact rfl) ?_)); exact Hold.nil)) rfl rfl ⟨by omega, by simp⟩ (by simp; omega) ?_
    rintro i ⟨hi, hz⟩
    try simp only at hi hz ⊢
    by_cases hlt : i < n.cs.length
    ·have e1 := at_map encCr n.cs i hlt
     have HS0 := fun h0 => Lib.hid (scanE_step (f := crossE n.ls) hlt h0)
     have HS1 := fun h0 => Lib.hid (scanE_bad (f := crossE n.ls) hlt h0)
     have HZ := Lib.hid hz
     clear hz
     generalize n.cs[i] = c at e1 HS0 HS1
     have hce := fun h => crossingErr_c k n.ls (n.cs.take i) c h (by omega) (by simp; omega)
     generalize crossE n.ls (n.cs.take i) c = e at hce HS0 HS1
     by_cases he0 : e = 0
     ·have HS := HS0 he0
      clear HS0 HS1
      repeat (first | apply ef_seq | (apply ef_mv; exact rfl; exact rfl) | (apply ef_bin; (iterate 3 exact rfl); (exact cmp_t rfl (by first | exact rfl | (simp only [cmpP]; omega)))) | (apply ef_ldr; exact rfl; exact rfl; (exact rd_6 rfl rfl rfl rfl rfl rfl)) | (apply ef_ldp; exact rfl; exact rfl; (exact rfl); exact rfl; (exact rfl); (exact rfl)) | (apply ef_ias; (iterate 3 exact rfl); (omega); assumption; exact rfl) | (apply ef_fap; exact rfl; exact rfl) | (apply ef_new; exact rfl) | (apply ef_st; (iterate 6 exact rfl); (exact rfl); exact rfl) | apply ef_nil | apply seqQ.normal | apply ef_block | apply ef_skip | (apply ef_condt; exact rfl; (exact (rfl : true = true))))
      (apply ef_slcs; (· exact rfl); (· exact rfl); (· exact rfl); (· exact rfl); (· (simp; omega)); (· exact hall2))
      rw [take_sl]
      repeat (first | apply ef_seq | (apply ef_mv; exact rfl; exact rfl) | (apply ef_bin; (iterate 3 exact rfl); (first | exact cmp_f rfl (by simp only [cmpP]; omega) | ((with_reducible refine bin_add (wrap_of ?_ ?_)) <;> omega))) | (apply ef_ldp; exact rfl; exact rfl; (exact rfl); exact rfl; (exact rfl); (exact rd_6 rfl rfl rfl rfl rfl rfl)) | apply ef_nil | apply seqQ.normal | apply blockQ.normal | apply ef_skip | (apply ef_condf; exact rfl; (exact (rfl : false = false))) | (apply ef_call; exact rfl; ((repeat (apply XVs.cons; exact rfl)); exact XVs.nil); (with_reducible exact hce _)))
      (refine loopQ.normal _ _ ⟨i + 1, ⟨hlt, by rw [HZ.out, HS.out]⟩, (by first | (simp only; omega) | omega), ⟨by ((repeat (refine Hold.cons (by exact rfl) ?_)); exact Hold.nil), by ((repeat (refine Hold.cons (by exact rfl) ?_)); exact Hold.nil)⟩, .inr ⟨by ((repeat (refine hdl_cons rfl (by first | rfl | (simp [MV.lt, ltL, ltL_Ln, ltL_Cr])) ?_)); exact hdl_nil), by first | rfl | (simp [hltL, ltL, MV.lt, ltL, ltL_Ln, ltL_Cr])⟩, by first | exact rfl | (simp only [List.map_append, List.map_set]; exact rfl)⟩)
     ·have HS := HS1 he0
      clear HS0 HS1
      repeat (first | apply ef_seq | (apply ef_mv; exact rfl; exact rfl) | (apply ef_bin; (iterate 3 exact rfl); (exact cmp_t rfl (by first | exact rfl | (simp only [cmpP]; omega)))) | (apply ef_ldr; exact rfl; exact rfl; (exact rd_6 rfl rfl rfl rfl rfl rfl)) | (apply ef_ldp; exact rfl; exact rfl; (exact rfl); exact rfl; (exact rfl); (exact rfl)) | (apply ef_ias; (iterate 3 exact rfl); (omega); assumption; exact rfl) | (apply ef_fap; exact rfl; exact rfl) | (apply ef_new; exact rfl) | (apply ef_st; (iterate 6 exact rfl); (exact rfl); exact rfl) | apply ef_nil | apply seqQ.normal | apply ef_block | apply ef_skip | (apply ef_condt; exact rfl; (exact (rfl : true = true))))
      (apply ef_slcs; (· exact rfl); (· exact rfl); (· exact rfl); (· exact rfl); (· (simp; omega)); (· exact hall2))
      rw [take_sl]
      repeat (first | apply ef_seq | (apply ef_mv; exact rfl; exact rfl) | (apply ef_bin; (iterate 3 exact rfl); (exact cmp_t rfl (by first | exact rfl | (simp only [cmpP]; omega)))) | (apply ef_ldp; exact rfl; exact rfl; (exact rfl); exact rfl; (exact rfl); (exact rd_6 rfl rfl rfl rfl rfl rfl)) | apply ef_nil | apply seqQ.normal | apply loopQ.ret | apply ef_ret | apply seqQ.ret | apply blockQ.ret | (apply ef_condt; exact rfl; (exact (rfl : true = true))) | (apply ef_call; exact rfl; ((repeat (apply XVs.cons; exact rfl)); exact XVs.nil); (with_reducible exact hce _)))
      (apply fin2; (· exact rfl); (· exact rfl); (· exact rfl); (· rw [HF.out, HZ.out, HS.out]))
    ·have HF := Lib.hid (show netF n = (0, 0) by rw [HF.out, hz, List.drop_eq_nil_of_le (by omega), scanE_nil])
     repeat (first | apply ef_seq | (apply ef_mv; exact rfl; exact rfl) | (apply ef_bin; (iterate 3 exact rfl); (exact cmp_f rfl (by simp only [cmpP]; omega))) | apply ef_nil | apply seqQ.normal | apply loopQ.exit | apply ef_ret | apply ef_exit | apply seqQ.exit | apply blockQ.here | (apply ef_condf; exact rfl; (exact (rfl : false = false))))
     (apply fin2; (· exact rfl); (· exact rfl); (· exact rfl); (· rw [HF.out]))
theorem CheckNet_c (k : Nat) (n : Nt) (hb : BdN n) (h : MHeap) : orA (k + 5) 43 [encN n] h = some (.tup [I64 (netF n).1, I64 (netF n).2], h) :=
 callTT (args' := [encN n]) (frzL_lt (by simp [ltL, MV.lt, ltL_Ln, ltL_Cr])) rfl (CheckNet_z k n hb)
end Go.Proofs.YtfchdbghjeophaaDoor

/- Contracts: the reference's check of a net. -/
namespace Go.Proofs.YtfchdbghjeophaaDoor
open Go.RowKit
set_option linter.unusedVariables false
abbrev encS (s : ByteArray) : MV := .lit (.string s)
theorem ltL_S (n : Nat) (ls : List ByteArray) : ltL n (ls.map encS) = true := ltL_lits (fun _ => rfl) ls
theorem mf_bIsName : MT.mf 50 = some ⟨55, [(.tmp 2)], (.seq (.reg [gO 2 (.mv cF)]) (.seq (.seq (.reg [gO 6 (.mv (.s 0)), gO 7 (.sln (.s 6)), gO 8 (.bin .lss (.s 7) (cI 1)), gO 9 (.mv (.s 8)), ⟨some (9, false), some 10, .mv (.s 0)⟩, ⟨some (9, false), some 11, .sln (.s 10)⟩, ⟨some (9, false), some 12, .bin .gtr (.s 11) (cI 12)⟩, gO 13 (.pick (.s 9) cT (.s 12))]) (.cond (.s 13) (.seq (.reg [gO 2 (.mv cF)]) .ret) .skip)) (.seq (.seq (.reg [gO 3 (.mv (cI 0))]) (.block 0 (.loop [3, 0] (.seq (.seq (.reg [gO 14 (.mv (.s 3)), gO 15 (.mv (.s 0)), gO 16 (.sln (.s 15)), gO 17 (.bin .lss (.s 14) (.s 16))]) (.cond (.s 17) .skip (.exit 0))) (.seq (.block 1 (.seq (.reg [gO 20 (.mv (.s 0)), gO 21 (.mv (.s 3)), gO 22 (.sx (.s 20) (.s 21)), gO 4 (.mv (.s 22))]) (.seq (.reg [gO 23 (.mv (.s 4)), gO 24 (.bin .geq (.s 23) (.c (.lit (.int .u8 97)))), gO 25 (.mv (.s 24)), ⟨some (25, true), some 26, .mv (.s 4)⟩, ⟨some (25, true), some 27, .bin .leq (.s 26) (.c (.lit (.int .u8 122)))⟩, gO 28 (.pick (.s 25) (.s 27) cF), gO 29 (.mv (.s 28)), ⟨some (29, false), some 30, .mv (.s 4)⟩, ⟨some (29, false), some 31, .bin .geq (.s 30) (.c (.lit (.int .u8 65)))⟩, ⟨some (29, false), some 32, .mv (.s 31)⟩, ⟨some (32, true), some 33, .mv (.s 4)⟩, ⟨some (32, true), some 34, .bin .leq (.s 33) (.c (.lit (.int .u8 90)))⟩, ⟨some (29, false), some 35, .pick (.s 32) (.s 34) cF⟩, gO 36 (.pick (.s 29) cT (.s 35)), gO 5 (.mv (.s 36))]) (.seq (.reg [gO 37 (.mv (.s 5)), gO 38 (.un .not (.s 37)), gO 39 (.mv (.s 38)), ⟨some (39, true), some 40, .mv (.s 3)⟩, ⟨some (39, true), some 41, .bin .eql (.s 40) (cI 0)⟩, ⟨some (39, true), some 42, .mv (.s 41)⟩, ⟨some (42, false), some 43, .mv (.s 4)⟩, ⟨some (42, false), some 44, .bin .neq (.s 43) (.c (.lit (.int .u8 45)))⟩, ⟨some (42, false), some 45, .mv (.s 44)⟩, ⟨some (45, true), some 46, .mv (.s 4)⟩, ⟨some (45, true), some 47, .bin .lss (.s 46) (.c (.lit (.int .u8 48)))⟩, ⟨some (45, true), some 48, .mv (.s 47)⟩, ⟨some (48, false), some 49, .mv (.s 4)⟩, ⟨some (48, false), some 50, .bin .gtr (.s 49) (.c (.lit (.int .u8 57)))⟩, ⟨some (45, true), some 51, .pick (.s 48) cT (.s 50)⟩, ⟨some (42, false), some 52, .pick (.s 45) (.s 51) cF⟩, ⟨some (39, true), some 53, .pick (.s 42) cT (.s 52)⟩, gO 54 (.pick (.s 39) (.s 53) cF)]) (.cond (.s 54) (.seq (.reg [gO 2 (.mv cF)]) .ret) .skip))))) (.reg [gO 18 (.mv (.s 3)), gO 19 (.bin .add (.s 18) (cI 1)), gO 3 (.mv (.s 19))])))))) (.seq (.reg [gO 2 (.mv cT)]) .ret))))⟩ := by kernel_rfl
set_option maxHeartbeats 1000000 in
theorem bIsName_z (k : Nat) (s : ByteArray) (hs : s.size ≤ 1000) : runZ MT (orA k) (itA k) 4000000 50 [.lit (.string s)] [] = some (Bo (nmB s), []) := by
 obtain ⟨bs, hbs⟩ : ∃ bs, s.data.toList = bs := ⟨_, rfl⟩
 have hbl : bs.length = s.size := by rw [← hbs, Array.length_toList]; rfl
 have HNM := Lib.hid (show nmB s = (allNb 0 bs && inB s.size 1 12) by rw [← hbs]; rfl)
 refine runZ_of mf_bIsName (by simp) ?_
 simp only [argsL]
 by_cases h1 : s.size < 1
 ·repeat (first | apply ef_seq | (apply ef_mv; exact rfl; exact rfl) | (apply ef_bin; (iterate 3 exact rfl); (exact cmp_t rfl (by first | exact rfl | (simp only [cmpP]; omega)))) | (apply ef_gn; exact rfl; (exact (rfl : true = true)); exact rfl) | (apply ef_pick; (iterate 3 exact rfl)) | (apply ef_sln; exact rfl; exact rfl) | apply ef_nil | apply seqQ.normal | apply ef_ret | apply seqQ.ret | (apply ef_condt; exact rfl; (exact (rfl : true = true))))
  (refine fin1 rfl (by exact rfl) rfl ?_)
  rw [HNM.out, inB_not.2 (by omega)]; simp
 ·by_cases h2 : s.size > 12
  ·repeat (first | apply ef_seq | (apply ef_mv; exact rfl; exact rfl) | (apply ef_bin; (iterate 3 exact rfl); (first | exact cmp_t rfl (by first | exact rfl | (simp only [cmpP]; omega)) | exact cmp_f rfl (by simp only [cmpP]; omega))) | (apply ef_gy; exact rfl; (exact (rfl : false = false))) | (apply ef_pick; (iterate 3 exact rfl)) | (apply ef_sln; exact rfl; exact rfl) | apply ef_nil | apply seqQ.normal | apply ef_ret | apply seqQ.ret | (apply ef_condt; exact rfl; (exact (rfl : true = true))))
   (refine fin1 rfl (by exact rfl) rfl ?_)
   rw [HNM.out, inB_not.2 (by omega)]; simp
  ·repeat (first | apply ef_seq | (apply ef_mv; exact rfl; exact rfl) | (apply ef_bin; (iterate 3 exact rfl); (exact cmp_f rfl (by simp only [cmpP]; omega))) | (apply ef_gy; exact rfl; (exact (rfl : false = false))) | (apply ef_pick; (iterate 3 exact rfl)) | (apply ef_sln; exact rfl; exact rfl) | apply ef_nil | apply seqQ.normal | apply ef_block | apply ef_skip | (apply ef_condf; exact rfl; (exact (rfl : false = false))))
   refine ef_loopf (α := Nat) (fun i => i ≤ bs.length ∧ allNb 0 bs = allNb i (bs.drop i)) (fun i => [(3, I64 (i : Int))]) [(0, .lit (.string s))] (fun _ => []) (fun i => bs.length - i) 0 [3] (fun _ => rfl) (by ((repeat (refine Hold.cons (by exact rfl) ?_)); exact Hold.nil)) (by ((repeat (refine Hold.cons (by exact rfl) ?_)); exact Hold.nil)) rfl rfl ⟨by omega, rfl⟩ (by simp; omega) ?_
   rintro i ⟨hi, hz⟩
   try simp only at hi hz ⊢
   by_cases hlt : i < bs.length
   ·have e1 : s.data.toList[((i : Nat) : Int).toNat]? = some bs[i] := by rw [hbs, Int.toNat_natCast, List.getElem?_eq_getElem hlt]
    have HS := Lib.hid (allNb_step hlt)
    have HZ := Lib.hid hz
    clear hz
    generalize bs[i] = c at e1 HS
    have hc := c.toNat_lt
    have HB := Lib.hid (show nbB i c = (letB c || (decide (i ≠ 0) && (decide (c.toNat = 45) || (decide (48 ≤ c.toNat) && decide (c.toNat ≤ 57))))) from rfl)
    have hfin : nbB i c = false → RowKit.Hid (nmB s = false) := fun hn => Lib.hid (by rw [HNM.out, HZ.out, HS.out, hn]; simp)
    have hgo : nbB i c = true → RowKit.Hid (allNb 0 bs = allNb (i + 1) (bs.drop (i + 1))) := fun hn => Lib.hid (by rw [HZ.out, HS.out, hn]; simp)
    by_cases a1 : 97 ≤ c.toNat
    ·by_cases a2 : c.toNat ≤ 122
     ·have HG := hgo (by rw [HB.out]; simp [letB, a1, a2])
      clear hfin hgo
      repeat (first | apply ef_seq | (apply ef_mv; exact rfl; exact rfl) | (apply ef_bin; (iterate 3 exact rfl); (first | exact cmp_t rfl (by first | exact rfl | (simp only [cmpP]; omega)) | ((with_reducible refine bin_add (wrap_of ?_ ?_)) <;> omega))) | (apply ef_gy; exact rfl; (exact (rfl : true = true))) | (apply ef_gn; exact rfl; (first | exact (rfl : true = true) | exact (rfl : false = false)); exact rfl) | (apply ef_gu; exact rfl; exact rfl) | (apply ef_pick; (iterate 3 exact rfl)) | (apply ef_notT; exact rfl; exact rfl) | (apply ef_sx; (iterate 3 exact rfl); omega; (assumption)) | (apply ef_sln; exact rfl; exact rfl) | apply ef_nil | apply seqQ.normal | apply blockQ.normal | apply ef_block | apply ef_skip | (apply ef_condt; exact rfl; (exact (rfl : true = true))) | (apply ef_condf; exact rfl; (exact (rfl : false = false))))
      (refine loopQ.normal _ _ ⟨i + 1, ⟨hlt, HG.out⟩, (by first | (simp only; omega) | omega), ⟨by ((repeat (refine Hold.cons (by exact rfl) ?_)); exact Hold.nil), by ((repeat (refine Hold.cons (by exact rfl) ?_)); exact Hold.nil)⟩, .inl (Nat.le_refl _), (by first | exact List.take_length | exact rfl | exact takeF rfl rfl)⟩)
     ·have HG := hfin (by rw [HB.out]; simp [letB]; omega)
      clear hfin hgo
      by_cases h0 : i = 0
      ·repeat (first | apply ef_seq | (apply ef_mv; exact rfl; exact rfl) | (apply ef_bin; (iterate 3 exact rfl); (first | exact cmp_t rfl (by first | exact rfl | (simp only [cmpP]; omega)) | exact cmp_f rfl (by simp only [cmpP]; omega))) | (apply ef_gy; exact rfl; (first | exact (rfl : true = true) | exact (rfl : false = false))) | (apply ef_gn; exact rfl; (exact (rfl : true = true)); exact rfl) | (apply ef_gu; exact rfl; exact rfl) | (apply ef_pick; (iterate 3 exact rfl)) | (apply ef_notF; exact rfl; exact rfl) | (apply ef_sx; (iterate 3 exact rfl); omega; (assumption)) | (apply ef_sln; exact rfl; exact rfl) | apply ef_nil | apply seqQ.normal | apply loopQ.ret | apply ef_ret | apply seqQ.ret | apply blockQ.ret | apply ef_block | apply ef_skip | (apply ef_condt; exact rfl; (exact (rfl : true = true))))
       (refine fin1 rfl (by exact rfl) rfl ?_)
       rw [HG.out]
      ·repeat (first | apply ef_seq | (apply ef_mv; exact rfl; exact rfl) | (apply ef_bin; (iterate 3 exact rfl); (first | exact cmp_t rfl (by first | exact rfl | (simp only [cmpP]; omega)) | exact cmp_f rfl (by simp only [cmpP]; omega))) | (apply ef_gy; exact rfl; (first | exact (rfl : true = true) | exact (rfl : false = false))) | (apply ef_pick; (iterate 3 exact rfl)) | (apply ef_notF; exact rfl; exact rfl) | (apply ef_sx; (iterate 3 exact rfl); omega; (assumption)) | (apply ef_sln; exact rfl; exact rfl) | apply ef_nil | apply seqQ.normal | apply loopQ.ret | apply ef_ret | apply seqQ.ret | apply blockQ.ret | apply ef_block | apply ef_skip | (apply ef_condt; exact rfl; (exact (rfl : true = true))))
       (refine fin1 rfl (by exact rfl) rfl ?_)
       rw [HG.out]
    ·by_cases a3 : 65 ≤ c.toNat
     ·by_cases a4 : c.toNat ≤ 90
      ·have HG := hgo (by rw [HB.out]; simp [letB]; omega)
       clear hfin hgo
       repeat (first | apply ef_seq | (apply ef_mv; exact rfl; exact rfl) | (apply ef_bin; (iterate 3 exact rfl); (first | exact cmp_t rfl (by first | exact rfl | (simp only [cmpP]; omega)) | exact cmp_f rfl (by simp only [cmpP]; omega) | ((with_reducible refine bin_add (wrap_of ?_ ?_)) <;> omega))) | (apply ef_gy; exact rfl; (first | exact (rfl : true = true) | exact (rfl : false = false))) | (apply ef_gn; exact rfl; (exact (rfl : false = false)); exact rfl) | (apply ef_gu; exact rfl; exact rfl) | (apply ef_pick; (iterate 3 exact rfl)) | (apply ef_notT; exact rfl; exact rfl) | (apply ef_sx; (iterate 3 exact rfl); omega; (assumption)) | (apply ef_sln; exact rfl; exact rfl) | apply ef_nil | apply seqQ.normal | apply blockQ.normal | apply ef_block | apply ef_skip | (apply ef_condt; exact rfl; (exact (rfl : true = true))) | (apply ef_condf; exact rfl; (exact (rfl : false = false))))
       (refine loopQ.normal _ _ ⟨i + 1, ⟨hlt, HG.out⟩, (by first | (simp only; omega) | omega), ⟨by ((repeat (refine Hold.cons (by exact rfl) ?_)); exact Hold.nil), by ((repeat (refine Hold.cons (by exact rfl) ?_)); exact Hold.nil)⟩, .inl (Nat.le_refl _), (by first | exact List.take_length | exact rfl | exact takeF rfl rfl)⟩)
      ·have HG := hfin (by rw [HB.out]; simp [letB]; omega)
       clear hfin hgo
       by_cases h0 : i = 0
       ·repeat (first | apply ef_seq | (apply ef_mv; exact rfl; exact rfl) | (apply ef_bin; (iterate 3 exact rfl); (first | exact cmp_t rfl (by first | exact rfl | (simp only [cmpP]; omega)) | exact cmp_f rfl (by simp only [cmpP]; omega))) | (apply ef_gy; exact rfl; (first | exact (rfl : true = true) | exact (rfl : false = false))) | (apply ef_gn; exact rfl; (first | exact (rfl : true = true) | exact (rfl : false = false)); exact rfl) | (apply ef_gu; exact rfl; exact rfl) | (apply ef_pick; (iterate 3 exact rfl)) | (apply ef_notF; exact rfl; exact rfl) | (apply ef_sx; (iterate 3 exact rfl); omega; (assumption)) | (apply ef_sln; exact rfl; exact rfl) | apply ef_nil | apply seqQ.normal | apply loopQ.ret | apply ef_ret | apply seqQ.ret | apply blockQ.ret | apply ef_block | apply ef_skip | (apply ef_condt; exact rfl; (exact (rfl : true = true))))
        (refine fin1 rfl (by exact rfl) rfl ?_)
        rw [HG.out]
       ·repeat (first | apply ef_seq | (apply ef_mv; exact rfl; exact rfl) | (apply ef_bin; (iterate 3 exact rfl); (first | exact cmp_t rfl (by first | exact rfl | (simp only [cmpP]; omega)) | exact cmp_f rfl (by simp only [cmpP]; omega))) | (apply ef_gy; exact rfl; (first | exact (rfl : true = true) | exact (rfl : false = false))) | (apply ef_gn; exact rfl; (exact (rfl : false = false)); exact rfl) | (apply ef_pick; (iterate 3 exact rfl)) | (apply ef_notF; exact rfl; exact rfl) | (apply ef_sx; (iterate 3 exact rfl); omega; (assumption)) | (apply ef_sln; exact rfl; exact rfl) | apply ef_nil | apply seqQ.normal | apply loopQ.ret | apply ef_ret | apply seqQ.ret | apply blockQ.ret | apply ef_block | apply ef_skip | (apply ef_condt; exact rfl; (exact (rfl : true = true))))
        (refine fin1 rfl (by exact rfl) rfl ?_)
        rw [HG.out]
     ·by_cases h0 : i = 0
      ·have HG := hfin (by rw [HB.out]; simp [letB, h0]; omega)
       clear hfin hgo
       repeat (first | apply ef_seq | (apply ef_mv; exact rfl; exact rfl) | (apply ef_bin; (iterate 3 exact rfl); (first | exact cmp_t rfl (by first | exact rfl | (simp only [cmpP]; omega)) | exact cmp_f rfl (by simp only [cmpP]; omega))) | (apply ef_gy; exact rfl; (first | exact (rfl : true = true) | exact (rfl : false = false))) | (apply ef_gn; exact rfl; (first | exact (rfl : true = true) | exact (rfl : false = false)); exact rfl) | (apply ef_gu; exact rfl; exact rfl) | (apply ef_pick; (iterate 3 exact rfl)) | (apply ef_notF; exact rfl; exact rfl) | (apply ef_sx; (iterate 3 exact rfl); omega; (assumption)) | (apply ef_sln; exact rfl; exact rfl) | apply ef_nil | apply seqQ.normal | apply loopQ.ret | apply ef_ret | apply seqQ.ret | apply blockQ.ret | apply ef_block | apply ef_skip | (apply ef_condt; exact rfl; (exact (rfl : true = true))))
       (refine fin1 rfl (by exact rfl) rfl ?_)
       rw [HG.out]
      ·by_cases h45 : c.toNat = 45
       ·have HG := hgo (by rw [HB.out]; simp [h0, h45])
        clear hfin hgo
        repeat (first | apply ef_seq | (apply ef_mv; exact rfl; exact rfl) | (apply ef_bin; (iterate 3 exact rfl); (first | exact cmp_t rfl (by first | exact rfl | (simp only [cmpP]; omega)) | exact cmp_f rfl (by simp only [cmpP]; omega) | ((with_reducible refine bin_add (wrap_of ?_ ?_)) <;> omega))) | (apply ef_gy; exact rfl; (first | exact (rfl : true = true) | exact (rfl : false = false))) | (apply ef_gn; exact rfl; (exact (rfl : false = false)); exact rfl) | (apply ef_gu; exact rfl; exact rfl) | (apply ef_pick; (iterate 3 exact rfl)) | (apply ef_notF; exact rfl; exact rfl) | (apply ef_sx; (iterate 3 exact rfl); omega; (assumption)) | (apply ef_sln; exact rfl; exact rfl) | apply ef_nil | apply seqQ.normal | apply blockQ.normal | apply ef_block | apply ef_skip | (apply ef_condt; exact rfl; (exact (rfl : true = true))) | (apply ef_condf; exact rfl; (exact (rfl : false = false))))
        (refine loopQ.normal _ _ ⟨i + 1, ⟨hlt, HG.out⟩, (by first | (simp only; omega) | omega), ⟨by ((repeat (refine Hold.cons (by exact rfl) ?_)); exact Hold.nil), by ((repeat (refine Hold.cons (by exact rfl) ?_)); exact Hold.nil)⟩, .inl (Nat.le_refl _), (by first | exact List.take_length | exact rfl | exact takeF rfl rfl)⟩)
       ·by_cases d1 : c.toNat < 48
        ·have HG := hfin (by rw [HB.out]; simp [letB]; omega)
         clear hfin hgo
         repeat (first | apply ef_seq | (apply ef_mv; exact rfl; exact rfl) | (apply ef_bin; (iterate 3 exact rfl); (first | exact cmp_t rfl (by first | exact rfl | (simp only [cmpP]; omega)) | exact cmp_f rfl (by simp only [cmpP]; omega))) | (apply ef_gy; exact rfl; (first | exact (rfl : true = true) | exact (rfl : false = false))) | (apply ef_gn; exact rfl; (first | exact (rfl : true = true) | exact (rfl : false = false)); exact rfl) | (apply ef_pick; (iterate 3 exact rfl)) | (apply ef_notF; exact rfl; exact rfl) | (apply ef_sx; (iterate 3 exact rfl); omega; (assumption)) | (apply ef_sln; exact rfl; exact rfl) | apply ef_nil | apply seqQ.normal | apply loopQ.ret | apply ef_ret | apply seqQ.ret | apply blockQ.ret | apply ef_block | apply ef_skip | (apply ef_condt; exact rfl; (exact (rfl : true = true))))
         (refine fin1 rfl (by exact rfl) rfl ?_)
         rw [HG.out]
        ·by_cases d2 : 57 < c.toNat
         ·have HG := hfin (by rw [HB.out]; simp [letB]; omega)
          clear hfin hgo
          repeat (first | apply ef_seq | (apply ef_mv; exact rfl; exact rfl) | (apply ef_bin; (iterate 3 exact rfl); (first | exact cmp_t rfl (by first | exact rfl | (simp only [cmpP]; omega)) | exact cmp_f rfl (by simp only [cmpP]; omega))) | (apply ef_gy; exact rfl; (first | exact (rfl : true = true) | exact (rfl : false = false))) | (apply ef_gn; exact rfl; (exact (rfl : false = false)); exact rfl) | (apply ef_pick; (iterate 3 exact rfl)) | (apply ef_notF; exact rfl; exact rfl) | (apply ef_sx; (iterate 3 exact rfl); omega; (assumption)) | (apply ef_sln; exact rfl; exact rfl) | apply ef_nil | apply seqQ.normal | apply loopQ.ret | apply ef_ret | apply seqQ.ret | apply blockQ.ret | apply ef_block | apply ef_skip | (apply ef_condt; exact rfl; (exact (rfl : true = true))))
          (refine fin1 rfl (by exact rfl) rfl ?_)
          rw [HG.out]
         ·have HG := hgo (by rw [HB.out]; simp [letB]; omega)
          clear hfin hgo
          repeat (first | apply ef_seq | (apply ef_mv; exact rfl; exact rfl) | (apply ef_bin; (iterate 3 exact rfl); (first | exact cmp_t rfl (by first | exact rfl | (simp only [cmpP]; omega)) | exact cmp_f rfl (by simp only [cmpP]; omega) | ((with_reducible refine bin_add (wrap_of ?_ ?_)) <;> omega))) | (apply ef_gy; exact rfl; (first | exact (rfl : true = true) | exact (rfl : false = false))) | (apply ef_gn; exact rfl; (exact (rfl : false = false)); exact rfl) | (apply ef_pick; (iterate 3 exact rfl)) | (apply ef_notF; exact rfl; exact rfl) | (apply ef_sx; (iterate 3 exact rfl); omega; (assumption)) | (apply ef_sln; exact rfl; exact rfl) | apply ef_nil | apply seqQ.normal | apply blockQ.normal | apply ef_block | apply ef_skip | (apply ef_condt; exact rfl; (exact (rfl : true = true))) | (apply ef_condf; exact rfl; (exact (rfl : false = false))))
          (refine loopQ.normal _ _ ⟨i + 1, ⟨hlt, HG.out⟩, (by first | (simp only; omega) | omega), ⟨by ((repeat (refine Hold.cons (by exact rfl) ?_)); exact Hold.nil), by ((repeat (refine Hold.cons (by exact rfl) ?_)); exact Hold.nil)⟩, .inl (Nat.le_refl _), (by first | exact List.take_length | exact rfl | exact takeF rfl rfl)⟩)
   ·repeat (first | apply ef_seq | (apply ef_mv; exact rfl; exact rfl) | (apply ef_bin; (iterate 3 exact rfl); (exact cmp_f rfl (by simp only [cmpP]; omega))) | (apply ef_sln; exact rfl; exact rfl) | apply ef_nil | apply seqQ.normal | apply loopQ.exit | apply ef_ret | apply ef_exit | apply seqQ.exit | apply blockQ.here | (apply ef_condf; exact rfl; (exact (rfl : false = false))))
    (refine fin1 rfl (by exact rfl) rfl ?_)
    rw [HNM.out, hz, List.drop_eq_nil_of_le (by omega), inB_iff.2 (by omega)]; rfl
theorem bIsName_c (k : Nat) (s : ByteArray) (hs : s.size ≤ 1000) (h : MHeap) : orA (k + 1) 50 [.lit (.string s)] h = some (Bo (nmB s), h) :=
 callL (args' := [.lit (.string s)]) (frzL_lt rfl) rfl (bIsName_z k s hs)
theorem mf_HasText : MT.mf 51 = some ⟨18, [(.tmp 4)], (.seq (.reg [gO 4 (.mv cF)]) (.seq (.seq (.reg [gO 5 (.mv (cI 0))]) (.block 0 (.loop [5, 0, 1] (.seq (.seq (.reg [gO 6 (.mv (.s 5)), gO 7 (.mv (.s 0)), gO 8 (.len (.s 7)), gO 9 (.bin .lss (.s 6) (.s 8))]) (.cond (.s 9) .skip (.exit 0))) (.seq (.block 1 (.seq (.reg [gO 12 (.mv (.s 0)), gO 13 (.mv (.s 5)), gO 14 (.ia 1 (.s 12) (.s 13)), gO 15 (.ld none (.s 14)), gO 16 (.mv (.s 1)), gO 17 (.seq false (.s 15) (.s 16))]) (.cond (.s 17) (.seq (.reg [gO 4 (.mv cT)]) .ret) .skip))) (.reg [gO 10 (.mv (.s 5)), gO 11 (.bin .add (.s 10) (cI 1)), gO 5 (.mv (.s 11))])))))) (.seq (.reg [gO 4 (.mv cF)]) .ret)))⟩ := by kernel_rfl
theorem HasText_z (k : Nat) (xs : List ByteArray) (s : ByteArray) (hx : xs.length ≤ 1000) : runZ MT (orA k) (itA k) 4000000 51 [.sl (xs.map encS), encS s] [] = some (Bo (xs.any (· == s)), []) := by
 have hl : (MV.sl (xs.map encS)).slen = some xs.length := by simp [MV.slen]
 refine runZ_of mf_HasText (by simp) ?_
 simp only [argsL]
 repeat (first | apply ef_seq | (apply ef_mv; exact rfl; exact rfl) | apply ef_nil | apply seqQ.normal | apply ef_block)
 refine ef_loopf (α := Nat) (fun i => i ≤ xs.length ∧ xs.any (· == s) = (xs.drop i).any (· == s)) (fun i => [(5, I64 (i : Int))]) [(0, .sl (xs.map encS)), (1, encS s)] (fun _ => []) (fun i => xs.length - i) 0 [5] (fun _ => rfl) (by ((repeat (refine Hold.cons (by exact rfl) ?_)); exact Hold.nil)) (by ((repeat (refine Hold.cons (by exact rfl) ?_)); exact Hold.nil)) rfl rfl ⟨by omega, rfl⟩ (by simp; omega) ?_
 rintro i ⟨hi, hz⟩
 try simp only at hi hz ⊢
 by_cases hlt : i < xs.length
 ·have e1 := at_map encS xs i hlt
  have HS := Lib.hid (drop_at xs i hlt)
  have HZ := Lib.hid hz
  clear hz
  generalize xs[i] = x at e1 HS
  have hb : (negIf false (x == s)) = (x == s) := rfl
  generalize hq : (x == s) = q at hb
  have HQ := Lib.hid hq
  clear hq
  cases q
  ·repeat (first | apply ef_seq | (apply ef_mv; exact rfl; exact rfl) | (apply ef_bin; (iterate 3 exact rfl); (first | exact cmp_t rfl (by first | exact rfl | (simp only [cmpP]; omega)) | ((with_reducible refine bin_add (wrap_of ?_ ?_)) <;> omega))) | (apply ef_len; exact rfl; exact rfl; (assumption)) | (apply ef_ldr; exact rfl; exact rfl; (exact rfl)) | (apply ef_ias; (iterate 3 exact rfl); (omega); assumption; exact rfl) | (apply ef_sq; (iterate 3 exact rfl)) | apply ef_nil | apply seqQ.normal | apply blockQ.normal | apply ef_block | apply ef_skip | (apply ef_condt; exact rfl; (exact (rfl : true = true))) | (apply ef_condf; exact rfl; (assumption)))
   (refine loopQ.normal _ _ ⟨i + 1, ⟨hlt, by rw [HZ.out, HS.out, List.any_cons, HQ.out]; rfl⟩, (by first | (simp only; omega) | omega), ⟨by ((repeat (refine Hold.cons (by exact rfl) ?_)); exact Hold.nil), by ((repeat (refine Hold.cons (by exact rfl) ?_)); exact Hold.nil)⟩, .inl (Nat.le_refl _), (by first | exact List.take_length | exact rfl | exact takeF rfl rfl)⟩)
  ·repeat (first | apply ef_seq | (apply ef_mv; exact rfl; exact rfl) | (apply ef_bin; (iterate 3 exact rfl); (exact cmp_t rfl (by first | exact rfl | (simp only [cmpP]; omega)))) | (apply ef_len; exact rfl; exact rfl; (assumption)) | (apply ef_ldr; exact rfl; exact rfl; (exact rfl)) | (apply ef_ias; (iterate 3 exact rfl); (omega); assumption; exact rfl) | (apply ef_sq; (iterate 3 exact rfl)) | apply ef_nil | apply seqQ.normal | apply loopQ.ret | apply ef_ret | apply seqQ.ret | apply blockQ.ret | apply ef_block | apply ef_skip | (apply ef_condt; exact rfl; (first | exact (rfl : true = true) | assumption)))
   (refine fin1 rfl (by exact rfl) rfl ?_)
   rw [HZ.out, HS.out, List.any_cons, HQ.out]; rfl
 ·repeat (first | apply ef_seq | (apply ef_mv; exact rfl; exact rfl) | (apply ef_bin; (iterate 3 exact rfl); (exact cmp_f rfl (by simp only [cmpP]; omega))) | (apply ef_len; exact rfl; exact rfl; (assumption)) | apply ef_nil | apply seqQ.normal | apply loopQ.exit | apply ef_ret | apply ef_exit | apply seqQ.exit | apply blockQ.here | (apply ef_condf; exact rfl; (exact (rfl : false = false))))
  (refine fin1 rfl (by exact rfl) rfl ?_)
  rw [hz, List.drop_eq_nil_of_le (by omega)]; rfl
theorem HasText_c (k : Nat) (xs : List ByteArray) (s : ByteArray) (hx : xs.length ≤ 1000) (h : MHeap) {v : MV} (hv : frz 0 [] h 8 v = some (.sl (xs.map encS))) {t : Bool} (ht : xs.any (· == s) = t) : orA (k + 1) 51 [v, encS s] h = some (Bo t, h) :=
 callL (args' := [.sl (xs.map encS), encS s]) (by simp [List.mapM_cons, hv, frz_lt (m := encS s) rfl]) rfl (by rw [← ht]; exact HasText_z k xs s hx)
theorem mf_IsLine : MT.mf 52 = some ⟨11, [(.tmp 4)], (.seq (.reg [gO 2 (.box 2 (.s 0)), gO 4 (.mv cF)]) (.seq (.reg [gO 5 (.mv (.s 1)), gO 6 (.fa 0 (.s 2)), gO 7 (.ld none (.s 6)), gO 8 (.len (.s 7)), gO 9 (.bin .sub (.s 8) (cI 1)), gO 10 (.call 15 [.s 5, (cI 0), .s 9]), gO 4 (.mv (.s 10))]) .ret))⟩ := by kernel_rfl
theorem IsLine_c (k : Nat) (n : Nt) (i : Int) (hn : n.ls.length ≤ 1000) (h : MHeap) {b : Bool} (hb : inB i 0 ((n.ls.length : Int) - 1) = b) : orA (k + 2) 52 [encN n, I64 i] h = some (Bo b, h) := by
 have hs1 : (MV.sl (n.ls.map encLn)).slen = some n.ls.length := by simp [MV.slen]
 refine callL (args' := [encN n, I64 i]) (frzL_lt (by simp [ltL, MV.lt, ltL_Ln, ltL_Cr])) rfl (runZ_of mf_IsLine (by simp) ?_)
 simp only [argsL]
 have hw := fun h => Within_c k i 0 ((n.ls.length : Int) - 1) h hb
 repeat (first | apply ef_seq | (apply ef_mv; exact rfl; exact rfl) | (apply ef_bin; (iterate 3 exact rfl); (((with_reducible refine bin_sub (wrap_of ?_ ?_)) <;> omega))) | (apply ef_len; exact rfl; exact rfl; (assumption)) | (apply ef_ldp; exact rfl; exact rfl; (exact rfl); exact rfl; (exact rfl); (exact rfl)) | (apply ef_fap; exact rfl; exact rfl) | (apply ef_box; (iterate 4 exact rfl)) | apply ef_nil | apply seqQ.normal | apply ef_ret | (apply ef_call; exact rfl; ((repeat (apply XVs.cons; exact rfl)); exact XVs.nil); (with_reducible exact hw _)))
 (refine fin1 rfl (by exact rfl) rfl ?_)
 rfl
theorem mf_risPosition : MT.mf 53 = some ⟨5, [(.tmp 2)], (.seq (.reg [gO 2 (.mv cF)]) (.seq (.reg [gO 3 (.mv (.s 0)), gO 4 (.call 15 [.s 3, (cI 0), (cI 1000000)]), gO 2 (.mv (.s 4))]) .ret))⟩ := by kernel_rfl
theorem risPosition_c (k : Nat) (n : Int) (h : MHeap) {b : Bool} (hb : inB n 0 1000000 = b) : orA (k + 2) 53 [I64 n] h = some (Bo b, h) := by
 refine callL (args' := [I64 n]) (frzL_lt rfl) rfl (runZ_of mf_risPosition (by simp) ?_)
 simp only [argsL]
 have hw := fun h => Within_c k n 0 1000000 h hb
 repeat (first | apply ef_seq | (apply ef_mv; exact rfl; exact rfl) | apply ef_nil | apply seqQ.normal | apply ef_ret | (apply ef_call; exact rfl; ((repeat (apply XVs.cons; exact rfl)); exact XVs.nil); (with_reducible exact hw _)))
 (refine fin1 rfl (by exact rfl) rfl ?_)
 rfl
theorem mf_IsDifference : MT.mf 21 = some ⟨5, [(.tmp 2)], (.seq (.reg [gO 2 (.mv cF)]) (.seq (.reg [gO 3 (.mv (.s 0)), gO 4 (.call 15 [.s 3, (cI (-10000)), (cI 10000)]), gO 2 (.mv (.s 4))]) .ret))⟩ := by kernel_rfl
theorem IsDifference_c (k : Nat) (n : Int) (h : MHeap) {b : Bool} (hb : inB n (-10000) 10000 = b) : orA (k + 2) 21 [I64 n] h = some (Bo b, h) := by
 refine callL (args' := [I64 n]) (frzL_lt rfl) rfl (runZ_of mf_IsDifference (by simp) ?_)
 simp only [argsL]
 have hw := fun h => Within_c k n (-10000) 10000 h hb
 repeat (first | apply ef_seq | (apply ef_mv; exact rfl; exact rfl) | apply ef_nil | apply seqQ.normal | apply ef_ret | (apply ef_call; exact rfl; ((repeat (apply XVs.cons; exact rfl)); exact XVs.nil); (with_reducible exact hw _)))
 (refine fin1 rfl (by exact rfl) rfl ?_)
 rfl
end Go.Proofs.YtfchdbghjeophaaDoor

/- The contract of the reference's check of a net. -/
namespace Go.Proofs.YtfchdbghjeophaaDoor
open Go.RowKit
set_option linter.unusedVariables false
def nmL (n : Nt) (i : Nat) : List MV := ((n.ls.take i).map (·.1)).map encS
theorem nmL_len {n : Nt} {i : Nat} (h : i ≤ n.ls.length) : (nmL n i).length = i := by simp [nmL]; omega
theorem ltL_nm (m : Nat) (n : Nt) (i : Nat) : ltL m (nmL n i) = true := ltL_S m _
abbrev nmO (n : Nt) (i : Nat) : MObj := ⟨i, decide (i = 0), 1, nmL n i⟩
abbrev nmH (n : Nt) (i : Nat) : MHeap := [⟨0, false, 2, [encN n]⟩, nmO n i]
theorem nm_next {n : Nt} {i : Nat} {l : Ln} (h : n.ls[i]? = some l) : nmL n (i + 1) = nmL n i ++ [encS l.1] := by
 unfold nmL; rw [List.take_add_one, h]; simp
theorem ltL_app2 (m : Nat) : ∀ (a b : List MV), ltL m (a ++ b) = (ltL m a && ltL m b)
 | [], b => by simp [ltL]
 | x :: a, b => by simp [ltL, ltL_app2 m a b, Bool.and_assoc]
theorem frz_row {h : MHeap} {id k g : Nat} {o : MObj} {es : List MV} (ho : h[id]? = some o) (hg : o.g = g) (hk : k = es.length) (hl : ltL 0 es = true) (he : o.es = es) : frz 0 [] h 8 (.arr id 0 k g) = some (.sl es) := by
 subst he hk
 exact frz_arr ho hg (by simp) hl (by simp)
theorem mf_rCheckNet : MT.mf 38 = some ⟨161, [(.tmp 2), (.tmp 3)], (.seq (.reg [gO 1 (.box 2 (.s 0)), gO 2 (.mv (cI 0)), gO 3 (.mv (cI 0))]) (.seq (.seq (.reg [gO 10 (.fa 0 (.s 1)), gO 11 (.ld none (.s 10)), gO 12 (.len (.s 11)), gO 13 (.bin .eql (.s 12) (cI 0))]) (.cond (.s 13) (.seq (.reg [gO 2 (.mv (cI 0)), gO 3 (.mv (cI 10))]) .ret) .skip)) (.seq (.seq (.reg [gO 14 (.fa 0 (.s 1)), gO 15 (.ld none (.s 14)), gO 16 (.len (.s 15)), gO 17 (.bin .gtr (.s 16) (cI 8)), gO 18 (.mv (.s 17)), ⟨some (18, false), some 19, .fa 1 (.s 1)⟩, ⟨some (18, false), some 20, .ld none (.s 19)⟩, ⟨some (18, false), some 21, .len (.s 20)⟩, ⟨some (18, false), some 22, .bin .gtr (.s 21) (cI 16)⟩, gO 23 (.pick (.s 18) cT (.s 22))]) (.cond (.s 23) (.seq (.reg [gO 2 (.mv (cI 0)), gO 3 (.mv (cI 8))]) .ret) .skip)) (.seq (.reg [gO 4 (.nil0 1)]) (.seq (.seq (.reg [gO 5 (.mv (cI 0))]) (.block 0 (.loop [5, 1, 4] (.seq (.seq (.reg [gO 24 (.mv (.s 5)), gO 25 (.fa 0 (.s 1)), gO 26 (.ld none (.s 25)), gO 27 (.len (.s 26)), gO 28 (.bin .lss (.s 24) (.s 27))]) (.cond (.s 28) .skip (.exit 0))) (.seq (.block 1 (.seq (.seq (.reg [gO 31 (.fa 0 (.s 1)), gO 32 (.ld none (.s 31)), gO 33 (.mv (.s 5)), gO 34 (.ia 2 (.s 32) (.s 33)), gO 35 (.fa 0 (.s 34)), gO 36 (.ld none (.s 35)), gO 37 (.call 50 [.s 36]), gO 38 (.un .not (.s 37))]) (.cond (.s 38) (.seq (.reg [gO 39 (.mv (.s 5)), gO 2 (.mv (.s 39)), gO 3 (.mv (cI 4))]) .ret) .skip)) (.seq (.seq (.reg [gO 40 (.mv (.s 4)), gO 41 (.fa 0 (.s 1)), gO 42 (.ld none (.s 41)), gO 43 (.mv (.s 5)), gO 44 (.ia 2 (.s 42) (.s 43)), gO 45 (.fa 0 (.s 44)), gO 46 (.ld none (.s 45)), gO 47 (.call 51 [.s 40, .s 46])]) (.cond (.s 47) (.seq (.reg [gO 48 (.mv (.s 5)), gO 2 (.mv (.s 48)), gO 3 (.mv (cI 5))]) .ret) .skip)) (.reg [gO 49 (.mv (.s 4)), gO 50 (.fa 0 (.s 1)), gO 51 (.ld none (.s 50)), gO 52 (.mv (.s 5)), gO 53 (.ia 2 (.s 51) (.s 52)), gO 54 (.fa 0 (.s 53)), gO 55 (.ld none (.s 54)), gO 56 (.bsl (.lit (.string ⟨#[]⟩)) 1 1 [(0, (.s 55))]), gO 57 (.app 1 (.s 49) (.s 56)), gO 4 (.mv (.s 57))])))) (.reg [gO 29 (.mv (.s 5)), gO 30 (.bin .add (.s 29) (cI 1)), gO 5 (.mv (.s 30))])))))) (.seq (.seq (.reg [gO 6 (.mv (cI 0))]) (.block 2 (.loop [6, 1] (.seq (.seq (.reg [gO 58 (.mv (.s 6)), gO 59 (.fa 1 (.s 1)), gO 60 (.ld none (.s 59)), gO 61 (.len (.s 60)), gO 62 (.bin .lss (.s 58) (.s 61))]) (.cond (.s 62) .skip (.exit 2))) (.seq (.block 3 (.seq (.reg [gO 65 (.fa 1 (.s 1)), gO 66 (.ld none (.s 65)), gO 67 (.mv (.s 6)), gO 68 (.ia 6 (.s 66) (.s 67)), gO 69 (.ld (some 6) (.s 68)), gO 7 (.new (.agg [(.lit (.int .i64 0)), (.lit (.int .i64 0)), (.lit (.int .i64 0)), (.lit (.int .i64 0)), (.lit (.int .i64 0)), (.lit (.int .i64 0))])), ⟨none, none, .st 6 (.s 7) (.s 69)⟩]) (.seq (.seq (.reg [gO 70 (.ld (some 2) (.s 1)), gO 71 (.fa 0 (.s 7)), gO 72 (.ld none (.s 71)), gO 73 (.call 52 [.s 70, .s 72]), gO 74 (.un .not (.s 73)), gO 75 (.mv (.s 74)), ⟨some (75, false), some 76, .ld (some 2) (.s 1)⟩, ⟨some (75, false), some 77, .fa 1 (.s 7)⟩, ⟨some (75, false), some 78, .ld none (.s 77)⟩, ⟨some (75, false), some 79, .call 52 [.s 76, .s 78]⟩, ⟨some (75, false), some 80, .un .not (.s 79)⟩, gO 81 (.pick (.s 75) cT (.s 80))]) (.cond (.s 81) (.seq (.reg [gO 82 (.mv (.s 6)), gO 2 (.mv (.s 82)), gO 3 (.mv (cI 6))]) .ret) .skip)) (.seq (.seq (.reg [gO 83 (.fa 0 (.s 1)), gO 84 (.ld none (.s 83)), gO 85 (.fa 0 (.s 7)), gO 86 (.ld none (.s 85)), gO 87 (.ia 2 (.s 84) (.s 86)), gO 88 (.fa 1 (.s 87)), gO 89 (.ld none (.s 88)), gO 90 (.mv (.s 89)), ⟨some (90, false), some 91, .fa 0 (.s 1)⟩, ⟨some (90, false), some 92, .ld none (.s 91)⟩, ⟨some (90, false), some 93, .fa 1 (.s 7)⟩, ⟨some (90, false), some 94, .ld none (.s 93)⟩, ⟨some (90, false), some 95, .ia 2 (.s 92) (.s 94)⟩, ⟨some (90, false), some 96, .fa 1 (.s 95)⟩, ⟨some (90, false), some 97, .ld none (.s 96)⟩, ⟨some (90, false), some 98, .un .not (.s 97)⟩, gO 99 (.pick (.s 90) cT (.s 98))]) (.cond (.s 99) (.seq (.reg [gO 100 (.mv (.s 6)), gO 2 (.mv (.s 100)), gO 3 (.mv (cI 15))]) .ret) .skip)) (.seq (.seq (.reg [gO 101 (.fa 2 (.s 7)), gO 102 (.ld none (.s 101)), gO 103 (.call 53 [.s 102]), gO 104 (.un .not (.s 103)), gO 105 (.mv (.s 104)), ⟨some (105, false), some 106, .fa 3 (.s 7)⟩, ⟨some (105, false), some 107, .ld none (.s 106)⟩, ⟨some (105, false), some 108, .call 53 [.s 107]⟩, ⟨some (105, false), some 109, .un .not (.s 108)⟩, gO 110 (.pick (.s 105) cT (.s 109)), gO 111 (.mv (.s 110)), ⟨some (111, false), some 112, .fa 4 (.s 7)⟩, ⟨some (111, false), some 113, .ld none (.s 112)⟩, ⟨some (111, false), some 114, .call 21 [.s 113]⟩, ⟨some (111, false), some 115, .un .not (.s 114)⟩, gO 116 (.pick (.s 111) cT (.s 115)), gO 117 (.mv (.s 116)), ⟨some (117, false), some 118, .fa 5 (.s 7)⟩, ⟨some (117, false), some 119, .ld none (.s 118)⟩, ⟨some (117, false), some 120, .call 15 [.s 119, (cI 1), (cI 10)]⟩, ⟨some (117, false), some 121, .un .not (.s 120)⟩, gO 122 (.pick (.s 117) cT (.s 121))]) (.cond (.s 122) (.seq (.reg [gO 123 (.mv (.s 6)), gO 2 (.mv (.s 123)), gO 3 (.mv (cI 2))]) .ret) .skip)) (.seq (.reg [gO 8 (.mv (cI 0))]) (.block 4 (.loop [8, 6, 1, 7] (.seq (.seq (.reg [gO 124 (.mv (.s 8)), gO 125 (.mv (.s 6)), gO 126 (.bin .lss (.s 124) (.s 125))]) (.cond (.s 126) .skip (.exit 4))) (.seq (.block 5 (.seq (.reg [gO 129 (.fa 1 (.s 1)), gO 130 (.ld none (.s 129)), gO 131 (.mv (.s 8)), gO 132 (.ia 6 (.s 130) (.s 131)), gO 133 (.ld (some 6) (.s 132)), gO 9 (.new (.agg [(.lit (.int .i64 0)), (.lit (.int .i64 0)), (.lit (.int .i64 0)), (.lit (.int .i64 0)), (.lit (.int .i64 0)), (.lit (.int .i64 0))])), ⟨none, none, .st 6 (.s 9) (.s 133)⟩]) (.seq (.reg [gO 134 (.fa 0 (.s 9)), gO 135 (.ld none (.s 134)), gO 136 (.fa 0 (.s 7)), gO 137 (.ld none (.s 136)), gO 138 (.bin .eql (.s 135) (.s 137)), gO 139 (.mv (.s 138)), ⟨some (139, true), some 140, .fa 2 (.s 9)⟩, ⟨some (139, true), some 141, .ld none (.s 140)⟩, ⟨some (139, true), some 142, .fa 2 (.s 7)⟩, ⟨some (139, true), some 143, .ld none (.s 142)⟩, ⟨some (139, true), some 144, .bin .eql (.s 141) (.s 143)⟩, gO 145 (.pick (.s 139) (.s 144) cF), gO 146 (.mv (.s 145)), ⟨some (146, false), some 147, .fa 1 (.s 9)⟩, ⟨some (146, false), some 148, .ld none (.s 147)⟩, ⟨some (146, false), some 149, .fa 1 (.s 7)⟩, ⟨some (146, false), some 150, .ld none (.s 149)⟩, ⟨some (146, false), some 151, .bin .eql (.s 148) (.s 150)⟩, ⟨some (146, false), some 152, .mv (.s 151)⟩, ⟨some (152, true), some 153, .fa 3 (.s 9)⟩, ⟨some (152, true), some 154, .ld none (.s 153)⟩, ⟨some (152, true), some 155, .fa 3 (.s 7)⟩, ⟨some (152, true), some 156, .ld none (.s 155)⟩, ⟨some (152, true), some 157, .bin .eql (.s 154) (.s 156)⟩, ⟨some (146, false), some 158, .pick (.s 152) (.s 157) cF⟩, gO 159 (.pick (.s 146) cT (.s 158))]) (.cond (.s 159) (.seq (.reg [gO 160 (.mv (.s 6)), gO 2 (.mv (.s 160)), gO 3 (.mv (cI 23))]) .ret) .skip)))) (.reg [gO 127 (.mv (.s 8)), gO 128 (.bin .add (.s 127) (cI 1)), gO 8 (.mv (.s 128))]))))))))))) (.reg [gO 63 (.mv (.s 6)), gO 64 (.bin .add (.s 63) (cI 1)), gO 6 (.mv (.s 64))])))))) (.seq (.reg [gO 2 (.mv (cI 0)), gO 3 (.mv (cI 0))]) .ret)))))))⟩ := by kernel_rfl
set_option maxHeartbeats 4000000 in
theorem rCheckNet_z (k : Nat) (n : Nt) (hb : BdN n) : runZ MT (orA (k + 2)) (itA (k + 2)) 4000000 38 [encN n] [] = some (.tup [I64 (netF n).1, I64 (netF n).2], []) := by
 obtain ⟨b1, b2, b3⟩ := hb
 have hs1 : (MV.sl (n.ls.map encLn)).slen = some n.ls.length := by simp [MV.slen]
 have hs2 : (MV.sl (n.cs.map encCr)).slen = some n.cs.length := by simp [MV.slen]
 refine runZ_of mf_rCheckNet (by simp) ?_
 simp only [argsL]
 by_cases h0 : n.ls.length = 0
 ·have HF := Lib.hid (show netF n = (0, 10) by unfold netF; rw [if_pos h0])
  repeat (first | apply ef_seq | (apply ef_mv; exact rfl; exact rfl) | (apply ef_bin; (iterate 3 exact rfl); (exact cmp_t rfl (by first | exact rfl | (simp only [cmpP]; omega)))) | (apply ef_len; exact rfl; exact rfl; (assumption)) | (apply ef_ldp; exact rfl; exact rfl; (exact rfl); exact rfl; (exact rfl); (exact rfl)) | (apply ef_fap; exact rfl; exact rfl) | (apply ef_box; (iterate 4 exact rfl)) | apply ef_nil | apply seqQ.normal | apply ef_ret | apply seqQ.ret | (apply ef_condt; exact rfl; (exact (rfl : true = true))))
  (apply fin2; (· exact rfl); (· exact rfl); (· exact rfl); (· rw [HF.out]))
 ·by_cases h1 : 8 < n.ls.length ∨ 16 < n.cs.length
  ·have HF := Lib.hid (show netF n = (0, 8) by unfold netF; rw [if_neg h0, if_pos h1])
   by_cases h2 : n.ls.length ≤ 8
   ·repeat (first | apply ef_seq | (apply ef_mv; exact rfl; exact rfl) | (apply ef_bin; (iterate 3 exact rfl); (first | exact cmp_t rfl (by first | exact rfl | (simp only [cmpP]; omega)) | exact cmp_f rfl (by simp only [cmpP]; omega))) | (apply ef_gy; exact rfl; (exact (rfl : false = false))) | (apply ef_pick; (iterate 3 exact rfl)) | (apply ef_len; exact rfl; exact rfl; (assumption)) | (apply ef_ldp; exact rfl; exact rfl; (exact rfl); exact rfl; (exact rfl); (exact rfl)) | (apply ef_fap; exact rfl; exact rfl) | (apply ef_box; (iterate 4 exact rfl)) | apply ef_nil | apply seqQ.normal | apply ef_ret | apply seqQ.ret | apply ef_skip | (apply ef_condt; exact rfl; (exact (rfl : true = true))) | (apply ef_condf; exact rfl; (exact (rfl : false = false))))
    (apply fin2; (· exact rfl); (· exact rfl); (· exact rfl); (· rw [HF.out]))
   ·repeat (first | apply ef_seq | (apply ef_mv; exact rfl; exact rfl) | (apply ef_bin; (iterate 3 exact rfl); (first | exact cmp_t rfl (by first | exact rfl | (simp only [cmpP]; omega)) | exact cmp_f rfl (by simp only [cmpP]; omega))) | (apply ef_gn; exact rfl; (exact (rfl : true = true)); exact rfl) | (apply ef_pick; (iterate 3 exact rfl)) | (apply ef_len; exact rfl; exact rfl; (assumption)) | (apply ef_ldp; exact rfl; exact rfl; (exact rfl); exact rfl; (exact rfl); (exact rfl)) | (apply ef_fap; exact rfl; exact rfl) | (apply ef_box; (iterate 4 exact rfl)) | apply ef_nil | apply seqQ.normal | apply ef_ret | apply seqQ.ret | apply ef_skip | (apply ef_condt; exact rfl; (exact (rfl : true = true))) | (apply ef_condf; exact rfl; (exact (rfl : false = false))))
    (apply fin2; (· exact rfl); (· exact rfl); (· exact rfl); (· rw [HF.out]))
  ·have HF := Lib.hid (show netF n = if (scanE lineE [] n.ls).2 = 0 then scanE (crossE n.ls) [] n.cs else scanE lineE [] n.ls by unfold netF; rw [if_neg h0, if_neg h1])
   repeat (first | apply ef_seq | (apply ef_mv; exact rfl; exact rfl) | (apply ef_bin; (iterate 3 exact rfl); (exact cmp_f rfl (by simp only [cmpP]; omega))) | (apply ef_gy; exact rfl; (exact (rfl : false = false))) | (apply ef_pick; (iterate 3 exact rfl)) | (apply ef_len; exact rfl; exact rfl; (assumption)) | (apply ef_ldp; exact rfl; exact rfl; (exact rfl); exact rfl; (exact rfl); (exact rfl)) | (apply ef_fap; exact rfl; exact rfl) | (apply ef_box; (iterate 4 exact rfl)) | (apply ef_nil0; exact rfl) | apply ef_nil | apply seqQ.normal | apply ef_block | apply ef_skip | (apply ef_condf; exact rfl; (exact (rfl : false = false))))
   refine ef_loopf (α := Nat) (fun i => i ≤ n.ls.length ∧ scanE lineE [] n.ls = scanE lineE (n.ls.take i) (n.ls.drop i)) (fun i => [(5, I64 (i : Int)), (4, .arr 1 0 i i)]) [(1, .ptr 0 0 0 0)] (fun i => nmH n i) (fun i => n.ls.length - i) 0 [5, 4] (fun _ => rfl) (by ((repeat (refine Hold.cons (by exact rfl) ?_)); exact Hold.nil)) (by ((repeat (refine Hold.cons (by exact rfl) ?_)); exact Hold.nil)) rfl rfl ⟨by omega, by simp⟩ (by simp; omega) ?_
   rintro i ⟨hi, hz⟩
   try simp only at hi hz ⊢
   by_cases hlt : i < n.ls.length
   ·have e1 := at_map encLn n.ls i hlt
    have HT := nm_next (List.getElem?_eq_getElem hlt)
    have hsz := b3 n.ls[i] (List.getElem_mem hlt)
    have HS0 := fun h0 => Lib.hid (scanE_step (f := lineE) hlt h0)
    have HS1 := fun h0 => Lib.hid (scanE_bad (f := lineE) hlt h0)
    have HZ := Lib.hid hz
    clear hz
    generalize n.ls[i] = l at e1 hsz HS0 HS1 HT
    obtain ⟨nb, hnb⟩ : ∃ b, nmB l.1 = b := ⟨_, rfl⟩
    obtain ⟨kn, hkn⟩ : ∃ b, (n.ls.take i).any (fun o => o.1 == l.1) = b := ⟨_, rfl⟩
    have hnm := fun h => bIsName_c (k + 1) l.1 hsz h
    have hht := HasText_c (k + 1) ((n.ls.take i).map (·.1)) l.1 (by simp; omega) (nmH n i) (v := .arr 1 0 i i) (frz_row (o := nmO n i) rfl rfl (by simp; omega) (ltL_S 0 _) rfl) (t := kn) (by rw [List.any_map]; exact hkn)
    have hle : lineE (n.ls.take i) l = firstE [unl nb 4, unl (!kn) 5] := by unfold lineE; rw [hkn, hnb]
    rw [hle] at HS0 HS1
    rw [hnb] at hnm
    clear hle hkn hnb
    cases nb
    ·have HS := HS1 (by simp [firstE, unl])
     clear HS0 HS1
     repeat (first | apply ef_seq | (apply ef_mv; exact rfl; exact rfl) | (apply ef_bin; (iterate 3 exact rfl); (exact cmp_t rfl (by first | exact rfl | (simp only [cmpP]; omega)))) | (apply ef_len; exact rfl; exact rfl; (assumption)) | (apply ef_ldr; exact rfl; exact rfl; (exact rfl)) | (apply ef_ldp; exact rfl; exact rfl; (exact rfl); exact rfl; (exact rfl); (exact rfl)) | (apply ef_ias; (iterate 3 exact rfl); (omega); assumption; exact rfl) | (apply ef_fap; exact rfl; exact rfl) | (apply ef_far; exact rfl; exact rfl) | (apply ef_notF; exact rfl; exact rfl) | apply ef_nil | apply seqQ.normal | apply loopQ.ret | apply ef_ret | apply seqQ.ret | apply blockQ.ret | apply ef_block | apply ef_skip | (apply ef_condt; exact rfl; (exact (rfl : true = true))) | (apply ef_call; exact rfl; ((repeat (apply XVs.cons; exact rfl)); exact XVs.nil); (with_reducible exact hnm _)))
     (apply fin2; (· exact rfl); (· exact rfl); (· exact rfl); (· rw [HF.out, HZ.out, HS.out]; simp [firstE, unl]))
    ·cases kn
     ·have HS := HS0 (by simp [firstE, unl])
      clear HS0 HS1
      repeat (first | apply ef_seq | (apply ef_mv; exact rfl; exact rfl) | (apply ef_bin; (iterate 3 exact rfl); (exact cmp_t rfl (by first | exact rfl | (simp only [cmpP]; omega)))) | (apply ef_len; exact rfl; exact rfl; (assumption)) | (apply ef_ldr; exact rfl; exact rfl; (exact rfl)) | (apply ef_ldp; exact rfl; exact rfl; (exact rfl); exact rfl; (exact rfl); (exact rfl)) | (apply ef_ias; (iterate 3 exact rfl); (omega); assumption; exact rfl) | (apply ef_fap; exact rfl; exact rfl) | (apply ef_far; exact rfl; exact rfl) | (apply ef_notT; exact rfl; exact rfl) | apply ef_nil | apply seqQ.normal | apply ef_block | apply ef_skip | (apply ef_condt; exact rfl; (exact (rfl : true = true))) | (apply ef_condf; exact rfl; (exact (rfl : false = false))) | (apply ef_call; exact rfl; ((repeat (apply XVs.cons; exact rfl)); exact XVs.nil); (with_reducible exact hnm _)))
      (apply ef_call; (· exact rfl); (· ((repeat (apply XVs.cons; exact rfl)); exact XVs.nil)); · exact hht)
      repeat (first | (apply ef_mv; exact rfl; exact rfl) | (apply ef_ldr; exact rfl; exact rfl; (exact rfl)) | (apply ef_ldp; exact rfl; exact rfl; (exact rfl); exact rfl; (exact rfl); (exact rfl)) | (apply ef_ias; (iterate 3 exact rfl); (omega); assumption; exact rfl) | (apply ef_fap; exact rfl; exact rfl) | (apply ef_far; exact rfl; exact rfl) | (apply ef_bsl; exact rfl; (repeat (apply XVs.cons; exact rfl)); exact XVs.nil; exact rfl) | apply ef_nil | apply seqQ.normal | apply ef_skip | (apply ef_condf; exact rfl; (exact (rfl : false = false))))
      (apply ef_app; (· exact rfl); (· exact rfl); (· exact rfl); (· exact rfl); (· exact rfl); (· exact rfl); (· (simp [nmL_len hi])); (· exact rfl); (· (simp [nmL_len hi]; omega)); (· (simp [MV.sOk, MV.cells, MV.one, Value.oneCell'])); (· exact rfl))
      repeat (first | (apply ef_mv; exact rfl; exact rfl) | (apply ef_bin; (iterate 3 exact rfl); (((with_reducible refine bin_add (wrap_of ?_ ?_)) <;> omega))) | apply ef_nil | apply seqQ.normal | apply blockQ.normal)
      (refine loopQ.normal _ _ ⟨i + 1, ⟨hlt, by rw [HZ.out, HS.out]⟩, (by first | (simp only; omega) | omega), ⟨by ((repeat (refine Hold.cons (by exact rfl) ?_)); exact Hold.nil), by ((repeat (refine Hold.cons (by exact rfl) ?_)); exact Hold.nil)⟩, .inr ⟨by ((repeat (refine hdl_cons rfl (by first | rfl | (simp [MV.lt, ltL, ltL_Ln, ltL_Cr, ltL_nm, ltL_app2])) ?_)); exact hdl_nil), by (simp [hltL, ltL, MV.lt, ltL, ltL_Ln, ltL_Cr, ltL_nm, ltL_app2])⟩, by (show _ = ([⟨0, false, 2, [encN n]⟩, (⟨i + 1, decide (i + 1 = 0), 1, nmL n (i + 1)⟩ : MObj)] : MHeap); rw [HT]; exact rfl)⟩)
     ·have HS := HS1 (by simp [firstE, unl])
      clear HS0 HS1
      repeat (first | apply ef_seq | (apply ef_mv; exact rfl; exact rfl) | (apply ef_bin; (iterate 3 exact rfl); (exact cmp_t rfl (by first | exact rfl | (simp only [cmpP]; omega)))) | (apply ef_len; exact rfl; exact rfl; (assumption)) | (apply ef_ldr; exact rfl; exact rfl; (exact rfl)) | (apply ef_ldp; exact rfl; exact rfl; (exact rfl); exact rfl; (exact rfl); (exact rfl)) | (apply ef_ias; (iterate 3 exact rfl); (omega); assumption; exact rfl) | (apply ef_fap; exact rfl; exact rfl) | (apply ef_far; exact rfl; exact rfl) | (apply ef_notT; exact rfl; exact rfl) | apply ef_nil | apply seqQ.normal | apply ef_block | apply ef_skip | (apply ef_condt; exact rfl; (exact (rfl : true = true))) | (apply ef_condf; exact rfl; (exact (rfl : false = false))) | (apply ef_call; exact rfl; ((repeat (apply XVs.cons; exact rfl)); exact XVs.nil); (with_reducible exact hnm _)))
      (apply ef_call; (· exact rfl); (· ((repeat (apply XVs.cons; exact rfl)); exact XVs.nil)); · exact hht)
      repeat (first | apply ef_seq | (apply ef_mv; exact rfl; exact rfl) | apply ef_nil | apply seqQ.normal | apply loopQ.ret | apply ef_ret | apply seqQ.ret | apply blockQ.ret | (apply ef_condt; exact rfl; (exact (rfl : true = true))))
      (apply fin2; (· exact rfl); (· exact rfl); (· exact rfl); (· rw [HF.out, HZ.out, HS.out]; simp [firstE, unl]))
   ·have hsc : scanE lineE [] n.ls = (0, 0) := by rw [hz, List.drop_eq_nil_of_le (by omega), scanE_nil]
    have HF := Lib.hid (show netF n = scanE (crossE n.ls) [] n.cs by rw [HF.out, hsc, if_pos rfl])
    clear hz hsc
    obtain rfl : i = n.ls.length := by omega
    clear hlt hi
    repeat (first | apply ef_seq | (apply ef_mv; exact rfl; exact rfl) | (apply ef_bin; (iterate 3 exact rfl); (exact cmp_f rfl (by simp only [cmpP]; omega))) | (apply ef_len; exact rfl; exact rfl; (assumption)) | (apply ef_ldp; exact rfl; exact rfl; (exact rfl); exact rfl; (exact rfl); (exact rfl)) | (apply ef_fap; exact rfl; exact rfl) | apply ef_nil | apply seqQ.normal | apply loopQ.exit | apply ef_exit | apply seqQ.exit | apply blockQ.here | apply ef_block | (apply ef_condf; exact rfl; (exact (rfl : false = false))))
    refine ef_loopf (α := Nat) (fun i => i ≤ n.cs.length ∧ scanE (crossE n.ls) [] n.cs = scanE (crossE n.ls) (n.cs.take i) (n.cs.drop i)) (fun i => [(6, I64 (i : Int))]) [(1, .ptr 0 0 0 0)] (fun _ => nmH n n.ls.length) (fun i => n.cs.length - i) 0 [6] (fun _ => rfl) (by ((repeat (refine Hold.cons (by exact rfl) ?_)); exact Hold.nil)) (by ((repeat (refine Hold.cons (by exact rfl) ?_)); exact Hold.nil)) rfl rfl ⟨by omega, by simp⟩ (by simp; omega) ?_
    rintro i ⟨hi, hz⟩
    try simp only at hi hz ⊢
    by_cases hlt : i < n.cs.length
    ·have e1 := at_map encCr n.cs i hlt
     have HS0 := fun h0 => Lib.hid (scanE_step (f := crossE n.ls) hlt h0)
     have HS1 := fun h0 => Lib.hid (scanE_bad (f := crossE n.ls) hlt h0)
     have HZ := Lib.hid hz
     clear hz
     generalize n.cs[i] = c at e1 HS0 HS1
     have hbad : ∀ e, crossE n.ls (n.cs.take i) c = e → e ≠ 0 → RowKit.Hid (netF n = ((i : Int), e)) := fun e he h0 => Lib.hid (by rw [HF.out, HZ.out, (HS1 (by rw [he]; exact h0)).out, he])
     have hgo : crossE n.ls (n.cs.take i) c = 0 → RowKit.Hid (scanE (crossE n.ls) [] n.cs = scanE (crossE n.ls) (n.cs.take (i + 1)) (n.cs.drop (i + 1))) := fun he => Lib.hid (by rw [HZ.out, (HS0 he).out])
     clear HS0 HS1
     cases h1 : inB c.ln 0 ((n.ls.length : Int) - 1)
     ·have hw1 := fun h => IsLine_c k n c.ln (by omega) h h1
      have HE := hbad 6 (by simp [crossE, h1]) (by decide)
      clear hbad hgo
      repeat (first | apply ef_seq | (apply ef_mv; exact rfl; exact rfl) | (apply ef_bin; (iterate 3 exact rfl); (exact cmp_t rfl (by first | exact rfl | (simp only [cmpP]; omega)))) | (apply ef_gn; exact rfl; (exact (rfl : true = true)); exact rfl) | (apply ef_pick; (iterate 3 exact rfl)) | (apply ef_len; exact rfl; exact rfl; (assumption)) | (apply ef_ldr; exact rfl; exact rfl; (exact rd_6 rfl rfl rfl rfl rfl rfl)) | (apply ef_ldp; exact rfl; exact rfl; (exact rfl); exact rfl; (exact rfl); (first | exact rd_2 rfl rfl | exact rfl)) | (apply ef_ias; (iterate 3 exact rfl); (omega); assumption; exact rfl) | (apply ef_fap; exact rfl; exact rfl) | (apply ef_notF; exact rfl; exact rfl) | (apply ef_new; exact rfl) | (apply ef_st; (iterate 6 exact rfl); (exact rfl); exact rfl) | apply ef_nil | apply seqQ.normal | apply loopQ.ret | apply ef_ret | apply seqQ.ret | apply blockQ.ret | apply ef_block | apply ef_skip | (apply ef_condt; exact rfl; (exact (rfl : true = true))) | (apply ef_call; exact rfl; ((repeat (apply XVs.cons; exact rfl)); exact XVs.nil); (with_reducible exact hw1 _)))
      (apply fin2; (· exact rfl); (· exact rfl); (· exact rfl); (· rw [HE.out]))
     ·have hw1 := fun h => IsLine_c k n c.ln (by omega) h h1
      cases h2 : inB c.ti 0 ((n.ls.length : Int) - 1)
      ·have hw2 := fun h => IsLine_c k n c.ti (by omega) h h2
       have HE := hbad 6 (by simp [crossE, h1, h2]) (by decide)
       clear hbad hgo
       repeat (first | apply ef_seq | (apply ef_mv; exact rfl; exact rfl) | (apply ef_bin; (iterate 3 exact rfl); (exact cmp_t rfl (by first | exact rfl | (simp only [cmpP]; omega)))) | (apply ef_gy; exact rfl; (exact (rfl : false = false))) | (apply ef_pick; (iterate 3 exact rfl)) | (apply ef_len; exact rfl; exact rfl; (assumption)) | (apply ef_ldr; exact rfl; exact rfl; (exact rd_6 rfl rfl rfl rfl rfl rfl)) | (apply ef_ldp; exact rfl; exact rfl; (exact rfl); exact rfl; (exact rfl); (first | exact rd_2 rfl rfl | exact rfl)) | (apply ef_ias; (iterate 3 exact rfl); (omega); assumption; exact rfl) | (apply ef_fap; exact rfl; exact rfl) | (apply ef_notT; exact rfl; exact rfl) | (apply ef_notF; exact rfl; exact rfl) | (apply ef_new; exact rfl) | (apply ef_st; (iterate 6 exact rfl); (exact rfl); exact rfl) | apply ef_nil | apply seqQ.normal | apply loopQ.ret | apply ef_ret | apply seqQ.ret | apply blockQ.ret | apply ef_block | apply ef_skip | (apply ef_condt; exact rfl; (exact (rfl : true = true))) | (apply ef_call; exact rfl; ((repeat (apply XVs.cons; exact rfl)); exact XVs.nil); (with_reducible first | exact hw1 _ | exact hw2 _)))
       (apply fin2; (· exact rfl); (· exact rfl); (· exact rfl); (· rw [HE.out]))
      ·have hw2 := fun h => IsLine_c k n c.ti (by omega) h h2
       obtain ⟨p1, f1⟩ := ln_at h1
       obtain ⟨p2, f2⟩ := ln_at h2
       have HE := Lib.hid (show crossE n.ls (n.cs.take i) c = firstE [unl (!tieOf n.ls c.ln && tieOf n.ls c.ti) 15, unl (rngB c) 2, unl (!((n.cs.take i).any (dblB c))) 23] by simp [crossE, h1, h2])
       have ht1 : (n.ls.getD c.ln.toNat (⟨#[]⟩, false)).2 = tieOf n.ls c.ln := rfl
       have ht2 : (n.ls.getD c.ti.toNat (⟨#[]⟩, false)).2 = tieOf n.ls c.ti := rfl
       generalize n.ls.getD c.ln.toNat (⟨#[]⟩, false) = l1 at f1 ht1
       generalize n.ls.getD c.ti.toNat (⟨#[]⟩, false) = l2 at f2 ht2
       obtain ⟨n1, t1⟩ := l1
       obtain ⟨n2, t2⟩ := l2
       simp only at ht1 ht2
       rw [← ht1, ← ht2] at HE
       clear ht1 ht2 h1 h2
       by_cases hk : t1 = true ∨ t2 = false
       ·have HX := hbad 15 (by rw [HE.out]; rcases hk with rfl | rfl <;> simp [firstE, unl]) (by decide)
        clear hbad hgo HE
        cases t1
        ·obtain rfl : t2 = false := by simpa using hk
         repeat (first | apply ef_seq | (apply ef_mv; exact rfl; exact rfl) | (apply ef_bin; (iterate 3 exact rfl); (exact cmp_t rfl (by first | exact rfl | (simp only [cmpP]; omega)))) | (apply ef_gy; exact rfl; (exact (rfl : false = false))) | (apply ef_pick; (iterate 3 exact rfl)) | (apply ef_len; exact rfl; exact rfl; (assumption)) | (apply ef_ldr; exact rfl; exact rfl; (first | exact rd_6 rfl rfl rfl rfl rfl rfl | exact rfl)) | (apply ef_ldp; exact rfl; exact rfl; (exact rfl); exact rfl; (exact rfl); (first | exact rd_2 rfl rfl | exact rfl)) | (apply ef_ias; (iterate 3 exact rfl); (omega); assumption; exact rfl) | (apply ef_fap; exact rfl; exact rfl) | (apply ef_far; exact rfl; exact rfl) | (apply ef_notT; exact rfl; exact rfl) | (apply ef_notF; exact rfl; exact rfl) | (apply ef_new; exact rfl) | (apply ef_st; (iterate 6 exact rfl); (exact rfl); exact rfl) | apply ef_nil | apply seqQ.normal | apply loopQ.ret | apply ef_ret | apply seqQ.ret | apply blockQ.ret | apply ef_block | apply ef_skip | (apply ef_condt; exact rfl; (exact (rfl : true = true))) | (apply ef_condf; exact rfl; (exact (rfl : false = false))) | (apply ef_call; exact rfl; ((repeat (apply XVs.cons; exact rfl)); exact XVs.nil); (with_reducible first | exact hw1 _ | exact hw2 _)))
         (apply fin2; (· exact rfl); (· exact rfl); (· exact rfl); (· rw [HX.out]))
        ·repeat (first | apply ef_seq | (apply ef_mv; exact rfl; exact rfl) | (apply ef_bin; (iterate 3 exact rfl); (exact cmp_t rfl (by first | exact rfl | (simp only [cmpP]; omega)))) | (apply ef_gy; exact rfl; (exact (rfl : false = false))) | (apply ef_gn; exact rfl; (exact (rfl : true = true)); exact rfl) | (apply ef_pick; (iterate 3 exact rfl)) | (apply ef_len; exact rfl; exact rfl; (assumption)) | (apply ef_ldr; exact rfl; exact rfl; (first | exact rd_6 rfl rfl rfl rfl rfl rfl | exact rfl)) | (apply ef_ldp; exact rfl; exact rfl; (exact rfl); exact rfl; (exact rfl); (first | exact rd_2 rfl rfl | exact rfl)) | (apply ef_ias; (iterate 3 exact rfl); (omega); assumption; exact rfl) | (apply ef_fap; exact rfl; exact rfl) | (apply ef_far; exact rfl; exact rfl) | (apply ef_notT; exact rfl; exact rfl) | (apply ef_new; exact rfl) | (apply ef_st; (iterate 6 exact rfl); (exact rfl); exact rfl) | apply ef_nil | apply seqQ.normal | apply loopQ.ret | apply ef_ret | apply seqQ.ret | apply blockQ.ret | apply ef_block | apply ef_skip | (apply ef_condt; exact rfl; (exact (rfl : true = true))) | (apply ef_condf; exact rfl; (exact (rfl : false = false))) | (apply ef_call; exact rfl; ((repeat (apply XVs.cons; exact rfl)); exact XVs.nil); (with_reducible first | exact hw1 _ | exact hw2 _)))
         (apply fin2; (· exact rfl); (· exact rfl); (· exact rfl); (· rw [HX.out]))
       ·obtain rfl : t1 = false := by cases t1 <;> simp_all
        obtain rfl : t2 = true := by cases t2 <;> simp_all
        clear hk
        have HR := Lib.hid (show rngB c = (inB c.pa 0 1000000 && (inB c.pt 0 1000000 && (inB c.df (-10000) 10000 && inB c.wt 1 10))) from rfl)
        generalize q1 : inB c.pa 0 1000000 = r1 at HR
        generalize q2 : inB c.pt 0 1000000 = r2 at HR
        generalize q3 : inB c.df (-10000) 10000 = r3 at HR
        generalize q4 : inB c.wt 1 10 = r4 at HR
        have hw3 := fun h => risPosition_c k c.pa h q1
        have hw4 := fun h => risPosition_c k c.pt h q2
        have hw5 := fun h => IsDifference_c k c.df h q3
        have hw6 := fun h => Within_c (k + 1) c.wt 1 10 h q4
        have hrg : (r1 && (r2 && (r3 && r4))) = false → crossE n.ls (n.cs.take i) c = 2 := fun h => by rw [HE.out, HR.out, h]; simp [firstE, unl]
        cases r1
        ·have HE := hbad 2 (hrg rfl) (by decide)
         clear hbad hgo hrg q1 q2 q3 q4 HR
         repeat (first | apply ef_seq | (apply ef_mv; exact rfl; exact rfl) | (apply ef_bin; (iterate 3 exact rfl); (exact cmp_t rfl (by first | exact rfl | (simp only [cmpP]; omega)))) | (apply ef_gy; exact rfl; (exact (rfl : false = false))) | (apply ef_gn; exact rfl; (exact (rfl : true = true)); exact rfl) | (apply ef_pick; (iterate 3 exact rfl)) | (apply ef_len; exact rfl; exact rfl; (assumption)) | (apply ef_ldr; exact rfl; exact rfl; (first | exact rd_6 rfl rfl rfl rfl rfl rfl | exact rfl)) | (apply ef_ldp; exact rfl; exact rfl; (exact rfl); exact rfl; (exact rfl); (first | exact rd_2 rfl rfl | exact rfl)) | (apply ef_ias; (iterate 3 exact rfl); (omega); assumption; exact rfl) | (apply ef_fap; exact rfl; exact rfl) | (apply ef_far; exact rfl; exact rfl) | (apply ef_notT; exact rfl; exact rfl) | (apply ef_notF; exact rfl; exact rfl) | (apply ef_new; exact rfl) | (apply ef_st; (iterate 6 exact rfl); (exact rfl); exact rfl) | apply ef_nil | apply seqQ.normal | apply loopQ.ret | apply ef_ret | apply seqQ.ret | apply blockQ.ret | apply ef_block | apply ef_skip | (apply ef_condt; exact rfl; (exact (rfl : true = true))) | (apply ef_condf; exact rfl; (exact (rfl : false = false))) | (apply ef_call; exact rfl; ((repeat (apply XVs.cons; exact rfl)); exact XVs.nil); (with_reducible first | exact hw1 _ | exact hw2 _ | exact hw3 _)))
         (apply fin2; (· exact rfl); (· exact rfl); (· exact rfl); (· rw [HE.out]))
        ·cases r2
         ·have HE := hbad 2 (hrg rfl) (by decide)
          clear hbad hgo hrg q1 q2 q3 q4 HR
          repeat (first | apply ef_seq | (apply ef_mv; exact rfl; exact rfl) | (apply ef_bin; (iterate 3 exact rfl); (exact cmp_t rfl (by first | exact rfl | (simp only [cmpP]; omega)))) | (apply ef_gy; exact rfl; (exact (rfl : false = false))) | (apply ef_gn; exact rfl; (exact (rfl : true = true)); exact rfl) | (apply ef_pick; (iterate 3 exact rfl)) | (apply ef_len; exact rfl; exact rfl; (assumption)) | (apply ef_ldr; exact rfl; exact rfl; (first | exact rd_6 rfl rfl rfl rfl rfl rfl | exact rfl)) | (apply ef_ldp; exact rfl; exact rfl; (exact rfl); exact rfl; (exact rfl); (first | exact rd_2 rfl rfl | exact rfl)) | (apply ef_ias; (iterate 3 exact rfl); (omega); assumption; exact rfl) | (apply ef_fap; exact rfl; exact rfl) | (apply ef_far; exact rfl; exact rfl) | (apply ef_notT; exact rfl; exact rfl) | (apply ef_notF; exact rfl; exact rfl) | (apply ef_new; exact rfl) | (apply ef_st; (iterate 6 exact rfl); (exact rfl); exact rfl) | apply ef_nil | apply seqQ.normal | apply loopQ.ret | apply ef_ret | apply seqQ.ret | apply blockQ.ret | apply ef_block | apply ef_skip | (apply ef_condt; exact rfl; (exact (rfl : true = true))) | (apply ef_condf; exact rfl; (exact (rfl : false = false))) | (apply ef_call; exact rfl; ((repeat (apply XVs.cons; exact rfl)); exact XVs.nil); (with_reducible first | exact hw1 _ | exact hw2 _ | exact hw3 _ | exact hw4 _)))
          (apply fin2; (· exact rfl); (· exact rfl); (· exact rfl); (· rw [HE.out]))
         ·cases r3
          ·have HE := hbad 2 (hrg rfl) (by decide)
           clear hbad hgo hrg q1 q2 q3 q4 HR
           repeat (first | apply ef_seq | (apply ef_mv; exact rfl; exact rfl) | (apply ef_bin; (iterate 3 exact rfl); (exact cmp_t rfl (by first | exact rfl | (simp only [cmpP]; omega)))) | (apply ef_gy; exact rfl; (exact (rfl : false = false))) | (apply ef_gn; exact rfl; (exact (rfl : true = true)); exact rfl) | (apply ef_pick; (iterate 3 exact rfl)) | (apply ef_len; exact rfl; exact rfl; (assumption)) | (apply ef_ldr; exact rfl; exact rfl; (first | exact rd_6 rfl rfl rfl rfl rfl rfl | exact rfl)) | (apply ef_ldp; exact rfl; exact rfl; (exact rfl); exact rfl; (exact rfl); (first | exact rd_2 rfl rfl | exact rfl)) | (apply ef_ias; (iterate 3 exact rfl); (omega); assumption; exact rfl) | (apply ef_fap; exact rfl; exact rfl) | (apply ef_far; exact rfl; exact rfl) | (apply ef_notT; exact rfl; exact rfl) | (apply ef_notF; exact rfl; exact rfl) | (apply ef_new; exact rfl) | (apply ef_st; (iterate 6 exact rfl); (exact rfl); exact rfl) | apply ef_nil | apply seqQ.normal | apply loopQ.ret | apply ef_ret | apply seqQ.ret | apply blockQ.ret | apply ef_block | apply ef_skip | (apply ef_condt; exact rfl; (exact (rfl : true = true))) | (apply ef_condf; exact rfl; (exact (rfl : false = false))) | (apply ef_call; exact rfl; ((repeat (apply XVs.cons; exact rfl)); exact XVs.nil); (with_reducible first | exact hw1 _ | exact hw2 _ | exact hw3 _ | exact hw4 _ | exact hw5 _)))
           (apply fin2; (· exact rfl); (· exact rfl); (· exact rfl); (· rw [HE.out]))
          ·cases r4
           ·have HE := hbad 2 (hrg rfl) (by decide)
            clear hbad hgo hrg q1 q2 q3 q4 HR
            repeat (first | apply ef_seq | (apply ef_mv; exact rfl; exact rfl) | (apply ef_bin; (iterate 3 exact rfl); (exact cmp_t rfl (by first | exact rfl | (simp only [cmpP]; omega)))) | (apply ef_gy; exact rfl; (exact (rfl : false = false))) | (apply ef_pick; (iterate 3 exact rfl)) | (apply ef_len; exact rfl; exact rfl; (assumption)) | (apply ef_ldr; exact rfl; exact rfl; (first | exact rd_6 rfl rfl rfl rfl rfl rfl | exact rfl)) | (apply ef_ldp; exact rfl; exact rfl; (exact rfl); exact rfl; (exact rfl); (first | exact rd_2 rfl rfl | exact rfl)) | (apply ef_ias; (iterate 3 exact rfl); (omega); assumption; exact rfl) | (apply ef_fap; exact rfl; exact rfl) | (apply ef_far; exact rfl; exact rfl) | (apply ef_notT; exact rfl; exact rfl) | (apply ef_notF; exact rfl; exact rfl) | (apply ef_new; exact rfl) | (apply ef_st; (iterate 6 exact rfl); (exact rfl); exact rfl) | apply ef_nil | apply seqQ.normal | apply loopQ.ret | apply ef_ret | apply seqQ.ret | apply blockQ.ret | apply ef_block | apply ef_skip | (apply ef_condt; exact rfl; (exact (rfl : true = true))) | (apply ef_condf; exact rfl; (exact (rfl : false = false))) | (apply ef_call; exact rfl; ((repeat (apply XVs.cons; exact rfl)); exact XVs.nil); (with_reducible first | exact hw1 _ | exact hw2 _ | exact hw3 _ | exact hw4 _ | exact hw5 _ | exact hw6 _)))
            (apply fin2; (· exact rfl); (· exact rfl); (· exact rfl); (· rw [HE.out]))
           ·have HE := Lib.hid (show crossE n.ls (n.cs.take i) c = unl (!((n.cs.take i).any (dblB c))) 23 by rw [HE.out, HR.out]; cases (n.cs.take i).any (dblB c) <;> simp [firstE, unl])
            clear hrg q1 q2 q3 q4 HR
            repeat (first | apply ef_seq | (apply ef_mv; exact rfl; exact rfl) | (apply ef_bin; (iterate 3 exact rfl); (exact cmp_t rfl (by first | exact rfl | (simp only [cmpP]; omega)))) | (apply ef_gy; exact rfl; (exact (rfl : false = false))) | (apply ef_pick; (iterate 3 exact rfl)) | (apply ef_len; exact rfl; exact rfl; (assumption)) | (apply ef_ldr; exact rfl; exact rfl; (first | exact rd_6 rfl rfl rfl rfl rfl rfl | exact rfl)) | (apply ef_ldp; exact rfl; exact rfl; (exact rfl); exact rfl; (exact rfl); (first | exact rd_2 rfl rfl | exact rfl)) | (apply ef_ias; (iterate 3 exact rfl); (omega); assumption; exact rfl) | (apply ef_fap; exact rfl; exact rfl) | (apply ef_far; exact rfl; exact rfl) | (apply ef_notT; exact rfl; exact rfl) | (apply ef_new; exact rfl) | (apply ef_st; (iterate 6 exact rfl); (exact rfl); exact rfl) | apply ef_nil | apply seqQ.normal | apply ef_block | apply ef_skip | (apply ef_condt; exact rfl; (exact (rfl : true = true))) | (apply ef_condf; exact rfl; (exact (rfl : false = false))) | (apply ef_call; exact rfl; ((repeat (apply XVs.cons; exact rfl)); exact XVs.nil); (with_reducible first | exact hw1 _ | exact hw2 _ | exact hw3 _ | exact hw4 _ | exact hw5 _ | exact hw6 _)))
            refine ef_loopf (α := Nat) (fun j => j ≤ i ∧ (n.cs.take i).any (dblB c) = ((n.cs.take i).drop j).any (dblB c)) (fun j => [(8, I64 (j : Int))]) [(6, I64 (i : Int)), (1, .ptr 0 0 0 0), (7, .ptr 2 0 0 0)] (fun _ => nmH n n.ls.length ++ [⟨0, false, 6, [encCr c]⟩]) (fun j => i - j) 0 [8] (fun _ => rfl) (by ((repeat (refine Hold.cons (by exact rfl) ?_)); exact Hold.nil)) (by ((repeat (refine Hold.cons (by exact rfl) ?_)); exact Hold.nil)) rfl rfl ⟨by omega, by simp⟩ (by simp; omega) ?_
            rintro j ⟨hj, hy⟩
            try simp only at hj hy ⊢
            by_cases hjl : j < i
            ·have g1 := at_map encCr n.cs j (by omega)
             have HD := Lib.hid (show (n.cs.take i).drop j = n.cs[j] :: (n.cs.take i).drop (j + 1) by rw [List.drop_eq_getElem_cons (by simp; omega)]; simp)
             have HY := Lib.hid hy
             clear hy
             generalize n.cs[j] = o at g1 HD
             have HB := Lib.hid (show dblB c o = ((decide (o.ln = c.ln) && decide (o.pa = c.pa)) || (decide (o.ti = c.ti) && decide (o.pt = c.pt))) from rfl)
             have hyes : dblB c o = true → RowKit.Hid (netF n = ((i : Int), 23)) := fun hd => hbad 23 (by rw [HE.out, HY.out, HD.out, List.any_cons, hd]; rfl) (by decide)
             have hno : dblB c o = false → RowKit.Hid ((n.cs.take i).any (dblB c) = ((n.cs.take i).drop (j + 1)).any (dblB c)) := fun hd => Lib.hid (by rw [HY.out, HD.out, List.any_cons, hd]; rfl)
             clear hbad hgo
             by_cases d1 : o.ln = c.ln ∧ o.pa = c.pa
             ·have HG := hyes (by rw [HB.out]; simp [d1])
              clear hyes hno
              repeat (first | apply ef_seq | (apply ef_mv; exact rfl; exact rfl) | (apply ef_bin; (iterate 3 exact rfl); (exact cmp_t rfl (by first | exact rfl | (simp only [cmpP]; omega)))) | (apply ef_gy; exact rfl; (exact (rfl : true = true))) | (apply ef_gn; exact rfl; (exact (rfl : true = true)); exact rfl) | (apply ef_gu; exact rfl; exact rfl) | (apply ef_pick; (iterate 3 exact rfl)) | (apply ef_ldr; exact rfl; exact rfl; (exact rd_6 rfl rfl rfl rfl rfl rfl)) | (apply ef_ldp; exact rfl; exact rfl; (exact rfl); exact rfl; (exact rfl); (exact rfl)) | (apply ef_ias; (iterate 3 exact rfl); (omega); assumption; exact rfl) | (apply ef_fap; exact rfl; exact rfl) | (apply ef_new; exact rfl) | (apply ef_st; (iterate 6 exact rfl); (exact rfl); exact rfl) | apply ef_nil | apply seqQ.normal | apply loopQ.ret | apply ef_ret | apply seqQ.ret | apply blockQ.ret | apply ef_block | apply ef_skip | (apply ef_condt; exact rfl; (exact (rfl : true = true))))
              (apply fin2; (· exact rfl); (· exact rfl); (· exact rfl); (· rw [HG.out]))
             ·by_cases d2 : o.ti = c.ti ∧ o.pt = c.pt
              ·have HG := hyes (by rw [HB.out]; simp [d2])
               clear hyes hno
               by_cases d3 : o.ln = c.ln
               ·repeat (first | apply ef_seq | (apply ef_mv; exact rfl; exact rfl) | (apply ef_bin; (iterate 3 exact rfl); (first | exact cmp_t rfl (by first | exact rfl | (simp only [cmpP]; omega)) | exact cmp_f rfl (by simp only [cmpP]; omega))) | (apply ef_gy; exact rfl; (first | exact (rfl : true = true) | exact (rfl : false = false))) | (apply ef_pick; (iterate 3 exact rfl)) | (apply ef_ldr; exact rfl; exact rfl; (exact rd_6 rfl rfl rfl rfl rfl rfl)) | (apply ef_ldp; exact rfl; exact rfl; (exact rfl); exact rfl; (exact rfl); (exact rfl)) | (apply ef_ias; (iterate 3 exact rfl); (omega); assumption; exact rfl) | (apply ef_fap; exact rfl; exact rfl) | (apply ef_new; exact rfl) | (apply ef_st; (iterate 6 exact rfl); (exact rfl); exact rfl) | apply ef_nil | apply seqQ.normal | apply loopQ.ret | apply ef_ret | apply seqQ.ret | apply blockQ.ret | apply ef_block | apply ef_skip | (apply ef_condt; exact rfl; (exact (rfl : true = true))))
                (apply fin2; (· exact rfl); (· exact rfl); (· exact rfl); (· rw [HG.out]))
               ·repeat (first | apply ef_seq | (apply ef_mv; exact rfl; exact rfl) | (apply ef_bin; (iterate 3 exact rfl); (first | exact cmp_t rfl (by first | exact rfl | (simp only [cmpP]; omega)) | exact cmp_f rfl (by simp only [cmpP]; omega))) | (apply ef_gy; exact rfl; (first | exact (rfl : true = true) | exact (rfl : false = false))) | (apply ef_gn; exact rfl; (exact (rfl : false = false)); exact rfl) | (apply ef_pick; (iterate 3 exact rfl)) | (apply ef_ldr; exact rfl; exact rfl; (exact rd_6 rfl rfl rfl rfl rfl rfl)) | (apply ef_ldp; exact rfl; exact rfl; (exact rfl); exact rfl; (exact rfl); (exact rfl)) | (apply ef_ias; (iterate 3 exact rfl); (omega); assumption; exact rfl) | (apply ef_fap; exact rfl; exact rfl) | (apply ef_new; exact rfl) | (apply ef_st; (iterate 6 exact rfl); (exact rfl); exact rfl) | apply ef_nil | apply seqQ.normal | apply loopQ.ret | apply ef_ret | apply seqQ.ret | apply blockQ.ret | apply ef_block | apply ef_skip | (apply ef_condt; exact rfl; (exact (rfl : true = true))))
                (apply fin2; (· exact rfl); (· exact rfl); (· exact rfl); (· rw [HG.out]))
              ·have HG := hno (by rw [HB.out]; simp; omega)
               clear hyes hno
               by_cases d3 : o.ln = c.ln <;> by_cases d4 : o.ti = c.ti
               all_goals repeat (first | apply ef_seq | (apply ef_mv; exact rfl; exact rfl) | (apply ef_bin; (iterate 3 exact rfl); (first | exact cmp_t rfl (by first | exact rfl | (simp only [cmpP]; omega)) | exact cmp_f rfl (by simp only [cmpP]; omega) | ((with_reducible refine bin_add (wrap_of ?_ ?_)) <;> omega))) | (apply ef_gy; exact rfl; (first | exact (rfl : true = true) | exact (rfl : false = false))) | (apply ef_gn; exact rfl; (exact (rfl : false = false)); exact rfl) | (apply ef_pick; (iterate 3 exact rfl)) | (apply ef_ldr; exact rfl; exact rfl; (exact rd_6 rfl rfl rfl rfl rfl rfl)) | (apply ef_ldp; exact rfl; exact rfl; (exact rfl); exact rfl; (exact rfl); (exact rfl)) | (apply ef_ias; (iterate 3 exact rfl); (omega); assumption; exact rfl) | (apply ef_fap; exact rfl; exact rfl) | (apply ef_new; exact rfl) | (apply ef_st; (iterate 6 exact rfl); (exact rfl); exact rfl) | apply ef_nil | apply seqQ.normal | apply blockQ.normal | apply ef_block | apply ef_skip | (apply ef_condt; exact rfl; (exact (rfl : true = true))) | (apply ef_condf; exact rfl; (exact (rfl : false = false))))
               all_goals (refine loopQ.normal _ _ ⟨j + 1, ⟨hjl, HG.out⟩, (by first | (simp only; omega) | omega), ⟨by ((repeat (refine Hold.cons (by exact rfl) ?_)); exact Hold.nil), by ((repeat (refine Hold.cons (by exact rfl) ?_)); exact Hold.nil)⟩, .inr ⟨by ((repeat (refine hdl_cons rfl (by first | rfl | (simp [MV.lt, ltL, ltL_Ln, ltL_Cr, ltL_nm])) ?_)); exact hdl_nil), by first | rfl | (simp [hltL, ltL, MV.lt, ltL, ltL_Ln, ltL_Cr, ltL_nm])⟩, by first | exact rfl | (simp only [List.map_append, List.map_set]; exact rfl)⟩)
            ·have HG := hgo (by rw [HE.out, hy, List.drop_eq_nil_of_le (by simp; omega)]; rfl)
             clear hbad hgo
             repeat (first | apply ef_seq | (apply ef_mv; exact rfl; exact rfl) | (apply ef_bin; (iterate 3 exact rfl); (first | exact cmp_f rfl (by simp only [cmpP]; omega) | ((with_reducible refine bin_add (wrap_of ?_ ?_)) <;> omega))) | apply ef_nil | apply seqQ.normal | apply loopQ.exit | apply ef_exit | apply seqQ.exit | apply blockQ.normal | apply blockQ.here | (apply ef_condf; exact rfl; (exact (rfl : false = false))))
             (refine loopQ.normal _ _ ⟨i + 1, ⟨hlt, HG.out⟩, (by first | (simp only; omega) | omega), ⟨by ((repeat (refine Hold.cons (by exact rfl) ?_)); exact Hold.nil), by ((repeat (refine Hold.cons (by exact rfl) ?_)); exact Hold.nil)⟩, .inr ⟨by ((repeat (refine hdl_cons rfl (by first | rfl | (simp [MV.lt, ltL, ltL_Ln, ltL_Cr, ltL_nm])) ?_)); exact hdl_nil), by first | rfl | (simp [hltL, ltL, MV.lt, ltL, ltL_Ln, ltL_Cr, ltL_nm])⟩, by first | exact rfl | (simp only [List.map_append, List.map_set]; exact rfl)⟩)
    ·have HF := Lib.hid (show netF n = (0, 0) by rw [HF.out, hz, List.drop_eq_nil_of_le (by omega), scanE_nil])
     repeat (first | apply ef_seq | (apply ef_mv; exact rfl; exact rfl) | (apply ef_bin; (iterate 3 exact rfl); (exact cmp_f rfl (by simp only [cmpP]; omega))) | (apply ef_len; exact rfl; exact rfl; (assumption)) | (apply ef_ldp; exact rfl; exact rfl; (exact rfl); exact rfl; (exact rfl); (exact rfl)) | (apply ef_fap; exact rfl; exact rfl) | apply ef_nil | apply seqQ.normal | apply loopQ.exit | apply ef_ret | apply ef_exit | apply seqQ.exit | apply blockQ.here | (apply ef_condf; exact rfl; (exact (rfl : false = false))))
     (apply fin2; (· exact rfl); (· exact rfl); (· exact rfl); (· rw [HF.out]))
theorem rCheckNet_c (k : Nat) (n : Nt) (hb : BdN n) (h : MHeap) : orA (k + 3) 38 [encN n] h = some (.tup [I64 (netF n).1, I64 (netF n).2], h) :=
 callTT (args' := [encN n]) (frzL_lt (by simp [ltL, MV.lt, ltL_Ln, ltL_Cr])) rfl (rCheckNet_z k n hb)
theorem mf_NetErr : MT.mf 19 = some ⟨11, [(.tmp 2)], (.seq (.reg [gO 1 (.box 2 (.s 0)), gO 2 (.mv (cI 0))]) (.seq (.reg [gO 6 (.ld (some 2) (.s 1)), gO 7 (.call 38 [.s 6]), gO 5 (.mv (.s 7)), gO 8 (.ext (.s 5) 0), gO 9 (.ext (.s 5) 1), gO 3 (.mv (.s 8)), gO 4 (.mv (.s 9))]) (.seq (.reg [gO 10 (.mv (.s 4)), gO 2 (.mv (.s 10))]) .ret)))⟩ := by kernel_rfl
theorem NetErr_c (k : Nat) (n : Nt) (hb : BdN n) (h : MHeap) : orA (k + 4) 19 [encN n] h = some (I64 (netF n).2, h) := by
 refine callL (args' := [encN n]) (frzL_lt (by simp [ltL, MV.lt, ltL_Ln, ltL_Cr])) rfl (runZ_of mf_NetErr (by simp) ?_)
 simp only [argsL]
 have hc := fun h => rCheckNet_c k n hb h
 repeat (first | apply ef_seq | (apply ef_mv; exact rfl; exact rfl) | (apply ef_ldp; exact rfl; exact rfl; (exact rfl); exact rfl; (exact rfl); (exact rd_2 rfl rfl)) | (apply ef_ext; (iterate 3 exact rfl)) | (apply ef_box; (iterate 4 exact rfl)) | apply ef_nil | apply seqQ.normal | apply ef_ret | (apply ef_call; exact rfl; ((repeat (apply XVs.cons; exact rfl)); exact XVs.nil); (with_reducible exact hc _)))
 (refine fin1 rfl (by exact rfl) rfl ?_)
 rfl
end Go.Proofs.YtfchdbghjeophaaDoor

/- The examples: the best corrections. -/
namespace Go.Proofs.YtfchdbghjeophaaDoor
open Go.RowKit
theorem best_f : runFf (orL tA mfW 4000000 12) noI 4000000 mfW_l9 [netX] [] = some (.tup [.arr 0 0 4 0, I64 1, I64 0], [⟨0, false, 1, [I64 0, I64 (-2), I64 (-3), I64 (-6)]⟩]) := by kernel_rfl
end Go.Proofs.YtfchdbghjeophaaDoor

/- The examples: a misclosure. -/
namespace Go.Proofs.YtfchdbghjeophaaDoor
open Go.RowKit
theorem mis_f : runFf (orL tA mfW 4000000 12) noI 4000000 mfW_l17 [netX, .sl [I64 0, I64 2, I64 3, I64 1]] [] = some (.tup [I64 1, I64 0], []) := by kernel_rfl
end Go.Proofs.YtfchdbghjeophaaDoor

/- The examples that the law begins with. -/
namespace Go.Proofs.YtfchdbghjeophaaDoor
open Go.RowKit
theorem net_z (k : Nat) : runZ MT (orA k) (itA k) 4000000 16 [] [] = some (netX, []) := by kernel_rfl
theorem net_c (k : Nat) (h : MHeap) : orA (k + 1) 16 [] h = some (netX, h) := by
 have := callA (k := k) (h := h) (args := []) (args' := []) rfl rfl (net_z k) rfl rfl
 simpa [shV, sh1] using this
theorem bestX_c (h : MHeap) : orA 13 9 [netX] h = some (.tup [.arr h.length 0 4 0, I64 1, I64 0], h ++ [⟨0, false, 1, [I64 0, I64 (-2), I64 (-3), I64 (-6)]⟩]) := by
 have := callA (k := 12) (h := h) (args := [netX]) (args' := [netX]) (frzL_lt rfl) rfl (runL_ok mfW_ok (f := 9) (m := mfW_l9) (by kernel_rfl) best_f _) rfl rfl
 simpa [shV, sh1] using this
theorem misX_c (h : MHeap) {v : MV} (hv : frz 0 [] h 8 v = some (.sl [I64 0, I64 2, I64 3, I64 1])) : orA 13 17 [netX, v] h = some (.tup [I64 1, I64 0], h) :=
 callTT (k := 12) (args' := [netX, .sl [I64 0, I64 2, I64 3, I64 1]]) (by simp [List.mapM_cons, hv, frz_lt (m := netX) rfl]) rfl (runL_ok mfW_ok (f := 17) (m := mfW_l17) (by kernel_rfl) mis_f _)
theorem mf_shown : MT.mf 4 = some ⟨37, [(.tmp 0)], (.seq (.reg [gO 0 (.mv cF)]) (.seq (.reg [gO 7 (.call 16 []), gO 8 (.call 9 [.s 7]), gO 6 (.mv (.s 8)), gO 9 (.ext (.s 6) 0), gO 10 (.ext (.s 6) 1), gO 11 (.ext (.s 6) 2), gO 1 (.mv (.s 9)), gO 2 (.mv (.s 10)), gO 3 (.mv (.s 11))]) (.seq (.reg [gO 13 (.call 16 []), gO 14 (.bsl (.lit (.int .i64 0)) 1 4 [(0, (cI 0)), (1, (cI 2)), (2, (cI 3)), (3, (cI 1))]), gO 15 (.call 17 [.s 13, .s 14]), gO 12 (.mv (.s 15)), gO 16 (.ext (.s 12) 0), gO 17 (.ext (.s 12) 1), gO 4 (.mv (.s 16)), gO 5 (.mv (.s 17))]) (.seq (.reg [gO 18 (.mv (.s 3)), gO 19 (.bin .eql (.s 18) (cI 0)), gO 20 (.mv (.s 19)), ⟨some (20, true), some 21, .mv (.s 1)⟩, ⟨some (20, true), some 22, .bsl (.lit (.int .i64 0)) 1 4 [(0, (cI 0)), (1, (cI (-2))), (2, (cI (-3))), (3, (cI (-6)))]⟩, ⟨some (20, true), some 23, .call 18 [.s 21, .s 22]⟩, gO 24 (.pick (.s 20) (.s 23) cF), gO 25 (.mv (.s 24)), ⟨some (25, true), some 26, .mv (.s 2)⟩, ⟨some (25, true), some 27, .bin .eql (.s 26) (cI 1)⟩, gO 28 (.pick (.s 25) (.s 27) cF), gO 29 (.mv (.s 28)), ⟨some (29, true), some 30, .mv (.s 5)⟩, ⟨some (29, true), some 31, .bin .eql (.s 30) (cI 0)⟩, gO 32 (.pick (.s 29) (.s 31) cF), gO 33 (.mv (.s 32)), ⟨some (33, true), some 34, .mv (.s 4)⟩, ⟨some (33, true), some 35, .bin .eql (.s 34) (cI 1)⟩, gO 36 (.pick (.s 33) (.s 35) cF), gO 0 (.mv (.s 36))]) .ret))))⟩ := by kernel_rfl
set_option maxHeartbeats 1000000 in
theorem shown_z : runZ MT (orA 13) (itA 13) 4000000 4 [] [] = some (Bo true, []) := by
 refine runZ_of mf_shown (by simp) ?_
 simp only [argsL]
 repeat (first | apply ef_seq | (apply ef_mv; exact rfl; exact rfl) | (apply ef_bin; (iterate 3 exact rfl); (exact cmp_t rfl (by first | exact rfl | (simp only [cmpP]; omega)))) | (apply ef_gy; exact rfl; (exact (rfl : true = true))) | (apply ef_pick; (iterate 3 exact rfl)) | (apply ef_ext; (iterate 3 exact rfl)) | (apply ef_bsl; exact rfl; (repeat (apply XVs.cons; exact rfl)); exact XVs.nil; exact rfl) | apply ef_nil | apply seqQ.normal | apply ef_ret | (apply ef_call; exact rfl; ((repeat (apply XVs.cons; exact rfl)); exact XVs.nil); (with_reducible first | exact net_c _ _ | exact bestX_c _ | exact misX_c _ rfl | exact bInts_c 12 [0, -2, -3, -6] [0, -2, -3, -6] _ (by simp) rfl rfl rfl)))
 (refine fin1 rfl (by exact rfl) rfl ?_)
 rfl
theorem shown_c (h : MHeap) : orA 14 4 [] h = some (Bo true, h) := callL (args' := []) rfl rfl shown_z
end Go.Proofs.YtfchdbghjeophaaDoor

/- Contracts: corrections; copies; the limits of the statements. -/
namespace Go.Proofs.YtfchdbghjeophaaDoor
open Go.RowKit
set_option linter.unusedVariables false
set_option linter.unusedSimpArgs false
theorem mf_IndexFuncI : MT.mf 44 = some ⟨19, [(.tmp 4)], (.seq (.reg [gO 4 (.mv (cI 0))]) (.seq (.seq (.reg [gO 6 (.mv (.s 0)), gO 7 (.len (.s 6)), gO 8 (.mv (cI 0))]) (.block 0 (.loop [8, 7, 1, 0] (.seq (.reg [gO 9 (.bin .lss (.s 8) (.s 7))]) (.seq (.cond (.s 9) .skip (.exit 0)) (.seq (.block 1 (.seq (.reg [gO 10 (.mv (.s 8)), gO 5 (.mv (.s 10))]) (.seq (.reg [gO 11 (.mv (.s 1)), gO 12 (.mv (.s 0)), gO 13 (.mv (.s 5)), gO 14 (.ia 1 (.s 12) (.s 13)), gO 15 (.ld none (.s 14)), gO 16 (.callv (.s 11) [.s 15])]) (.cond (.s 16) (.seq (.reg [gO 17 (.mv (.s 5)), gO 4 (.mv (.s 17))]) .ret) .skip)))) (.reg [gO 18 (.bin .add (.s 8) (cI 1)), gO 8 (.mv (.s 18))]))))))) (.seq (.reg [gO 4 (.mv (cI (-1)))]) .ret)))⟩ := by kernel_rfl
theorem IndexFuncI_z (k g : Nat) (caps : List MV) (P : Int → Bool) (zs : List Int) (hx : zs.length ≤ 1000) (hg : ∀ z ∈ zs, ∀ h, orA k g (I64 z :: caps) h = some (Bo (P z), h)) :
  runZ MT (orA k) (itA k) 4000000 44 [.sl (zs.map I64), .fn g 0 caps] [] = some (I64 (fIxG P zs 0), []) := by
 have hl : (MV.sl (zs.map I64)).slen = some zs.length := by simp [MV.slen]
 refine runZ_of mf_IndexFuncI (by simp) ?_
 simp only [argsL]
 repeat (first | apply ef_seq | (apply ef_mv; exact rfl; exact rfl) | (apply ef_len; exact rfl; exact rfl; (assumption)) | apply ef_nil | apply seqQ.normal | apply ef_block)
 refine ef_loop (α := Nat) (fun i => i ≤ zs.length ∧ fIxG P zs 0 = fIxG P (zs.drop i) i) (fun i => [(8, I64 (i : Int)), (7, I64 (zs.length : Int)), (1, .fn g 0 caps), (0, .sl (zs.map I64))]) (fun _ => []) (fun i => zs.length - i) 0 [8, 7, 1, 0] (fun _ => rfl) rfl ⟨by omega, rfl⟩ (by simp; omega) (by ((repeat (refine Hold.cons (by exact rfl) ?_)); exact Hold.nil)) rfl ?_
 rintro i ⟨hi, hz⟩
 by_cases hlt : i < zs.length
 ·have e1 := at_map I64 zs i hlt
  have HD := Lib.hid (drop_at zs i hlt)
  have HZ := Lib.hid hz
  have hg1 := hg zs[i] (List.getElem_mem hlt)
  clear hz hg
  obtain ⟨t, ht⟩ : ∃ t, P zs[i] = t := ⟨_, rfl⟩
  have HT := Lib.hid ht
  rw [ht] at hg1
  clear ht
  generalize zs[i] = z at e1 HD hg1 HT
  cases t
  ·repeat (first | apply ef_seq | (apply ef_mv; exact rfl; exact rfl) | (apply ef_bin; (iterate 3 exact rfl); (exact cmp_t rfl (by first | exact rfl | (simp only [cmpP]; omega)))) | (apply ef_ldr; exact rfl; exact rfl; (exact rfl)) | (apply ef_ias; (iterate 3 exact rfl); (omega); assumption; exact rfl) | apply ef_nil | apply seqQ.normal | apply ef_block | apply ef_skip | (apply ef_condt; exact rfl; (exact (rfl : true = true))))
   (apply ef_callv; exact rfl; exact rfl; ((repeat (apply XVs.cons; exact rfl)); exact XVs.nil); exact rfl; exact hg1 _)
   repeat (first | (apply ef_mv; exact rfl; exact rfl) | (apply ef_bin; (iterate 3 exact rfl); (((with_reducible refine bin_add (wrap_of ?_ ?_)) <;> omega))) | apply ef_nil | apply seqQ.normal | apply blockQ.normal | apply ef_skip | (apply ef_condf; exact rfl; (exact (rfl : false = false))))
   (refine loopQ.normal _ _ ⟨i + 1, ⟨hlt, by rw [HZ.out, HD.out]; simp [fIxG, HT.out]⟩, (by first | (simp only; omega) | omega), by ((repeat (refine Hold.cons (by exact rfl) ?_)); exact Hold.nil), .inl (Nat.le_refl _), (by first | exact List.take_length | exact rfl)⟩)
  ·repeat (first | apply ef_seq | (apply ef_mv; exact rfl; exact rfl) | (apply ef_bin; (iterate 3 exact rfl); (exact cmp_t rfl (by first | exact rfl | (simp only [cmpP]; omega)))) | (apply ef_ldr; exact rfl; exact rfl; (exact rfl)) | (apply ef_ias; (iterate 3 exact rfl); (omega); assumption; exact rfl) | apply ef_nil | apply seqQ.normal | apply ef_block | apply ef_skip | (apply ef_condt; exact rfl; (exact (rfl : true = true))))
   (apply ef_callv; exact rfl; exact rfl; ((repeat (apply XVs.cons; exact rfl)); exact XVs.nil); exact rfl; exact hg1 _)
   repeat (first | apply ef_seq | (apply ef_mv; exact rfl; exact rfl) | apply ef_nil | apply seqQ.normal | apply loopQ.ret | apply ef_ret | apply seqQ.ret | apply blockQ.ret | (apply ef_condt; exact rfl; (exact (rfl : true = true))))
   (refine fin1 rfl (by exact rfl) rfl ?_)
   rw [HZ.out, HD.out]; simp [fIxG, HT.out]
 ·repeat (first | apply ef_seq | (apply ef_mv; exact rfl; exact rfl) | (apply ef_bin; (iterate 3 exact rfl); (exact cmp_f rfl (by simp only [cmpP]; omega))) | apply ef_nil | apply seqQ.normal | apply loopQ.exit | apply ef_ret | apply ef_exit | apply seqQ.exit | apply blockQ.here | (apply ef_condf; exact rfl; (exact (rfl : false = false))))
  (refine fin1 rfl (by exact rfl) rfl ?_)
  rw [hz, List.drop_eq_nil_of_le (by omega)]; rfl
theorem IndexFuncI_c (k g : Nat) (caps : List MV) (P : Int → Bool) (zs : List Int) (h : MHeap) {v fv : MV} (hx : zs.length ≤ 1000) (hg : ∀ z ∈ zs, ∀ h, orA k g (I64 z :: caps) h = some (Bo (P z), h)) (hv : frz 0 [] h 8 v = some (.sl (zs.map I64))) (hf : frz 0 [] h 8 fv = some (.fn g 0 caps)) :
  orA (k + 1) 44 [v, fv] h = some (I64 (fIxG P zs 0), h) :=
 callL (args' := [.sl (zs.map I64), .fn g 0 caps]) (by simp [List.mapM_cons, hv, hf]) rfl (IndexFuncI_z k g caps P zs hx hg)
theorem mf_ContainsFuncI : MT.mf 25 = some ⟨9, [(.tmp 4)], (.seq (.reg [gO 4 (.mv cF)]) (.seq (.reg [gO 5 (.mv (.s 0)), gO 6 (.mv (.s 1)), gO 7 (.call 44 [.s 5, .s 6]), gO 8 (.bin .geq (.s 7) (cI 0)), gO 4 (.mv (.s 8))]) .ret))⟩ := by kernel_rfl
theorem ContainsFuncI_c (k g : Nat) (caps : List MV) (P : Int → Bool) (zs : List Int) (h : MHeap) {v fv : MV} {t : Bool} (hx : zs.length ≤ 1000) (hg : ∀ z ∈ zs, ∀ h, orA k g (I64 z :: caps) h = some (Bo (P z), h)) (hl : ltL 0 caps = true) (hv : frz 0 [] h 8 v = some (.sl (zs.map I64))) (hf : frz 0 [] h 8 fv = some (.fn g 0 caps))
  (ht : zs.any P = t) : orA (k + 2) 25 [v, fv] h = some (Bo t, h) := by
 refine callL (args' := [.sl (zs.map I64), .fn g 0 caps]) (by simp [List.mapM_cons, hv, hf]) rfl (runZ_of mf_ContainsFuncI (by simp) ?_)
 simp only [argsL]
 have hi := fun h => IndexFuncI_c k g caps P zs h (v := .sl (zs.map I64)) (fv := .fn g 0 caps) hx hg (frz_sl (ltL_lits (fun _ => by simp [MV.lt, ltL]) zs)) (by simp [frz, MV.lt, hl])
 repeat (first | apply ef_seq | (apply ef_mv; exact rfl; exact rfl) | (apply ef_bin; (iterate 3 exact rfl); (exact rfl)) | apply ef_nil | apply seqQ.normal | apply ef_ret | (apply ef_call; exact rfl; ((repeat (apply XVs.cons; exact rfl)); exact XVs.nil); (with_reducible exact hi _)))
 (refine fin1 rfl (by exact rfl) rfl ?_)
 rw [← ht]
 exact fIxG_any P zs
theorem ltL_N (n : Nt) (m : Nat) : (encN n).lt m = true := by simp [MV.lt, ltL, ltL_Ln, ltL_Cr]
theorem mf_open : MT.mf 24 = some mfW_l24 := mfW_q24
theorem open_c (k : Nat) (n : Nt) (hb : BdN n) (h : MHeap) : orA (k + 6) 24 [encN n] h = some (.tup [encN n, I64 (netF n).2], h) := by
 have hc := fun h => CheckNet_c k n hb h
 have hz : runZ MT (orA (k + 5)) (itA (k + 5)) 4000000 24 [encN n] [] = some (.tup [encN n, I64 (netF n).2], []) := by
  refine runZ_of mf_open (by simp) ?_
  simp only [argsL]
  repeat (first | apply ef_seq | (apply ef_mv; exact rfl; exact rfl) | (apply ef_ldp; exact rfl; exact rfl; (exact rfl); exact rfl; (exact rfl); (exact rd_2 rfl rfl)) | (apply ef_ext; (iterate 3 exact rfl)) | (apply ef_box; (iterate 4 exact rfl)) | (apply ef_new; exact rfl) | (apply ef_build; exact rfl; (repeat (apply XVs.cons; exact rfl)); exact XVs.nil; exact rfl; exact rfl) | (apply ef_st; (iterate 6 exact rfl); (exact rfl); exact rfl) | apply ef_nil | apply seqQ.normal | apply ef_ret | (apply ef_call; exact rfl; ((repeat (apply XVs.cons; exact rfl)); exact XVs.nil); (with_reducible exact hc _)))
  (apply fin_res2; (· exact rfl); (· exact ⟨1, 0, 0, 0, _, _, by exact rfl, by exact rfl, rfl, rfl, rd_2 rfl rfl⟩); (· exact rfl); (· exact ltL_N n 0); (· rfl))
 have := callA (k := k + 5) (h := h) (frzL_lt (ms := [encN n]) (by simp [ltL, ltL_N])) rfl hz (by simp [okV, ok1, MV.lt, ltL, ltL_Ln, ltL_Cr]) rfl
 simpa [shV, sh1] using this
theorem netF_pos {n : Nt} (h : (netF n).2 = 0) : 0 < n.ls.length ∧ n.ls.length ≤ 8 ∧ n.cs.length ≤ 16 := by
 unfold netF at h
 split at h
 ·cases h
 ·split at h
  ·cases h
  ·omega
theorem mf_Copy : MT.mf 10 = some ⟨12, [(.cello 2 (some 2))], (.seq (.reg [gO 1 (.box 2 (.s 0)), gO 2 (.new (.agg [(.lit (.slice none 0 0)), (.lit (.slice none 0 0))]))]) (.seq (.reg [gO 3 (.vsl (.agg [(.lit (.string ⟨#[]⟩)), (.lit (.bool false))]) 2 0 []), gO 4 (.fa 0 (.s 1)), gO 5 (.ld none (.s 4)), gO 6 (.app 2 (.s 3) (.s 5)), gO 7 (.vsl (.agg [(.lit (.int .i64 0)), (.lit (.int .i64 0)), (.lit (.int .i64 0)), (.lit (.int .i64 0)), (.lit (.int .i64 0)), (.lit (.int .i64 0))]) 6 0 []), gO 8 (.fa 1 (.s 1)), gO 9 (.ld none (.s 8)), gO 10 (.app 6 (.s 7) (.s 9)), gO 11 (.build [(.lit (.slice none 0 0)), (.lit (.slice none 0 0))] [(0, (1, (.s 6))), (1, (1, (.s 10)))]), ⟨none, none, .st 2 (.s 2) (.s 11)⟩]) .ret))⟩ := by kernel_rfl
theorem sOk_Ln (ls : List Ln) : (ls.map encLn).all (MV.sOk 2) = true := by
 rw [List.all_eq_true]; intro m hm; obtain ⟨l, _, rfl⟩ := List.mem_map.1 hm; rfl
theorem sOk_Cr (ls : List Cr) : (ls.map encCr).all (MV.sOk 6) = true := by
 rw [List.all_eq_true]; intro m hm; obtain ⟨l, _, rfl⟩ := List.mem_map.1 hm; rfl
theorem frzF_lt {f : Nat} {h : MHeap} {m : MV} (hl : m.lt 0 = true) : frz 0 [] h (f + 1) m = some m := by simp [frz, hl]
theorem frzF_arr {f : Nat} {h : MHeap} {id k g : Nat} {o : MObj} {es : List MV} (ho : h[id]? = some o) (hg : o.g = g) (hk : k = es.length) (hl : ltL 0 es = true) (he : o.es = es) : frz 0 [] h (f + 1) (.arr id 0 k g) = some (.sl es) := by
 subst he hk
 simp [frz, MV.lt, ho, hg, hl]
theorem frzF_agg2 {f : Nat} {h : MHeap} {a b a' b' : MV} (hl : (MV.agg [a, b]).lt 0 = false) (ha : frz 0 [] h f a = some a') (hb : frz 0 [] h f b = some b') : frz 0 [] h (f + 1) (.agg [a, b]) = some (.agg [a', b']) := by
 simp [frz, hl, List.mapM_cons, ha, hb]
theorem fin_cellz {x : MX2} {A : Sl} {h : MHeap} {r : MRes} {cs : List MV} {v' : MV} (hx : outX x = true) (hv : ResV A h r (.agg cs)) (hf : frz 0 [] h 8 (.agg cs) = some v') : FinF [r] v' [] x A h := by
 refine ⟨hx, [.agg cs], [v'], ⟨_, [], rfl, hv, rfl⟩, by simp [impIds], ?_, rfl⟩
 have hi : impIds 0 [MV.agg cs] = [] := by simp [impIds]
 rw [hi]
 simp [expL, hf]
def cpV (p : Nat) : List Ln → List Cr → MV
 | [], [] => .agg [.sl [], .sl []]
 | [], c :: cs => .agg [.sl [], .arr p 0 (c :: cs).length 0]
 | l :: ls, [] => .agg [.arr p 0 (l :: ls).length 0, .sl []]
 | l :: ls, c :: cs => .agg [.arr p 0 (l :: ls).length 0, .arr (1 + p) 0 (c :: cs).length 0]
def cpH : List Ln → List Cr → MHeap
 | [], [] => []
 | [], c :: cs => [⟨0, false, 6, (c :: cs).map encCr⟩]
 | l :: ls, [] => [⟨0, false, 2, (l :: ls).map encLn⟩]
 | l :: ls, c :: cs => [⟨0, false, 2, (l :: ls).map encLn⟩, ⟨0, false, 6, (c :: cs).map encCr⟩]
theorem fin_oaa {x : MX2} {A : Sl} {h : MHeap} {t id id' k k' g g' kk kk' : Nat} {ag : Option Nat} {o o' : MObj} {es es' : List MV} {sz sz' : Nat} {nl nl' : Bool} (hx : outX x = true) (hv : ResV A h (.cell t ag) (.agg [.arr id 0 k g, .arr id' 0 k' g'])) (hne : id ≠ id') (ho : h[id]? = some o) (ho' : h[id']? = some o') (hg : o.g = g) (hg' : o'.g = g') (hk : k = es.length) (hk' : k' = es'.length) (hl : ltL 0 es = true) (hl' : ltL 0 es' = true) (he : o.es = es) (he' : o'.es = es') (hz : o.sz = sz) (hz' : o'.sz = sz') (hn : o.nl = nl) (hn' : o'.nl = nl') (hq : es.length = kk) (hq' : es'.length = kk') :
  FinO t ag (.agg [.arr 0 0 kk 0, .arr 1 0 kk' 0]) [⟨0, nl, sz, es⟩, ⟨0, nl', sz', es'⟩] x A h := by
 subst hz hz' hn hn' hq hq' he he' hk hk'
 refine ⟨hx, _, [.arr 0 0 o.es.length 0, .arr 1 0 o'.es.length 0], hv, ?_, ?_, rfl⟩
 ·simp [impIds, hne]
 ·simp [expL, ho, ho', hg, hg', hl, hl', frz, MV.lt]
theorem fin_oae {x : MX2} {A : Sl} {h : MHeap} {t id k g kk : Nat} {ag : Option Nat} {o : MObj} {es : List MV} {sz : Nat} {nl : Bool} (hx : outX x = true) (hv : ResV A h (.cell t ag) (.agg [.arr id 0 k g, .emp])) (ho : h[id]? = some o) (hg : o.g = g) (hk : k = es.length) (hl : ltL 0 es = true) (he : o.es = es) (hz : o.sz = sz) (hn : o.nl = nl) (hq : es.length = kk) :
  FinO t ag (.agg [.arr 0 0 kk 0, .sl []]) [⟨0, nl, sz, es⟩] x A h := by
 subst hz hn hq he hk
 refine ⟨hx, _, [.arr 0 0 o.es.length 0, .sl []], hv, ?_, ?_, rfl⟩
 ·simp [impIds]
 ·simp [expL, ho, hg, hl, frz, MV.lt]
theorem fin_oea {x : MX2} {A : Sl} {h : MHeap} {t id k g kk : Nat} {ag : Option Nat} {o : MObj} {es : List MV} {sz : Nat} {nl : Bool} (hx : outX x = true) (hv : ResV A h (.cell t ag) (.agg [.emp, .arr id 0 k g])) (ho : h[id]? = some o) (hg : o.g = g) (hk : k = es.length) (hl : ltL 0 es = true) (he : o.es = es) (hz : o.sz = sz) (hn : o.nl = nl) (hq : es.length = kk) :
  FinO t ag (.agg [.sl [], .arr 0 0 kk 0]) [⟨0, nl, sz, es⟩] x A h := by
 subst hz hn hq he hk
 refine ⟨hx, _, [.sl [], .arr 0 0 o.es.length 0], hv, ?_, ?_, rfl⟩
 ·simp [impIds]
 ·simp [expL, ho, hg, hl, frz, MV.lt]
theorem fin_oee {x : MX2} {A : Sl} {h : MHeap} {t : Nat} {ag : Option Nat} (hx : outX x = true) (hv : ResV A h (.cell t ag) (.agg [.emp, .emp])) : FinO t ag (.agg [.sl [], .sl []]) [] x A h := by
 refine ⟨hx, _, [.sl [], .sl []], hv, ?_, ?_, rfl⟩
 ·simp [impIds]
 ·simp [expL, frz, MV.lt]
set_option maxHeartbeats 1000000 in
theorem Copy_z (k : Nat) (n : Nt) (hb : BdN n) : runZ MT (orA k) (itA k) 4000000 10 [encN n] [] = some (cpV 0 n.ls n.cs, cpH n.ls n.cs) := by
 obtain ⟨b1, b2, b3⟩ := hb
 obtain ⟨ls, cs⟩ := n
 refine runZ_ofO mf_Copy (by simp) ?_
 simp only [argsL]
 have q1 := sOk_Ln ls
 have q2 := sOk_Cr cs
 simp only at b1 b2
 repeat (first | apply ef_seq | (apply ef_ldp; exact rfl; exact rfl; (exact rfl); exact rfl; (exact rfl); (exact rfl)) | (apply ef_fap; exact rfl; exact rfl) | (apply ef_box; (iterate 4 exact rfl)) | (apply ef_new; exact rfl) | (apply ef_vse; exact rfl) | apply ef_nil | apply seqQ.normal)
 cases ls with
 | nil =>
  (apply ef_appe0; (· exact rfl); (· exact rfl); (· exact rfl); (· exact rfl))
  repeat (first | (apply ef_ldp; exact rfl; exact rfl; (exact rfl); exact rfl; (exact rfl); (exact rfl)) | (apply ef_fap; exact rfl; exact rfl) | (apply ef_vse; exact rfl))
  cases cs with
  | nil =>
   (apply ef_appe0; (· exact rfl); (· exact rfl); (· exact rfl); (· exact rfl))
   repeat (first | (apply ef_build; exact rfl; (repeat (apply XVs.cons; exact rfl)); exact XVs.nil; exact rfl; exact rfl) | (apply ef_st; (iterate 6 exact rfl); (exact rfl); exact rfl) | apply ef_nil | apply seqQ.normal | apply ef_ret)
   (apply fin_oee; (· exact rfl); (· exact ⟨1, 0, 0, 0, _, _, by exact rfl, by exact rfl, rfl, rfl, rd_2 rfl rfl⟩))
  | cons c cs =>
   (apply ef_appe; (· exact rfl); (· exact rfl); (· exact rfl); (· exact rfl); (· simp at b2 ⊢; omega); (· exact q2))
   repeat (first | (apply ef_build; exact rfl; (repeat (apply XVs.cons; exact rfl)); exact XVs.nil; exact rfl; exact rfl) | (apply ef_st; (iterate 6 exact rfl); (exact rfl); exact rfl) | apply ef_nil | apply seqQ.normal | apply ef_ret)
   (apply fin_oea; (· exact rfl); (· exact ⟨1, 0, 0, 0, _, _, by exact rfl, by exact rfl, rfl, rfl, rd_2 rfl rfl⟩); (· exact rfl); (· exact rfl); (· simp); (· exact ltL_Cr 0 (c :: cs)); (· exact rfl); (· exact rfl); (· exact rfl); (· simp))
 | cons l ls =>
  (apply ef_appe; (· exact rfl); (· exact rfl); (· exact rfl); (· exact rfl); (· simp at b1 ⊢; omega); (· exact q1))
  repeat (first | (apply ef_ldp; exact rfl; exact rfl; (exact rfl); exact rfl; (exact rfl); (exact rfl)) | (apply ef_fap; exact rfl; exact rfl) | (apply ef_vse; exact rfl))
  cases cs with
  | nil =>
   (apply ef_appe0; (· exact rfl); (· exact rfl); (· exact rfl); (· exact rfl))
   repeat (first | (apply ef_build; exact rfl; (repeat (apply XVs.cons; exact rfl)); exact XVs.nil; exact rfl; exact rfl) | (apply ef_st; (iterate 6 exact rfl); (exact rfl); exact rfl) | apply ef_nil | apply seqQ.normal | apply ef_ret)
   (apply fin_oae; (· exact rfl); (· exact ⟨1, 0, 0, 0, _, _, by exact rfl, by exact rfl, rfl, rfl, rd_2 rfl rfl⟩); (· exact rfl); (· exact rfl); (· simp); (· exact ltL_Ln 0 (l :: ls)); (· exact rfl); (· exact rfl); (· exact rfl); (· simp))
  | cons c cs =>
   (apply ef_appe; (· exact rfl); (· exact rfl); (· exact rfl); (· exact rfl); (· simp at b2 ⊢; omega); (· exact q2))
   repeat (first | (apply ef_build; exact rfl; (repeat (apply XVs.cons; exact rfl)); exact XVs.nil; exact rfl; exact rfl) | (apply ef_st; (iterate 6 exact rfl); (exact rfl); exact rfl) | apply ef_nil | apply seqQ.normal | apply ef_ret)
   (apply fin_oaa; (· exact rfl); (· exact ⟨1, 0, 0, 0, _, _, by exact rfl, by exact rfl, rfl, rfl, rd_2 rfl rfl⟩); (· show 2 ≠ 3; decide); (· exact rfl); (· exact rfl); (· exact rfl); (· exact rfl); (· simp); (· simp); (· exact ltL_Ln 0 (l :: ls)); (· exact ltL_Cr 0 (c :: cs)); (· exact rfl); (· exact rfl); (· exact rfl); (· exact rfl); (· exact rfl); (· exact rfl); (· simp); (· simp))
theorem Copy_c (k : Nat) (n : Nt) (hb : BdN n) (h : MHeap) : orA (k + 1) 10 [encN n] h = some (cpV h.length n.ls n.cs, h ++ cpH n.ls n.cs) := by
 have hz := Copy_z k n hb
 obtain ⟨ls, cs⟩ := n
 simp only at hz ⊢
 have h1 : [encN ⟨ls, cs⟩].mapM (frz 0 [] h 8) = some [encN ⟨ls, cs⟩] := frzL_lt (by simp [ltL, MV.lt, ltL_Ln, ltL_Cr])
 cases ls with
 | nil =>
  cases cs with
  | nil => exact callA (k := k) (h := h) h1 rfl hz rfl rfl
  | cons c cs =>
   have := callA (k := k) (h := h) h1 rfl hz (by simp [okV, ok1, cpV, MV.lt, MV.pure, ltL, pureL]) (by simp [okH, cpH, ltL, MV.lt, pureL, MV.pure, ltL_Cr, pureL_Cr])
   simpa [shV, sh1, cpV, cpH] using this
 | cons l ls =>
  cases cs with
  | nil =>
   have := callA (k := k) (h := h) h1 rfl hz (by simp [okV, ok1, cpV, MV.lt, MV.pure, ltL, pureL]) (by simp [okH, cpH, ltL, MV.lt, pureL, MV.pure, ltL_Ln, pureL_Ln])
   simpa [shV, sh1, cpV, cpH] using this
  | cons c cs =>
   have := callA (k := k) (h := h) h1 rfl hz (by simp [okV, ok1, cpV, MV.lt, MV.pure, ltL, pureL]) (by simp [okH, cpH, ltL, MV.lt, pureL, MV.pure, ltL_Cr, pureL_Cr, ltL_Ln, pureL_Ln])
   simpa [shV, sh1, cpV, cpH] using this
theorem mf_CopyInts : MT.mf 13 = some ⟨6, [(.tmp 2)], (.seq (.reg [gO 2 (.nil0 1)]) (.seq (.reg [gO 3 (.bsl (.lit (.int .i64 0)) 1 0 []), gO 4 (.mv (.s 0)), gO 5 (.app 1 (.s 3) (.s 4)), gO 2 (.mv (.s 5))]) .ret))⟩ := by kernel_rfl
theorem bCopyInts_z (k : Nat) (xs : List Int) (hx : xs.length ≤ 1000000) : runZ MT (orA k) (itA k) 4000000 13 [.sl (xs.map I64)] [] = some (.arr 0 0 xs.length 0, [⟨0, false, 1, xs.map I64⟩]) := by
 refine runZ_of mf_CopyInts (by simp) ?_
 simp only [argsL]
 cases xs with
 | nil =>
  repeat (first | apply ef_seq | (apply ef_mv; exact rfl; exact rfl) | (apply ef_nil0; exact rfl) | (apply ef_bsl; exact rfl; (repeat (apply XVs.cons; exact rfl)); exact XVs.nil; exact rfl) | apply ef_nil | apply seqQ.normal)
  (apply ef_app0; (· exact rfl); (· exact rfl); (· exact rfl); (· exact rfl); (· exact rfl); (· exact rfl); (· exact rfl); (· exact rfl))
  repeat (first | (apply ef_mv; exact rfl; exact rfl) | apply ef_nil | apply seqQ.normal | apply ef_ret)
  (apply fin_arr; (· exact rfl); (· exact rfl); (· exact rfl); (· exact rfl); (· simp); (· exact rfl); (· exact rfl); (· exact rfl); (· exact rfl); (· exact rfl))
 | cons x xs =>
  have hs : ((x :: xs).map I64).all (MV.sOk 1) = true := by
   rw [List.all_eq_true]
   intro m hm
   obtain ⟨a, _, rfl⟩ := List.mem_map.1 hm
   rfl
  repeat (first | apply ef_seq | (apply ef_mv; exact rfl; exact rfl) | (apply ef_nil0; exact rfl) | (apply ef_bsl; exact rfl; (repeat (apply XVs.cons; exact rfl)); exact XVs.nil; exact rfl) | apply ef_nil | apply seqQ.normal)
  (apply ef_app; (· exact rfl); (· exact rfl); (· exact rfl); (· exact rfl); (· exact rfl); (· exact rfl); (· exact rfl); (· exact rfl); (· (simp at hx ⊢; omega)); (· exact hs); (· exact rfl))
  repeat (first | (apply ef_mv; exact rfl; exact rfl) | apply ef_nil | apply seqQ.normal | apply ef_ret)
  (apply fin_arr; (· exact rfl); (· exact rfl); (· exact rfl); (· exact rfl); (· simp); (· (exact ltL_I 0 (x :: xs))); (· (simp; rw [List.take_of_length_le (by simp)])); (· exact rfl); (· exact rfl); (· (simp)))
theorem bCopyInts_c (k : Nat) (xs : List Int) (h : MHeap) {v : MV} (hx : xs.length ≤ 1000000) (hv : frz 0 [] h 8 v = some (.sl (xs.map I64))) : orA (k + 1) 13 [v] h = some (.arr h.length 0 xs.length 0, h ++ [⟨0, false, 1, xs.map I64⟩]) := by
 have := callA (k := k) (args := [v]) (args' := [.sl (xs.map I64)]) (h := h) (by simp [List.mapM_cons, hv]) rfl (bCopyInts_z k xs hx) rfl (by simp [okH, ltL_I, pureL_I])
 simpa [shV, sh1] using this
def fewNt (n : Nt) : Bool := decide (n.ls.length ≤ 10) && (decide (n.cs.length ≤ 18) && n.ls.all fun l => decide (l.1.size ≤ 20))
theorem fewNt_bd {n : Nt} (h : fewNt n = true) : BdN n ∧ n.ls.length ≤ 10 ∧ n.cs.length ≤ 18 := by
 simp only [fewNt, Bool.and_eq_true, decide_eq_true_eq, List.all_eq_true] at h
 exact ⟨⟨by omega, by omega, fun l hl => by have := h.2.2 l hl; omega⟩, h.1, h.2.1⟩
theorem mf_Few : MT.mf 5 = some ⟨29, [(.tmp 2)], (.seq (.reg [gO 1 (.box 2 (.s 0)), gO 2 (.mv cF)]) (.seq (.seq (.reg [gO 4 (.fa 0 (.s 1)), gO 5 (.ld none (.s 4)), gO 6 (.len (.s 5)), gO 7 (.bin .gtr (.s 6) (cI 10)), gO 8 (.mv (.s 7)), ⟨some (8, false), some 9, .fa 1 (.s 1)⟩, ⟨some (8, false), some 10, .ld none (.s 9)⟩, ⟨some (8, false), some 11, .len (.s 10)⟩, ⟨some (8, false), some 12, .bin .gtr (.s 11) (cI 18)⟩, gO 13 (.pick (.s 8) cT (.s 12))]) (.cond (.s 13) (.seq (.reg [gO 2 (.mv cF)]) .ret) .skip)) (.seq (.seq (.reg [gO 3 (.mv (cI 0))]) (.block 0 (.loop [3, 1] (.seq (.seq (.reg [gO 14 (.mv (.s 3)), gO 15 (.fa 0 (.s 1)), gO 16 (.ld none (.s 15)), gO 17 (.len (.s 16)), gO 18 (.bin .lss (.s 14) (.s 17))]) (.cond (.s 18) .skip (.exit 0))) (.seq (.block 1 (.seq (.reg [gO 21 (.fa 0 (.s 1)), gO 22 (.ld none (.s 21)), gO 23 (.mv (.s 3)), gO 24 (.ia 2 (.s 22) (.s 23)), gO 25 (.fa 0 (.s 24)), gO 26 (.ld none (.s 25)), gO 27 (.sln (.s 26)), gO 28 (.bin .gtr (.s 27) (cI 20))]) (.cond (.s 28) (.seq (.reg [gO 2 (.mv cF)]) .ret) .skip))) (.reg [gO 19 (.mv (.s 3)), gO 20 (.bin .add (.s 19) (cI 1)), gO 3 (.mv (.s 20))])))))) (.seq (.reg [gO 2 (.mv cT)]) .ret))))⟩ := by kernel_rfl
theorem Few_c (k : Nat) (n : Nt) (m1 : n.ls.length ≤ 9223372036854775807) (m2 : n.cs.length ≤ 9223372036854775807) (h : MHeap) : orA (k + 1) 5 [encN n] h = some (Bo (fewNt n), h) := by
 refine callL (args' := [encN n]) (frzL_lt (by simp [ltL, MV.lt, ltL_Ln, ltL_Cr])) rfl (runZ_of mf_Few (by simp) ?_)
 simp only [argsL]
 have hs1 : (MV.sl (n.ls.map encLn)).slen = some n.ls.length := by simp [MV.slen]
 have hs2 : (MV.sl (n.cs.map encCr)).slen = some n.cs.length := by simp [MV.slen]
 have HF := Lib.hid (show fewNt n = (decide (n.ls.length ≤ 10) && (decide (n.cs.length ≤ 18) && n.ls.all fun l => decide (l.1.size ≤ 20))) from rfl)
 by_cases h1 : n.ls.length ≤ 10
 ·by_cases h2 : n.cs.length ≤ 18
  ·repeat (first | apply ef_seq | (apply ef_mv; exact rfl; exact rfl) | (apply ef_bin; (iterate 3 exact rfl); (exact cmp_f rfl (by simp only [cmpP]; omega))) | (apply ef_gy; exact rfl; (exact (rfl : false = false))) | (apply ef_pick; (iterate 3 exact rfl)) | (apply ef_len; exact rfl; exact rfl; (assumption)) | (apply ef_ldp; exact rfl; exact rfl; (exact rfl); exact rfl; (exact rfl); (exact rfl)) | (apply ef_fap; exact rfl; exact rfl) | (apply ef_box; (iterate 4 exact rfl)) | apply ef_nil | apply seqQ.normal | apply ef_block | apply ef_skip | (apply ef_condf; exact rfl; (exact (rfl : false = false))))
   refine ef_loopf (α := Nat) (fun i => i ≤ n.ls.length ∧ (n.ls.all fun l => decide (l.1.size ≤ 20)) = ((n.ls.drop i).all fun l => decide (l.1.size ≤ 20))) (fun i => [(3, I64 (i : Int))]) [(1, .ptr 0 0 0 0)] (fun _ => [⟨0, false, 2, [encN n]⟩]) (fun i => n.ls.length - i) 0 [3] (fun _ => rfl) (by ((repeat (refine Hold.cons (by exact rfl) ?_)); exact Hold.nil)) (by ((repeat (refine Hold.cons (by exact rfl) ?_)); exact Hold.nil)) rfl rfl ⟨by omega, rfl⟩ (by simp; omega) ?_
   rintro i ⟨hi, hz⟩
   try simp only at hi hz ⊢
   by_cases hlt : i < n.ls.length
   ·have e1 := at_map encLn n.ls i hlt
    have HS := Lib.hid (drop_at n.ls i hlt)
    have HZ := Lib.hid hz
    clear hz
    generalize n.ls[i] = l at e1 HS
    by_cases h3 : l.1.size ≤ 20
    ·repeat (first | apply ef_seq | (apply ef_mv; exact rfl; exact rfl) | (apply ef_bin; (iterate 3 exact rfl); (first | exact cmp_t rfl (by first | exact rfl | (simp only [cmpP]; omega)) | exact cmp_f rfl (by simp only [cmpP]; omega) | ((with_reducible refine bin_add (wrap_of ?_ ?_)) <;> omega))) | (apply ef_len; exact rfl; exact rfl; (assumption)) | (apply ef_ldr; exact rfl; exact rfl; (exact rfl)) | (apply ef_ldp; exact rfl; exact rfl; (exact rfl); exact rfl; (exact rfl); (exact rfl)) | (apply ef_ias; (iterate 3 exact rfl); (omega); assumption; exact rfl) | (apply ef_fap; exact rfl; exact rfl) | (apply ef_far; exact rfl; exact rfl) | (apply ef_sln; exact rfl; exact rfl) | apply ef_nil | apply seqQ.normal | apply blockQ.normal | apply ef_block | apply ef_skip | (apply ef_condt; exact rfl; (exact (rfl : true = true))) | (apply ef_condf; exact rfl; (exact (rfl : false = false))))
     (refine loopQ.normal _ _ ⟨i + 1, ⟨hlt, by rw [HZ.out, HS.out, List.all_cons, decide_eq_true h3]; rfl⟩, (by first | (simp only; omega) | omega), ⟨by ((repeat (refine Hold.cons (by exact rfl) ?_)); exact Hold.nil), by ((repeat (refine Hold.cons (by exact rfl) ?_)); exact Hold.nil)⟩, .inl (Nat.le_refl _), (by first | exact List.take_length | exact rfl | exact takeF rfl rfl)⟩)
    ·repeat (first | apply ef_seq | (apply ef_mv; exact rfl; exact rfl) | (apply ef_bin; (iterate 3 exact rfl); (exact cmp_t rfl (by first | exact rfl | (simp only [cmpP]; omega)))) | (apply ef_len; exact rfl; exact rfl; (assumption)) | (apply ef_ldr; exact rfl; exact rfl; (exact rfl)) | (apply ef_ldp; exact rfl; exact rfl; (exact rfl); exact rfl; (exact rfl); (exact rfl)) | (apply ef_ias; (iterate 3 exact rfl); (omega); assumption; exact rfl) | (apply ef_fap; exact rfl; exact rfl) | (apply ef_far; exact rfl; exact rfl) | (apply ef_sln; exact rfl; exact rfl) | apply ef_nil | apply seqQ.normal | apply loopQ.ret | apply ef_ret | apply seqQ.ret | apply blockQ.ret | apply ef_block | apply ef_skip | (apply ef_condt; exact rfl; (exact (rfl : true = true))))
     (refine fin1 rfl (by exact rfl) rfl ?_)
     rw [HF.out, HZ.out, HS.out, List.all_cons, decide_eq_false h3]; simp
   ·repeat (first | apply ef_seq | (apply ef_mv; exact rfl; exact rfl) | (apply ef_bin; (iterate 3 exact rfl); (exact cmp_f rfl (by simp only [cmpP]; omega))) | (apply ef_len; exact rfl; exact rfl; (assumption)) | (apply ef_ldp; exact rfl; exact rfl; (exact rfl); exact rfl; (exact rfl); (exact rfl)) | (apply ef_fap; exact rfl; exact rfl) | apply ef_nil | apply seqQ.normal | apply loopQ.exit | apply ef_ret | apply ef_exit | apply seqQ.exit | apply blockQ.here | (apply ef_condf; exact rfl; (exact (rfl : false = false))))
    (refine fin1 rfl (by exact rfl) rfl ?_)
    rw [HF.out, hz, List.drop_eq_nil_of_le (by omega)]; simp [h1, h2]
  ·repeat (first | apply ef_seq | (apply ef_mv; exact rfl; exact rfl) | (apply ef_bin; (iterate 3 exact rfl); (first | exact cmp_t rfl (by first | exact rfl | (simp only [cmpP]; omega)) | exact cmp_f rfl (by simp only [cmpP]; omega))) | (apply ef_gy; exact rfl; (exact (rfl : false = false))) | (apply ef_pick; (iterate 3 exact rfl)) | (apply ef_len; exact rfl; exact rfl; (assumption)) | (apply ef_ldp; exact rfl; exact rfl; (exact rfl); exact rfl; (exact rfl); (exact rfl)) | (apply ef_fap; exact rfl; exact rfl) | (apply ef_box; (iterate 4 exact rfl)) | apply ef_nil | apply seqQ.normal | apply ef_ret | apply seqQ.ret | (apply ef_condt; exact rfl; (exact (rfl : true = true))))
   (refine fin1 rfl (by exact rfl) rfl ?_)
   rw [HF.out]; simp [h2]
 ·repeat (first | apply ef_seq | (apply ef_mv; exact rfl; exact rfl) | (apply ef_bin; (iterate 3 exact rfl); (exact cmp_t rfl (by first | exact rfl | (simp only [cmpP]; omega)))) | (apply ef_gn; exact rfl; (exact (rfl : true = true)); exact rfl) | (apply ef_pick; (iterate 3 exact rfl)) | (apply ef_len; exact rfl; exact rfl; (assumption)) | (apply ef_ldp; exact rfl; exact rfl; (exact rfl); exact rfl; (exact rfl); (exact rfl)) | (apply ef_fap; exact rfl; exact rfl) | (apply ef_box; (iterate 4 exact rfl)) | apply ef_nil | apply seqQ.normal | apply ef_ret | apply seqQ.ret | (apply ef_condt; exact rfl; (exact (rfl : true = true))))
  (refine fin1 rfl (by exact rfl) rfl ?_)
  rw [HF.out]; simp [h1]
end Go.Proofs.YtfchdbghjeophaaDoor

/- Valid nets; residuals. -/
namespace Go.Proofs.YtfchdbghjeophaaDoor
open Go.RowKit
set_option linter.unusedVariables false
set_option linter.unusedSimpArgs false
structure OkX (m : Nat) (x : Cr) : Prop where
 l0 : 0 ≤ x.ln
 l1 : x.ln < (m : Int)
 t0 : 0 ≤ x.ti
 t1 : x.ti < (m : Int)
 pa : 0 ≤ x.pa ∧ x.pa ≤ 1000000
 pt : 0 ≤ x.pt ∧ x.pt ≤ 1000000
 df : -10000 ≤ x.df ∧ x.df ≤ 10000
 wt : 1 ≤ x.wt ∧ x.wt ≤ 10
structure OkN (n : Nt) : Prop where
 l1 : 0 < n.ls.length
 l8 : n.ls.length ≤ 8
 c16 : n.cs.length ≤ 16
 rg : ∀ x ∈ n.cs, OkX n.ls.length x
 kd : ∀ x ∈ n.cs, tieOf n.ls x.ln = false ∧ tieOf n.ls x.ti = true
 ds : ∀ (i j : Nat) (hi : i < n.cs.length) (hj : j < n.cs.length), j < i → dblB n.cs[i] n.cs[j] = false
theorem net_ok {n : Nt} (h : (netF n).2 = 0) : OkN n := by
 obtain ⟨q1, q2, q3⟩ := netF_pos h
 unfold netF at h
 rw [if_neg (by omega), if_neg (by omega)] at h
 split at h
 case isFalse h2 => exact absurd h h2
 rename_i hl
 obtain ⟨-, h2⟩ := scanE_ok h
 have key : ∀ (i : Nat) (hi : i < n.cs.length), (inB n.cs[i].ln 0 ((n.ls.length : Int) - 1) = true ∧ inB n.cs[i].ti 0 ((n.ls.length : Int) - 1) = true) ∧ (!tieOf n.ls n.cs[i].ln && tieOf n.ls n.cs[i].ti) = true ∧ rngB n.cs[i] = true ∧ (n.cs.take i).any (dblB n.cs[i]) = false := fun i hi => by
  have := h2 i hi
  rw [List.nil_append] at this
  unfold crossE at this
  split at this
  case isFalse => cases this
  rename_i hin
  rw [firstE_zero, firstE_zero, firstE_zero, unl_eq (by decide), unl_eq (by decide), unl_eq (by decide)] at this
  rw [Bool.and_eq_true] at hin
  exact ⟨hin, this.1, this.2.1, by simpa using this.2.2.1⟩
 refine ⟨q1, q2, q3, fun x hx => ?_, fun x hx => ?_, fun i j hi hj hji => ?_⟩
 ·obtain ⟨i, hi, rfl⟩ := List.getElem_of_mem hx
  obtain ⟨⟨a1, a2⟩, -, a4, -⟩ := key i hi
  have b1 := inB_iff.1 a1
  have b2 := inB_iff.1 a2
  simp only [rngB, Bool.and_eq_true] at a4
  obtain ⟨r1, r2, r3, r4⟩ := a4
  exact ⟨b1.1, by omega, b2.1, by omega, inB_iff.1 r1, inB_iff.1 r2, inB_iff.1 r3, inB_iff.1 r4⟩
 ·obtain ⟨i, hi, rfl⟩ := List.getElem_of_mem hx
  obtain ⟨-, a3, -, -⟩ := key i hi
  simpa using a3
 ·obtain ⟨-, -, -, a5⟩ := key i hi
  rw [List.any_eq_false] at a5
  have := a5 n.cs[j] (List.mem_of_getElem? (i := j) (by rw [List.getElem?_take, if_pos hji, List.getElem?_eq_getElem hj]))
  simpa using this
structure OkC (m : Nat) (c : List Int) : Prop where
 len : c.length = m
 rg : ∀ z ∈ c, -1000000 ≤ z ∧ z ≤ 1000000
 z0 : c.getD 0 0 = 0
def cAt (c : List Int) (i : Int) : Int := c.getD i.toNat 0
theorem cAt_at {m : Nat} {c : List Int} (hl : c.length = m) {i : Int} (h0 : 0 ≤ i) (h1 : i < (m : Int)) : (c.map I64)[i.toNat]? = some (I64 (cAt c i)) := by
 have hlt : i.toNat < c.length := by omega
 unfold cAt
 rw [List.getElem?_map, List.getD_eq_getElem?_getD, List.getElem?_eq_getElem hlt]; rfl
theorem OkC.at {m : Nat} {c : List Int} (h : OkC m c) (i : Int) : -1000000 ≤ cAt c i ∧ cAt c i ≤ 1000000 := by
 unfold cAt
 rw [List.getD_eq_getElem?_getD]
 cases hh : c[i.toNat]? with
 | none => simp
 | some z => exact h.rg z (List.mem_of_getElem? hh)
end Go.Proofs.YtfchdbghjeophaaDoor

/- Longest paths: rounds of relaxations; what holds of them, without a program. -/
namespace Go.Proofs.YtfchdbghjeophaaDoor
set_option linter.unusedVariables false
structure Ac where
 fr : Int
 tv : Int
 ln : Int
 cr : Int
 sg : Int
instance : Inhabited Ac := ⟨⟨0, 0, 0, 0, 0⟩⟩
structure LgS where
 L : List Int
 P : List Int
 ch : Int
def rlx (k : Nat) (a : Ac) (s : LgS) : LgS :=
 if cAt s.L a.fr > -549755813888 ∧ cAt s.L a.fr + a.ln > cAt s.L a.tv then ⟨s.L.set a.tv.toNat (cAt s.L a.fr + a.ln), s.P.set a.tv.toNat k, a.tv⟩ else s
def rndA : List Ac → Nat → LgS → LgS
 | [], _, s => s
 | a :: ar, k, s => rndA ar (k + 1) (rlx k a s)
def lgR (ar : List Ac) : Nat → LgS → LgS × Bool
 | 0, s => (s, false)
 | r + 1, s => if (rndA ar 0 ⟨s.L, s.P, -1⟩).ch < 0 then (rndA ar 0 ⟨s.L, s.P, -1⟩, true) else lgR ar r (rndA ar 0 ⟨s.L, s.P, -1⟩)
def arcP (ar : List Ac) (P : List Int) (v : Int) : Ac := ar.getD (cAt P v).toNat default
def bkN (ar : List Ac) (P : List Int) : Nat → Int → Int
 | 0, v => v
 | j + 1, v => (arcP ar P (bkN ar P j v)).fr
theorem cAt_set {L : List Int} {i j x : Int} (h0 : 0 ≤ i) (h1 : i < (L.length : Int)) (h2 : 0 ≤ j) : cAt (L.set i.toNat x) j = if j = i then x else cAt L j := by
 unfold cAt
 rw [List.getD_eq_getElem?_getD, List.getD_eq_getElem?_getD, List.getElem?_set]
 by_cases h : j = i
 ·subst h
  rw [if_pos rfl, if_pos rfl, if_pos (by omega)]; rfl
 ·rw [if_neg (by omega), if_neg h]
structure OkA (m : Nat) (B : Int) (a : Ac) : Prop where
 f0 : 0 ≤ a.fr
 f1 : a.fr < (m : Int)
 t0 : 0 ≤ a.tv
 t1 : a.tv < (m : Int)
 l0 : -B ≤ a.ln
 l1 : a.ln ≤ B
 ne : a.fr ≠ a.tv
def sig (n r k j : Nat) : Nat := if j < k then r * n + j + 1 else if r = 0 then 0 else (r - 1) * n + j + 1
def sumW (ar : List Ac) (P : List Int) (w : Nat → Int) : Nat → Int
 | 0 => 0
 | p + 1 => sumW ar P w p + (arcP ar P (w p)).ln
structure LgI (ar : List Ac) (m : Nat) (B : Int) (L0 : List Int) (r k : Nat) (t : Int → Nat) (s : LgS) : Prop where
 lenL : s.L.length = m
 lenP : s.P.length = m
 pg : ∀ v, 0 ≤ cAt s.P v ∧ (0 < ar.length → cAt s.P v < (ar.length : Int))
 bd : ∀ v, -1099511627776 ≤ cAt s.L v ∧ cAt s.L v ≤ B * ((r * ar.length + k : Nat) : Int)
 mon : ∀ v, cAt L0 v ≤ cAt s.L v
 low : ∀ f : Int → Int, (∀ a ∈ ar, f a.tv ≥ f a.fr + a.ln) → (∀ v, 0 ≤ v → v < (m : Int) → cAt L0 v ≤ f v) → ∀ v, 0 ≤ v → v < (m : Int) → cAt s.L v ≤ f v
 sat : ∀ (j : Nat) (h : j < ar.length), 0 < sig ar.length r k j → t ar[j].fr < sig ar.length r k j → cAt s.L ar[j].fr > -549755813888 → cAt s.L ar[j].fr + ar[j].ln ≤ cAt s.L ar[j].tv
 prd : ∀ v, 0 ≤ v → v < (m : Int) → 0 < t v → (arcP ar s.P v ∈ ar ∧ (arcP ar s.P v).tv = v) ∧ cAt s.L v ≤ cAt s.L (arcP ar s.P v).fr + (arcP ar s.P v).ln ∧ t v ≤ t (arcP ar s.P v).fr + ar.length
 pos : ∀ (p : Nat) (w : Nat → Int), 0 < p → w p = w 0 → (∀ i, i < p → (0 ≤ w i ∧ w i < (m : Int)) ∧ 0 < t (w i) ∧ (arcP ar s.P (w i)).fr = w (i + 1)) → 0 < sumW ar s.P w p
 tm : ∀ v, t v ≤ r * ar.length + k
 chg : (s.ch = -1 ∧ ∀ v, t v ≤ r * ar.length) ∨ ((0 ≤ s.ch ∧ s.ch < (m : Int)) ∧ r * ar.length < t s.ch)
theorem arcP_mem {ar : List Ac} {P : List Int} {v : Int} (h0 : 0 ≤ cAt P v) (h1 : cAt P v < (ar.length : Int)) : ∃ (h : (cAt P v).toNat < ar.length), arcP ar P v = ar[(cAt P v).toNat] := by
 have h : (cAt P v).toNat < ar.length := by omega
 refine ⟨h, ?_⟩
 unfold arcP
 rw [List.getD_eq_getElem?_getD, List.getElem?_eq_getElem h]; rfl
theorem sig_next {n r k j : Nat} (h : j ≠ k) : sig n r (k + 1) j = sig n r k j := by
 unfold sig
 by_cases h1 : j < k
 ·rw [if_pos (by omega), if_pos h1]
 ·rw [if_neg (by omega), if_neg h1]
theorem sig_was {n r k : Nat} (h : 0 < r) : sig n r k k + n = r * n + k + 1 := by
 unfold sig
 rw [if_neg (by omega), if_neg (by omega)]
 obtain ⟨q, rfl⟩ : ∃ q, r = q + 1 := ⟨r - 1, by omega⟩
 simp [Nat.add_mul]; omega
theorem sig_turn {n r j : Nat} (h : j < n) : sig n (r + 1) 0 j = sig n r n j := by
 unfold sig
 rw [if_neg (by omega), if_neg (by omega), if_pos h]; simp
theorem sig_le {n r k j : Nat} (hj : j < n) : sig n r k j ≤ r * n + k := by
 unfold sig
 split
 ·omega
 ·split
  ·omega
  ·obtain ⟨q, rfl⟩ : ∃ q, r = q + 1 := ⟨r - 1, by omega⟩
   simp [Nat.add_mul]; omega
theorem LgI.skip {ar : List Ac} {m : Nat} {B : Int} {L0 : List Int} {r k : Nat} {t : Int → Nat} {s : LgS} (H : LgI ar m B L0 r k t s) (hB : 0 ≤ B) (hk : k < ar.length) (hn : ¬ (cAt s.L ar[k].fr > -549755813888 ∧ cAt s.L ar[k].fr + ar[k].ln > cAt s.L ar[k].tv)) : LgI ar m B L0 r (k + 1) t s where
 lenL := H.lenL
 lenP := H.lenP
 pg := H.pg
 bd v := by
  have := H.bd v
  have e : B * ((r * ar.length + (k + 1) : Nat) : Int) = B * ((r * ar.length + k : Nat) : Int) + B := by
   rw [show r * ar.length + (k + 1) = (r * ar.length + k) + 1 by omega, Int.natCast_add, Int.mul_add]; simp
  omega
 mon := H.mon
 low := H.low
 sat j h h1 h2 h3 := by
  by_cases e : j = k
  ·subst e; omega
  ·rw [sig_next e] at h1 h2; exact H.sat j h h1 h2 h3
 prd := H.prd
 pos := H.pos
 tm v := by have := H.tm v; omega
 chg := H.chg
end Go.Proofs.YtfchdbghjeophaaDoor

/- Longest paths: a change; rounds; the end; the cycle. -/
namespace Go.Proofs.YtfchdbghjeophaaDoor
set_option linter.unusedVariables false
set_option linter.unusedSimpArgs false
theorem cAt_put (L : List Int) (i x v : Int) : cAt (L.set i.toNat x) v = if v.toNat = i.toNat ∧ i.toNat < L.length then x else cAt L v := by
 unfold cAt
 rw [List.getD_eq_getElem?_getD, List.getD_eq_getElem?_getD, List.getElem?_set]
 by_cases h : i.toNat = v.toNat
 ·rw [if_pos h]
  by_cases h2 : i.toNat < L.length
  ·rw [if_pos h2, if_pos ⟨h.symm, h2⟩]; rfl
  ·rw [if_neg h2, if_neg (fun q => h2 q.2), List.getElem?_eq_none (by omega)]
 ·rw [if_neg h, if_neg (fun q => h q.1.symm)]
theorem cAt_nat (L : List Int) {u v : Int} (h : u.toNat = v.toNat) : cAt L u = cAt L v := by unfold cAt; rw [h]
theorem arcP_put {ar : List Ac} {P : List Int} {i : Int} {k : Nat} {v : Int} (h0 : 0 ≤ i) (h1 : i < (P.length : Int)) (h2 : 0 ≤ v) (hk : k < ar.length) : arcP ar (P.set i.toNat (k : Int)) v = if v = i then ar[k] else arcP ar P v := by
 unfold arcP
 rw [cAt_set h0 h1 h2]
 by_cases h : v = i
 ·rw [if_pos h, if_pos h, Int.toNat_natCast, List.getD_eq_getElem?_getD, List.getElem?_eq_getElem hk]; rfl
 ·rw [if_neg h, if_neg h]
section
variable {ar : List Ac} {m : Nat} {B : Int} {L0 : List Int} {r k : Nat} {t : Int → Nat} {s : LgS}
theorem LgI.step (H : LgI ar m B L0 r k t s) (hB : 0 ≤ B) (hk : k < ar.length) (hO : ∀ a ∈ ar, OkA m B a) (h1 : cAt s.L ar[k].fr > -549755813888) (h2 : cAt s.L ar[k].fr + ar[k].ln > cAt s.L ar[k].tv) :
  LgI ar m B L0 r (k + 1) (fun v => if v = ar[k].tv then r * ar.length + k + 1 else t v) ⟨s.L.set ar[k].tv.toNat (cAt s.L ar[k].fr + ar[k].ln), s.P.set ar[k].tv.toNat (k : Int), ar[k].tv⟩ := by
 have hlL := H.lenL
 have hlP := H.lenP
 have ho := hO ar[k] (List.getElem_mem hk)
 have o1 := ho.f0
 have o2 := ho.f1
 have o3 := ho.t0
 have o4 := ho.t1
 have o5 := ho.ne
 have o6 := ho.l1
 have hx : ar[k] ∈ ar := List.getElem_mem hk
 have hsat := H.sat k hk
 have hset : ∀ v, 0 ≤ v → cAt (s.L.set ar[k].tv.toNat (cAt s.L ar[k].fr + ar[k].ln)) v = if v = ar[k].tv then cAt s.L ar[k].fr + ar[k].ln else cAt s.L v := fun v hv => cAt_set o3 (by omega) hv
 have hmono : ∀ v, cAt s.L v ≤ cAt (s.L.set ar[k].tv.toNat (cAt s.L ar[k].fr + ar[k].ln)) v := fun v => by
  rw [cAt_put]
  split
  ·rename_i e
   rw [cAt_nat s.L e.1]; omega
  ·omega
 have hpset : ∀ v, 0 ≤ v → arcP ar (s.P.set ar[k].tv.toNat (k : Int)) v = if v = ar[k].tv then ar[k] else arcP ar s.P v := fun v hv => arcP_put o3 (by omega) hv hk
 have htm := H.tm
 have hold : ∀ v, 0 ≤ v → v < (m : Int) → 0 < t v → cAt s.L v ≤ cAt s.L (arcP ar s.P v).fr + (arcP ar s.P v).ln := fun v a b c => (H.prd v a b c).2.1
 refine ⟨by simpa using hlL, by simpa using hlP, fun v => ?_, fun v => ?_, fun v => ?_, fun f hf hf0 v v0 v1 => ?_, fun j hj q1 q2 q3 => ?_, fun v v0 v1 hv => ?_, fun p w hp hw hc => ?_, fun v => ?_, ?_⟩
 ·simp only
  rw [cAt_put]
  split
  ·omega
  ·exact H.pg v
 ·have hb := H.bd v
  have hbf := H.bd ar[k].fr
  have e : B * ((r * ar.length + (k + 1) : Nat) : Int) = B * ((r * ar.length + k : Nat) : Int) + B := by
   rw [show r * ar.length + (k + 1) = (r * ar.length + k) + 1 by omega, Int.natCast_add, Int.mul_add]; simp
  simp only
  rw [cAt_put]
  have ht := H.bd ar[k].tv
  split <;> omega
 ·exact Int.le_trans (H.mon v) (hmono v)
 ·simp only
  rw [hset v v0]
  have l1 := H.low f hf hf0
  split
  ·rename_i e
   rw [e]
   have := hf _ hx
   have := l1 ar[k].fr o1 o2
   omega
  ·exact l1 v v0 v1
 ·simp only at q1 q2 q3 ⊢
  by_cases e : j = k
  ·subst e
   rw [hset _ o1, if_neg o5, hset _ o3, if_pos rfl]
   omega
  ·rw [sig_next e] at q1 q2
   have hsl := sig_le (n := ar.length) (r := r) (k := k) hj
   by_cases e2 : ar[j].fr = ar[k].tv
   ·rw [if_pos e2] at q2; omega
   ·rw [if_neg e2] at q2
    have hj0 := (hO ar[j] (List.getElem_mem hj)).f0
    rw [hset _ hj0, if_neg e2] at q3 ⊢
    have := hmono ar[j].tv
    have := H.sat j hj q1 q2 q3
    omega
 ·simp only at hv ⊢
  rw [hpset v v0]
  by_cases e : v = ar[k].tv
  ·rw [if_pos e] at hv
   rw [if_pos e, if_pos e, hset v v0, if_pos e, hset _ o1, if_neg o5, if_neg o5]
   refine ⟨⟨hx, e.symm⟩, Int.le_refl _, ?_⟩
   rcases Nat.eq_zero_or_pos r with rfl | hr
   ·simp; omega
   ·have hw := sig_was (n := ar.length) (k := k) hr
    rcases Nat.lt_or_ge (t ar[k].fr) (sig ar.length r k k) with h3 | h3
    ·have := hsat (by omega) h3 h1
     omega
    ·omega
  ·rw [if_neg e] at hv
   rw [if_neg e, if_neg e, hset v v0, if_neg e]
   obtain ⟨a1, a2, a3⟩ := H.prd v v0 v1 hv
   have := hmono (arcP ar s.P v).fr
   refine ⟨a1, by omega, ?_⟩
   have := htm (arcP ar s.P v).fr
   split <;> omega
 ·simp only at hc ⊢
  by_cases hex : ∃ i, i < p ∧ w i = ar[k].tv
  ·have key : ∀ i, i ≤ p → cAt s.L (w 0) - cAt s.L (w i) ≤ sumW ar (s.P.set ar[k].tv.toNat (k : Int)) w i ∧ ((∃ j, j < i ∧ w j = ar[k].tv) → cAt s.L (w 0) - cAt s.L (w i) < sumW ar (s.P.set ar[k].tv.toNat (k : Int)) w i) := by
    intro i
    induction i with
    | zero => intro _; exact ⟨by simp [sumW], fun ⟨j, hj, _⟩ => by omega⟩
    | succ i ih =>
     intro hi
     obtain ⟨ih1, ih2⟩ := ih (by omega)
     obtain ⟨⟨w0, w1⟩, ht, hfr⟩ := hc i (by omega)
     rw [sumW]
     rw [hpset _ w0] at hfr ⊢
     by_cases e : w i = ar[k].tv
     ·rw [if_pos e] at hfr
      rw [if_pos e, ← hfr]
      rw [e] at ih1
      exact ⟨by omega, fun _ => by omega⟩
     ·rw [if_neg e] at hfr ht
      rw [if_neg e]
      have := hold (w i) w0 w1 ht
      rw [hfr] at this
      refine ⟨by omega, fun ⟨j, hj, hj2⟩ => ?_⟩
      have : j < i := by
       rcases Nat.lt_or_ge j i with h | h
       ·exact h
       ·obtain rfl : j = i := by omega
        exact absurd hj2 e
      have := ih2 ⟨j, this, hj2⟩
      omega
   have := (key p (Nat.le_refl _)).2 hex
   rw [hw] at this
   omega
  ·have hno : ∀ i, i < p → w i ≠ ar[k].tv := fun i hi e => hex ⟨i, hi, e⟩
   have heq : ∀ i, i ≤ p → sumW ar (s.P.set ar[k].tv.toNat (k : Int)) w i = sumW ar s.P w i := by
    intro i
    induction i with
    | zero => intro _; rfl
    | succ i ih =>
     intro hi
     have w0 := (hc i (by omega)).1.1
     rw [sumW, sumW, ih (by omega), hpset _ w0, if_neg (hno i (by omega))]
   rw [heq p (Nat.le_refl _)]
   refine H.pos p w hp hw fun i hi => ?_
   obtain ⟨a1, a2, a3⟩ := hc i hi
   rw [if_neg (hno i hi)] at a2
   rw [hpset _ a1.1, if_neg (hno i hi)] at a3
   exact ⟨a1, a2, a3⟩
 ·have := htm v
  split <;> omega
 ·refine .inr ⟨⟨o3, o4⟩, ?_⟩
  rw [if_pos rfl]; omega
theorem LgI.one (H : LgI ar m B L0 r k t s) (hB : 0 ≤ B) (hk : k < ar.length) (hO : ∀ a ∈ ar, OkA m B a) : ∃ t', LgI ar m B L0 r (k + 1) t' (rlx k ar[k] s) := by
 unfold rlx
 split
 ·rename_i h
  exact ⟨_, H.step hB hk hO h.1 h.2⟩
 ·rename_i h
  exact ⟨t, H.skip hB hk h⟩
theorem rndA_at {k : Nat} (hk : k < ar.length) (s : LgS) : rndA (ar.drop k) k s = rndA (ar.drop (k + 1)) (k + 1) (rlx k ar[k] s) := by
 rw [List.drop_eq_getElem_cons hk, rndA]
theorem LgI.round : ∀ (d k : Nat) (t : Int → Nat) (s : LgS), d + k = ar.length → LgI ar m B L0 r k t s → 0 ≤ B → (∀ a ∈ ar, OkA m B a) → ∃ t', LgI ar m B L0 r ar.length t' (rndA (ar.drop k) k s)
 | 0, k, t, s, hd, H, _, _ => by
  obtain rfl : k = ar.length := by omega
  rw [List.drop_length]
  exact ⟨t, H⟩
 | d + 1, k, t, s, hd, H, hB, hO => by
  obtain ⟨t', H'⟩ := H.one hB (by omega) hO
  rw [rndA_at (by omega)]
  exact LgI.round d (k + 1) t' _ (by omega) H' hB hO
theorem LgI.turn (H : LgI ar m B L0 r ar.length t s) : LgI ar m B L0 (r + 1) 0 t ⟨s.L, s.P, -1⟩ := by
 have e : (r + 1) * ar.length = r * ar.length + ar.length := by simp [Nat.add_mul]
 refine ⟨H.lenL, H.lenP, H.pg, fun v => ?_, H.mon, H.low, fun j hj h1 h2 h3 => ?_, H.prd, H.pos, fun v => ?_, .inl ⟨rfl, fun v => ?_⟩⟩
 ·rw [show (r + 1) * ar.length + 0 = r * ar.length + ar.length by omega]; exact H.bd v
 ·rw [sig_turn hj] at h1 h2; exact H.sat j hj h1 h2 h3
 ·have := H.tm v; omega
 ·have := H.tm v; omega
theorem LgI.init (hm : L0.length = m) (hb : ∀ v, -1099511627776 ≤ cAt L0 v ∧ cAt L0 v ≤ 0) : LgI ar m B L0 0 0 (fun _ => 0) ⟨L0, List.replicate m 0, -1⟩ := by
 have hz : ∀ v, cAt (List.replicate m (0 : Int)) v = 0 := fun v => by
  unfold cAt
  rw [List.getD_eq_getElem?_getD, List.getElem?_replicate]
  split <;> rfl
 refine ⟨hm, by simp, fun v => by rw [hz]; omega, fun v => by simpa using hb v, fun v => Int.le_refl _, fun f _ h v h0 h1 => h v h0 h1, fun j hj h1 => ?_, fun v _ _ h => absurd h (by simp), fun p w hp hw hc => absurd (hc 0 hp).2.1 (by simp), fun v => by simp, .inl ⟨rfl, fun v => by simp⟩⟩
 exact absurd h1 (by unfold sig; simp)
theorem lgR_ok (hB : 0 ≤ B) (hO : ∀ a ∈ ar, OkA m B a) : ∀ (R r : Nat) (t : Int → Nat) (s : LgS), LgI ar m B L0 r 0 t ⟨s.L, s.P, -1⟩ →
  ((lgR ar R s).2 = true → ∃ q t', q < r + R ∧ LgI ar m B L0 q ar.length t' (lgR ar R s).1 ∧ ∀ a ∈ ar, cAt (lgR ar R s).1.L a.fr > -549755813888 → cAt (lgR ar R s).1.L a.fr + a.ln ≤ cAt (lgR ar R s).1.L a.tv) ∧
  ((lgR ar R s).2 = false → 0 < R → ∃ t', LgI ar m B L0 (r + R - 1) ar.length t' (lgR ar R s).1 ∧ ¬ (lgR ar R s).1.ch < 0)
 | 0, r, t, s, H => ⟨fun h => by simp [lgR] at h, fun _ h => by omega⟩
 | R + 1, r, t, s, H => by
  obtain ⟨t', H'⟩ := LgI.round ar.length 0 t _ (by omega) H hB hO
  rw [List.drop_zero] at H'
  rw [lgR]
  by_cases hc : (rndA ar 0 ⟨s.L, s.P, -1⟩).ch < 0
  ·rw [if_pos hc]
   refine ⟨fun _ => ⟨r, t', by omega, H', fun a ha hf => ?_⟩, fun h => by cases h⟩
   obtain ⟨j, hj, rfl⟩ := List.getElem_of_mem ha
   have h2 := H'.chg
   rcases h2 with ⟨_, h2⟩ | ⟨⟨h2, _⟩, _⟩
   ·have h3 := h2 ar[j].fr
    have h4 : sig ar.length r ar.length j = r * ar.length + j + 1 := by unfold sig; rw [if_pos hj]
    exact H'.sat j hj (by omega) (by omega) hf
   ·omega
  ·rw [if_neg hc]
   obtain ⟨g1, g2⟩ := lgR_ok hB hO R (r + 1) t' (rndA ar 0 ⟨s.L, s.P, -1⟩) H'.turn
   refine ⟨fun h => ?_, fun h _ => ?_⟩
   ·obtain ⟨q, t2, hq, a1, a2⟩ := g1 h
    exact ⟨q, t2, by omega, a1, a2⟩
   ·cases R with
    | zero => exact ⟨t', H', hc⟩
    | succ R =>
     obtain ⟨t2, a1, a2⟩ := g2 h (by omega)
     exact ⟨t2, by rw [show r + (R + 1 + 1) - 1 = r + 1 + (R + 1) - 1 by omega]; exact a1, a2⟩
end
end Go.Proofs.YtfchdbghjeophaaDoor

/- Longest paths: the cycle. -/
namespace Go.Proofs.YtfchdbghjeophaaDoor
set_option linter.unusedVariables false
theorem pigeon : ∀ (m : Nat) (f : Nat → Int), (∀ i, i ≤ m → 0 ≤ f i ∧ f i < (m : Int)) → ∃ i j, i < j ∧ j ≤ m ∧ f i = f j
 | 0, f, h => by have := h 0 (Nat.le_refl _); omega
 | m + 1, f, h => by
  by_cases hex : ∃ i, i ≤ m ∧ f i = f (m + 1)
  ·obtain ⟨i, hi, e⟩ := hex
   exact ⟨i, m + 1, by omega, Nat.le_refl _, e⟩
  ·have hno : ∀ i, i ≤ m → f i ≠ f (m + 1) := fun i hi e => hex ⟨i, hi, e⟩
   obtain ⟨i, j, hij, hj, e⟩ := pigeon m (fun i => if f i = (m : Int) then f (m + 1) else f i) fun i hi => by
    have h1 := h i (by omega)
    have h2 := h (m + 1) (Nat.le_refl _)
    have h3 := hno i hi
    split <;> omega
   refine ⟨i, j, hij, by omega, ?_⟩
   have h3 := hno i (by omega)
   have h4 := hno j hj
   split at e
   ·split at e
    ·omega
    ·exact absurd e.symm h4
   ·split at e
    ·exact absurd e h3
    ·exact e
theorem bkN_add (ar : List Ac) (P : List Int) (v : Int) (i : Nat) : ∀ j, bkN ar P (i + j) v = bkN ar P j (bkN ar P i v)
 | 0 => rfl
 | j + 1 => by rw [← Nat.add_assoc, bkN, bkN, bkN_add ar P v i j]
def frs (ar : List Ac) (P : List Int) (c : Int) : Nat → Nat → Nat
 | 0, i => i
 | f + 1, i => if bkN ar P i c = c then i else frs ar P c f (i + 1)
theorem frs_ok {ar : List Ac} {P : List Int} {c : Int} : ∀ (f i q : Nat), i ≤ q → q ≤ i + f → bkN ar P q c = c → bkN ar P (frs ar P c f i) c = c ∧ i ≤ frs ar P c f i ∧ frs ar P c f i ≤ q ∧ ∀ j, i ≤ j → j < frs ar P c f i → bkN ar P j c ≠ c
 | 0, i, q, h1, h2, h3 => by
  obtain rfl : q = i := by omega
  exact ⟨h3, Nat.le_refl _, Nat.le_refl _, fun j a b => by simp only [frs] at b; omega⟩
 | f + 1, i, q, h1, h2, h3 => by
  unfold frs
  split
  ·rename_i h
   exact ⟨h, Nat.le_refl _, h1, fun j a b => by omega⟩
  ·rename_i h
   have hq : i ≠ q := fun e => h (by rw [e]; exact h3)
   obtain ⟨a1, a2, a3, a4⟩ := frs_ok f (i + 1) q (by omega) (by omega) h3
   refine ⟨a1, by omega, a3, fun j b1 b2 => ?_⟩
   by_cases e : j = i
   ·rw [e]; exact h
   ·exact a4 j (by omega) b2
section
variable {ar : List Ac} {m : Nat} {B : Int} {L0 : List Int} {r k : Nat} {t : Int → Nat} {s : LgS}
theorem bk_up (H : LgI ar m B L0 r k t s) (hO : ∀ a ∈ ar, OkA m B a) {c : Int} (h0 : 0 ≤ c ∧ c < (m : Int)) (R : Nat) (hc : R * ar.length < t c) : ∀ j, j ≤ R → (0 ≤ bkN ar s.P j c ∧ bkN ar s.P j c < (m : Int)) ∧ (R - j) * ar.length < t (bkN ar s.P j c)
 | 0, _ => ⟨h0, hc⟩
 | j + 1, hj => by
  obtain ⟨h1, h2⟩ := bk_up H hO h0 R hc j (by omega)
  obtain ⟨⟨a1, a2⟩, a3, a4⟩ := H.prd _ h1.1 h1.2 (by omega)
  have o := hO _ a1
  refine ⟨⟨o.f0, o.f1⟩, ?_⟩
  rw [bkN]
  have e : (R - j) * ar.length = (R - (j + 1)) * ar.length + ar.length := by
   obtain ⟨d, hd⟩ : ∃ d, R - j = d + 1 := ⟨R - j - 1, by omega⟩
   rw [hd, show R - (j + 1) = d by omega]; simp [Nat.add_mul]
  omega
def cycL (ar : List Ac) (P : List Int) (c : Int) (p : Nat) : List Ac := (List.range p).map fun i => arcP ar P (bkN ar P i c)
structure CycOk (ar : List Ac) (m : Nat) (P : List Int) (c : Int) (p : Nat) : Prop where
 p0 : 0 < p
 pm : p ≤ m
 ret : bkN ar P p c = c
 fst : ∀ j, 0 < j → j < p → bkN ar P j c ≠ c
 inn : ∀ i, i < p → (0 ≤ bkN ar P i c ∧ bkN ar P i c < (m : Int)) ∧ arcP ar P (bkN ar P i c) ∈ ar ∧ (arcP ar P (bkN ar P i c)).tv = bkN ar P i c
 pos : 0 < sumW ar P (fun i => bkN ar P i c) p
theorem cyc_ok (H : LgI ar m B L0 m ar.length t s) (hO : ∀ a ∈ ar, OkA m B a) (hch : ¬ s.ch < 0) : CycOk ar m s.P (bkN ar s.P m s.ch) (frs ar s.P (bkN ar s.P m s.ch) m 1) := by
 have hc := H.chg
 rcases hc with ⟨h, _⟩ | ⟨h0, hc⟩
 ·omega
 have up := bk_up H hO h0 m hc
 obtain ⟨i, j, hij, hj, e⟩ := pigeon m (fun i => bkN ar s.P i s.ch) fun i hi => (up i hi).1
 have per : ∀ q, i ≤ q → bkN ar s.P (q + (j - i)) s.ch = bkN ar s.P q s.ch := fun q hq => by
  rw [show q + (j - i) = j + (q - i) by omega, bkN_add, ← e, ← bkN_add, show i + (q - i) = q by omega]
 have hret : bkN ar s.P (j - i) (bkN ar s.P m s.ch) = bkN ar s.P m s.ch := by rw [← bkN_add, per m (by omega)]
 obtain ⟨a1, a2, a3, a4⟩ := frs_ok (ar := ar) (P := s.P) (c := bkN ar s.P m s.ch) m 1 (j - i) (by omega) (by omega) hret
 have upd : ∀ q, q < frs ar s.P (bkN ar s.P m s.ch) m 1 → (0 ≤ bkN ar s.P q (bkN ar s.P m s.ch) ∧ bkN ar s.P q (bkN ar s.P m s.ch) < (m : Int)) ∧ 0 < t (bkN ar s.P q (bkN ar s.P m s.ch)) := fun q hq => by
  rw [← bkN_add]
  have := per (m + q - (j - i)) (by omega)
  rw [show m + q - (j - i) + (j - i) = m + q by omega] at this
  rw [this]
  obtain ⟨b1, b2⟩ := up (m + q - (j - i)) (by omega)
  exact ⟨b1, by omega⟩
 refine ⟨by omega, by omega, a1, fun q q0 q1 => a4 q (by omega) q1, fun q hq => ?_, ?_⟩
 ·obtain ⟨u1, u2⟩ := upd q hq
  exact ⟨u1, (H.prd _ u1.1 u1.2 u2).1⟩
 ·refine H.pos _ _ (by omega) (by rw [a1]; rfl) fun q hq => ?_
  obtain ⟨u1, u2⟩ := upd q hq
  exact ⟨u1, u2, rfl⟩
end
end Go.Proofs.YtfchdbghjeophaaDoor

/- Repeat, for the numbers of lines that a net may have. -/
namespace Go.Proofs.YtfchdbghjeophaaDoor
open Go.RowKit
set_option linter.unusedVariables false
abbrev farM : MV := I64 (-1099511627776)
theorem rep_1 : runFf (orL tA mfW 4000000 3) noI 4000000 mfW_l42 [.sl [farM], I64 1] [] = some (.arr 0 0 1 0, [⟨0, false, 1, [farM]⟩]) := by kernel_rfl
theorem rep_2 : runFf (orL tA mfW 4000000 3) noI 4000000 mfW_l42 [.sl [farM], I64 2] [] = some (.arr 0 0 2 0, [⟨0, false, 1, [farM, farM]⟩]) := by kernel_rfl
theorem rep_3 : runFf (orL tA mfW 4000000 3) noI 4000000 mfW_l42 [.sl [farM], I64 3] [] = some (.arr 0 0 3 0, [⟨0, false, 1, [farM, farM, farM]⟩]) := by kernel_rfl
theorem rep_4 : runFf (orL tA mfW 4000000 3) noI 4000000 mfW_l42 [.sl [farM], I64 4] [] = some (.arr 0 0 4 0, [⟨0, false, 1, [farM, farM, farM, farM]⟩]) := by kernel_rfl
theorem rep_5 : runFf (orL tA mfW 4000000 3) noI 4000000 mfW_l42 [.sl [farM], I64 5] [] = some (.arr 0 0 5 0, [⟨0, false, 1, [farM, farM, farM, farM, farM]⟩]) := by kernel_rfl
theorem rep_6 : runFf (orL tA mfW 4000000 3) noI 4000000 mfW_l42 [.sl [farM], I64 6] [] = some (.arr 0 0 6 0, [⟨0, false, 1, [farM, farM, farM, farM, farM, farM]⟩]) := by kernel_rfl
theorem rep_7 : runFf (orL tA mfW 4000000 3) noI 4000000 mfW_l42 [.sl [farM], I64 7] [] = some (.arr 0 0 7 0, [⟨0, false, 1, [farM, farM, farM, farM, farM, farM, farM]⟩]) := by kernel_rfl
theorem rep_8 : runFf (orL tA mfW 4000000 3) noI 4000000 mfW_l42 [.sl [farM], I64 8] [] = some (.arr 0 0 8 0, [⟨0, false, 1, [farM, farM, farM, farM, farM, farM, farM, farM]⟩]) := by kernel_rfl
theorem ltL_rep (n : Nat) : ∀ m : Nat, ltL n (List.replicate m farM) = true
 | 0 => rfl
 | m + 1 => by rw [List.replicate_succ]; simp [ltL, MV.lt, ltL_rep n m]
theorem pureL_rep : ∀ m : Nat, pureL (List.replicate m farM) = true
 | 0 => rfl
 | m + 1 => by rw [List.replicate_succ]; simp [pureL, MV.pure, pureL_rep m]
theorem Repeat_c (k m : Nat) (h1 : 0 < m) (h8 : m ≤ 8) (h : MHeap) {v : MV} (hv : frz 0 [] h 8 v = some (.sl [farM])) : orA (k + 4) 42 [v, I64 (m : Int)] h = some (.arr h.length 0 m 0, h ++ [⟨0, false, 1, List.replicate m farM⟩]) := by
 have hz : runZ MT (orA (3 + k)) (itA (3 + k)) 4000000 42 [.sl [farM], I64 (m : Int)] [] = some (.arr 0 0 m 0, [⟨0, false, 1, List.replicate m farM⟩]) := by
  obtain rfl | rfl | rfl | rfl | rfl | rfl | rfl | rfl : m = 1 ∨ m = 2 ∨ m = 3 ∨ m = 4 ∨ m = 5 ∨ m = 6 ∨ m = 7 ∨ m = 8 := by omega
  ·exact runL_up mfW_ok k (m := mfW_l42) (by kernel_rfl) rep_1 _
  ·exact runL_up mfW_ok k (m := mfW_l42) (by kernel_rfl) rep_2 _
  ·exact runL_up mfW_ok k (m := mfW_l42) (by kernel_rfl) rep_3 _
  ·exact runL_up mfW_ok k (m := mfW_l42) (by kernel_rfl) rep_4 _
  ·exact runL_up mfW_ok k (m := mfW_l42) (by kernel_rfl) rep_5 _
  ·exact runL_up mfW_ok k (m := mfW_l42) (by kernel_rfl) rep_6 _
  ·exact runL_up mfW_ok k (m := mfW_l42) (by kernel_rfl) rep_7 _
  ·exact runL_up mfW_ok k (m := mfW_l42) (by kernel_rfl) rep_8 _
 rw [Nat.add_comm 3 k] at hz
 have := callA (k := k + 3) (h := h) (args := [v, I64 (m : Int)]) (args' := [.sl [farM], I64 (m : Int)]) (by simp [List.mapM_cons, hv, frz_lt (m := I64 (m : Int)) rfl]) rfl hz rfl (by simp [okH, ltL_rep, pureL_rep])
 simpa [shV, sh1] using this
end Go.Proofs.YtfchdbghjeophaaDoor

/- Contracts: the piece of a line at a position; quotients rounded down and up. -/
namespace Go.Proofs.YtfchdbghjeophaaDoor
open Go.RowKit
set_option linter.unusedVariables false
end Go.Proofs.YtfchdbghjeophaaDoor

/- Contracts: the piece of a line; rounding. -/
namespace Go.Proofs.YtfchdbghjeophaaDoor
open Go.RowKit
set_option linter.unusedVariables false
set_option linter.unusedSimpArgs false
theorem mul_bd {a b A B : Int} (h1 : -A ≤ a) (h2 : a ≤ A) (h3 : -B ≤ b) (h4 : b ≤ B) : -(A * B) ≤ a * b ∧ a * b ≤ A * B := by
 have p1 := Int.mul_nonneg (a := A - a) (b := B + b) (by omega) (by omega)
 have p2 := Int.mul_nonneg (a := A + a) (b := B - b) (by omega) (by omega)
 have p3 := Int.mul_nonneg (a := A - a) (b := B - b) (by omega) (by omega)
 have p4 := Int.mul_nonneg (a := A + a) (b := B + b) (by omega) (by omega)
 simp only [Int.sub_mul, Int.mul_sub, Int.add_mul, Int.mul_add] at p1 p2 p3 p4
 omega
theorem mul_w {a b : Int} (A B : Int) (h1 : -A ≤ a) (h2 : a ≤ A) (h3 : -B ≤ b) (h4 : b ≤ B) (h5 : A * B ≤ 1000000000000000000) : IntKind.i64.wrap (a * b) = a * b := by
 have := mul_bd h1 h2 h3 h4
 exact wrap_of (by omega) (by omega)
end Go.Proofs.YtfchdbghjeophaaDoor

/- Contracts: the arcs of a flow, all lines, the value of a flow. -/
namespace Go.Proofs.YtfchdbghjeophaaDoor
open Go.RowKit
set_option linter.unusedVariables false
set_option linter.unusedSimpArgs false
abbrev encA (a : Ac) : MV := .agg [I64 a.fr, I64 a.tv, I64 a.ln, I64 a.cr, I64 a.sg]
theorem ltL_A (n : Nat) (xs : List Ac) : ltL n (xs.map encA) = true := ltL_lits (fun _ => rfl) xs
theorem pureL_A (xs : List Ac) : pureL (xs.map encA) = true := pureL_lits (fun _ => rfl) xs
def arcF (i : Nat) (x : Cr) (f : Int) : List Ac := if f < x.wt then [⟨x.ti, x.ln, x.df, (i : Int), 1⟩] else []
def arcB (i : Nat) (x : Cr) (f : Int) : List Ac := if 0 - x.wt < f then [⟨x.ln, x.ti, 0 - x.df, (i : Int), -1⟩] else []
def arcsU (cs : List Cr) (fl : List Int) : Nat → List Ac
 | 0 => []
 | i + 1 => arcsU cs fl i ++ (arcF i (cs.getD i default) (cAt fl i) ++ arcB i (cs.getD i default) (cAt fl i))
theorem arcsU_next {cs : List Cr} {fl : List Int} {i : Nat} {x : Cr} (h : cs[i]? = some x) {f : Int} (hf : cAt fl i = f) : arcsU cs fl (i + 1) = arcsU cs fl i ++ (arcF i x f ++ arcB i x f) := by
 rw [arcsU, hf, List.getD_eq_getElem?_getD, h]; rfl
theorem arcF_y {i : Nat} {x : Cr} {f : Int} (h : f < x.wt) : arcF i x f = [⟨x.ti, x.ln, x.df, (i : Int), 1⟩] := by unfold arcF; rw [if_pos h]
theorem arcF_n {i : Nat} {x : Cr} {f : Int} (h : ¬ f < x.wt) : arcF i x f = [] := by unfold arcF; rw [if_neg h]
theorem arcB_y {i : Nat} {x : Cr} {f : Int} (h : 0 - x.wt < f) : arcB i x f = [⟨x.ln, x.ti, 0 - x.df, (i : Int), -1⟩] := by unfold arcB; rw [if_pos h]
theorem arcB_n {i : Nat} {x : Cr} {f : Int} (h : ¬ 0 - x.wt < f) : arcB i x f = [] := by unfold arcB; rw [if_neg h]
theorem arcsU_len (cs : List Cr) (fl : List Int) : ∀ i, (arcsU cs fl i).length ≤ 2 * i
 | 0 => by simp [arcsU]
 | i + 1 => by
  have := arcsU_len cs fl i
  rw [arcsU]
  simp only [List.length_append]
  unfold arcF arcB
  split <;> split <;> simp <;> omega
abbrev arcH (n : Nt) (q : Nat) (rs : List MV) : MHeap := [⟨0, false, 2, [encN n]⟩, ⟨0, true, 5, []⟩, ⟨q, decide (q = 0), 5, rs⟩]
theorem mf_arcs : MT.mf 41 = some mfW_l41 := mfW_q41
set_option maxHeartbeats 2000000 in
theorem arcs_z (k : Nat) (n : Nt) (ok : OkN n) (fl : List Int) (hf : fl.length = n.cs.length) :
  runZ MT (orA k) (itA k) 4000000 41 [encN n, .sl (fl.map I64)] [] = some (.arr 0 0 (arcsU n.cs fl n.cs.length).length 0, [⟨0, decide ((arcsU n.cs fl n.cs.length).length = 0), 5, (arcsU n.cs fl n.cs.length).map encA⟩]) := by
 have hs2 : (MV.sl (n.cs.map encCr)).slen = some n.cs.length := by simp [MV.slen]
 have c16 := ok.c16
 refine runZ_of mf_arcs (by simp) ?_
 simp only [argsL]
 repeat (first | apply ef_seq | (apply ef_mv; exact rfl; exact rfl) | (apply ef_len; exact rfl; exact rfl; (assumption)) | (apply ef_ldp; exact rfl; exact rfl; (exact rfl); exact rfl; (exact rfl); (exact rfl)) | (apply ef_fap; exact rfl; exact rfl) | (apply ef_box; (iterate 4 exact rfl)) | (apply ef_nil0; exact rfl) | apply ef_nil | apply seqQ.normal | apply ef_block)
 refine ef_loopf (α := Nat × Nat × List MV) (fun p => p.1 ≤ n.cs.length ∧ p.2.1 = (arcsU n.cs fl p.1).length ∧ p.2.2 = (arcsU n.cs fl p.1).map encA) (fun p => [(12, I64 (p.1 : Int)), (5, .arr 2 0 p.2.1 p.2.1)]) [(11, I64 (n.cs.length : Int)), (10, .sl (n.cs.map encCr)), (1, .sl (fl.map I64))] (fun p => arcH n p.2.1 p.2.2) (fun p => n.cs.length - p.1) (0, 0, []) [12, 5] (fun _ => rfl) (by ((repeat (refine Hold.cons (by exact rfl) ?_)); exact Hold.nil)) (by ((repeat (refine Hold.cons (by exact rfl) ?_)); exact Hold.nil)) rfl rfl ⟨by omega, rfl, rfl⟩ (by simp; omega) ?_
 rintro ⟨i, q, rs⟩ ⟨hi, hq, hrs⟩
 try simp only at hi hq hrs ⊢
 have kl := arcsU_len n.cs fl i
 have hrl : rs.length = q := by rw [hrs, hq]; simp
 have hlr : ∀ j, ltL j rs = true := fun j => by rw [hrs]; exact ltL_A j _
 by_cases hlt : i < n.cs.length
 ·have e1 := at_map encCr n.cs i hlt
  have hat : n.cs[i]? = some n.cs[i] := List.getElem?_eq_getElem hlt
  have hx := ok.rg n.cs[i] (List.getElem_mem hlt)
  have e2 := cAt_at hf (i := (i : Int)) (by omega) (by omega)
  generalize n.cs[i] = x at e1 hat hx
  have HN := Lib.hid (arcsU_next (fl := fl) hat rfl)
  have w1 := hx.wt
  have w2 := hx.df
  generalize cAt fl i = f at e2 HN
  by_cases q1 : f < x.wt
  ·by_cases q2 : 0 - x.wt < f
   ·repeat (first | apply ef_seq | (apply ef_mv; exact rfl; exact rfl) | (apply ef_bin; (iterate 3 exact rfl); (exact cmp_t rfl (by first | exact rfl | (simp only [cmpP]; omega)))) | (apply ef_ldr; exact rfl; exact rfl; (first | exact rd_6 rfl rfl rfl rfl rfl rfl | exact rfl)) | (apply ef_ldp; exact rfl; exact rfl; (exact rfl); exact rfl; (exact rfl); (exact rfl)) | (apply ef_ias; (iterate 3 exact rfl); (omega); assumption; exact rfl) | (apply ef_fap; exact rfl; exact rfl) | (apply ef_new; exact rfl) | (apply ef_build; exact rfl; (repeat (apply XVs.cons; exact rfl)); exact XVs.nil; exact rfl; exact rfl) | (apply ef_bsl; exact rfl; (repeat (apply XVs.cons; exact rfl)); exact XVs.nil; exact rfl) | (apply ef_st; (iterate 6 exact rfl); (exact rfl); exact rfl) | apply ef_nil | apply seqQ.normal | apply ef_block | apply ef_skip | (apply ef_condt; exact rfl; (exact (rfl : true = true))))
    (apply ef_app; (· exact rfl); (· exact rfl); (· exact rfl); (· exact rfl); (· exact rfl); (· exact rfl); (· (simp [hrl])); (· exact rfl); (· (simp [hrl]; omega)); (· (exact rfl)); (· exact rfl))
    repeat (first | apply ef_seq | (apply ef_mv; exact rfl; exact rfl) | (apply ef_bin; (iterate 3 exact rfl); (exact cmp_t rfl (by first | exact rfl | (simp only [cmpP]; omega)))) | (apply ef_ldr; exact rfl; exact rfl; (exact rfl)) | (apply ef_ldp; exact rfl; exact rfl; (exact rfl); exact rfl; (exact rfl); (exact rfl)) | (apply ef_ias; (iterate 3 exact rfl); (omega); assumption; exact rfl) | (apply ef_fap; exact rfl; exact rfl) | (apply ef_neg; exact rfl; exact rfl; exact wrap_of (by omega) (by omega)) | (apply ef_build; exact rfl; (repeat (apply XVs.cons; exact rfl)); exact XVs.nil; exact rfl; exact rfl) | (apply ef_bsl; exact rfl; (repeat (apply XVs.cons; exact rfl)); exact XVs.nil; exact rfl) | apply ef_nil | apply seqQ.normal | (apply ef_condt; exact rfl; (exact (rfl : true = true))))
    (apply ef_app; (· exact rfl); (· exact rfl); (· exact rfl); (· exact rfl); (· exact rfl); (· exact rfl); (· (simp [hrl])); (· exact rfl); (· (simp [hrl]; omega)); (· (exact rfl)); (· exact rfl))
    repeat (first | (apply ef_mv; exact rfl; exact rfl) | (apply ef_bin; (iterate 3 exact rfl); (((with_reducible refine bin_add (wrap_of ?_ ?_)) <;> omega))) | apply ef_nil | apply seqQ.normal | apply blockQ.normal)
    (refine loopQ.normal _ _ ⟨(i + 1, q + 2, rs ++ [encA ⟨x.ti, x.ln, x.df, (i : Int), 1⟩] ++ [encA ⟨x.ln, x.ti, 0 - x.df, (i : Int), -1⟩]), ⟨hlt, by rw [HN.out, arcF_y q1, arcB_y q2, hq]; simp, by rw [HN.out, arcF_y q1, arcB_y q2, hrs]; simp⟩, (by first | (simp only; omega) | omega), ⟨by ((repeat (refine Hold.cons (by exact rfl) ?_)); exact Hold.nil), by ((repeat (refine Hold.cons (by exact rfl) ?_)); exact Hold.nil)⟩, .inr ⟨by ((repeat (refine hdl_cons rfl (by first | rfl | (simp [MV.lt, ltL, ltL_Ln, ltL_Cr, ltL_I, hlr, ltL_app2, splice, MV.cells])) ?_)); exact hdl_nil), by (simp [hltL, ltL, MV.lt, ltL, ltL_Ln, ltL_Cr, ltL_I, hlr, ltL_app2, splice, MV.cells])⟩, by exact rfl⟩)
   ·repeat (first | apply ef_seq | (apply ef_mv; exact rfl; exact rfl) | (apply ef_bin; (iterate 3 exact rfl); (exact cmp_t rfl (by first | exact rfl | (simp only [cmpP]; omega)))) | (apply ef_ldr; exact rfl; exact rfl; (first | exact rd_6 rfl rfl rfl rfl rfl rfl | exact rfl)) | (apply ef_ldp; exact rfl; exact rfl; (exact rfl); exact rfl; (exact rfl); (exact rfl)) | (apply ef_ias; (iterate 3 exact rfl); (omega); assumption; exact rfl) | (apply ef_fap; exact rfl; exact rfl) | (apply ef_new; exact rfl) | (apply ef_build; exact rfl; (repeat (apply XVs.cons; exact rfl)); exact XVs.nil; exact rfl; exact rfl) | (apply ef_bsl; exact rfl; (repeat (apply XVs.cons; exact rfl)); exact XVs.nil; exact rfl) | (apply ef_st; (iterate 6 exact rfl); (exact rfl); exact rfl) | apply ef_nil | apply seqQ.normal | apply ef_block | apply ef_skip | (apply ef_condt; exact rfl; (exact (rfl : true = true))))
    (apply ef_app; (· exact rfl); (· exact rfl); (· exact rfl); (· exact rfl); (· exact rfl); (· exact rfl); (· (simp [hrl])); (· exact rfl); (· (simp [hrl]; omega)); (· (exact rfl)); (· exact rfl))
    repeat (first | apply ef_seq | (apply ef_mv; exact rfl; exact rfl) | (apply ef_bin; (iterate 3 exact rfl); (first | exact cmp_f rfl (by simp only [cmpP]; omega) | ((with_reducible refine bin_add (wrap_of ?_ ?_)) <;> omega))) | (apply ef_ldr; exact rfl; exact rfl; (exact rfl)) | (apply ef_ldp; exact rfl; exact rfl; (exact rfl); exact rfl; (exact rfl); (exact rfl)) | (apply ef_ias; (iterate 3 exact rfl); (omega); assumption; exact rfl) | (apply ef_fap; exact rfl; exact rfl) | (apply ef_neg; exact rfl; exact rfl; exact wrap_of (by omega) (by omega)) | apply ef_nil | apply seqQ.normal | apply blockQ.normal | apply ef_skip | (apply ef_condf; exact rfl; (exact (rfl : false = false))))
    (refine loopQ.normal _ _ ⟨(i + 1, q + 1, rs ++ [encA ⟨x.ti, x.ln, x.df, (i : Int), 1⟩]), ⟨hlt, by rw [HN.out, arcF_y q1, arcB_n q2, hq]; simp, by rw [HN.out, arcF_y q1, arcB_n q2, hrs]; simp⟩, (by first | (simp only; omega) | omega), ⟨by ((repeat (refine Hold.cons (by exact rfl) ?_)); exact Hold.nil), by ((repeat (refine Hold.cons (by exact rfl) ?_)); exact Hold.nil)⟩, .inr ⟨by ((repeat (refine hdl_cons rfl (by first | rfl | (simp [MV.lt, ltL, ltL_Ln, ltL_Cr, ltL_I, hlr, ltL_app2, splice, MV.cells])) ?_)); exact hdl_nil), by (simp [hltL, ltL, MV.lt, ltL, ltL_Ln, ltL_Cr, ltL_I, hlr, ltL_app2, splice, MV.cells])⟩, by exact rfl⟩)
  ·by_cases q2 : 0 - x.wt < f
   ·repeat (first | apply ef_seq | (apply ef_mv; exact rfl; exact rfl) | (apply ef_bin; (iterate 3 exact rfl); (first | exact cmp_t rfl (by first | exact rfl | (simp only [cmpP]; omega)) | exact cmp_f rfl (by simp only [cmpP]; omega))) | (apply ef_ldr; exact rfl; exact rfl; (first | exact rd_6 rfl rfl rfl rfl rfl rfl | exact rfl)) | (apply ef_ldp; exact rfl; exact rfl; (exact rfl); exact rfl; (exact rfl); (exact rfl)) | (apply ef_ias; (iterate 3 exact rfl); (omega); assumption; exact rfl) | (apply ef_fap; exact rfl; exact rfl) | (apply ef_neg; exact rfl; exact rfl; exact wrap_of (by omega) (by omega)) | (apply ef_new; exact rfl) | (apply ef_build; exact rfl; (repeat (apply XVs.cons; exact rfl)); exact XVs.nil; exact rfl; exact rfl) | (apply ef_bsl; exact rfl; (repeat (apply XVs.cons; exact rfl)); exact XVs.nil; exact rfl) | (apply ef_st; (iterate 6 exact rfl); (exact rfl); exact rfl) | apply ef_nil | apply seqQ.normal | apply ef_block | apply ef_skip | (apply ef_condt; exact rfl; (exact (rfl : true = true))) | (apply ef_condf; exact rfl; (exact (rfl : false = false))))
    (apply ef_app; (· exact rfl); (· exact rfl); (· exact rfl); (· exact rfl); (· exact rfl); (· exact rfl); (· (simp [hrl])); (· exact rfl); (· (simp [hrl]; omega)); (· (exact rfl)); (· exact rfl))
    repeat (first | (apply ef_mv; exact rfl; exact rfl) | (apply ef_bin; (iterate 3 exact rfl); (((with_reducible refine bin_add (wrap_of ?_ ?_)) <;> omega))) | apply ef_nil | apply seqQ.normal | apply blockQ.normal)
    (refine loopQ.normal _ _ ⟨(i + 1, q + 1, rs ++ [encA ⟨x.ln, x.ti, 0 - x.df, (i : Int), -1⟩]), ⟨hlt, by rw [HN.out, arcF_n q1, arcB_y q2, hq]; simp, by rw [HN.out, arcF_n q1, arcB_y q2, hrs]; simp⟩, (by first | (simp only; omega) | omega), ⟨by ((repeat (refine Hold.cons (by exact rfl) ?_)); exact Hold.nil), by ((repeat (refine Hold.cons (by exact rfl) ?_)); exact Hold.nil)⟩, .inr ⟨by ((repeat (refine hdl_cons rfl (by first | rfl | (simp [MV.lt, ltL, ltL_Ln, ltL_Cr, ltL_I, hlr, ltL_app2, splice, MV.cells])) ?_)); exact hdl_nil), by (simp [hltL, ltL, MV.lt, ltL, ltL_Ln, ltL_Cr, ltL_I, hlr, ltL_app2, splice, MV.cells])⟩, by exact rfl⟩)
   ·omega
 ·obtain rfl : i = n.cs.length := by omega
  subst hq
  repeat (first | apply ef_seq | (apply ef_mv; exact rfl; exact rfl) | (apply ef_bin; (iterate 3 exact rfl); (exact cmp_f rfl (by simp only [cmpP]; omega))) | apply ef_nil | apply seqQ.normal | apply loopQ.exit | apply ef_ret | apply ef_exit | apply seqQ.exit | apply blockQ.here | (apply ef_condf; exact rfl; (exact (rfl : false = false))))
  (apply fin_arr; (· exact rfl); (· exact rfl); (· exact rfl); (· exact rfl); (· (show 0 + _ ≤ rs.length; omega)); (· (exact hlr 0)); (· (show (rs.drop 0).take _ = _; rw [List.drop_zero, List.take_of_length_le (by omega), hrs])); (· exact rfl); (· exact rfl); (· rfl))
theorem arcs_c (k : Nat) (n : Nt) (ok : OkN n) (fl : List Int) (hf : fl.length = n.cs.length) (h : MHeap) {v : MV} (hv : frz 0 [] h 8 v = some (.sl (fl.map I64))) :
  orA (k + 1) 41 [encN n, v] h = some (.arr h.length 0 (arcsU n.cs fl n.cs.length).length 0, h ++ [⟨0, decide ((arcsU n.cs fl n.cs.length).length = 0), 5, (arcsU n.cs fl n.cs.length).map encA⟩]) := by
 have := callA (k := k) (h := h) (args := [encN n, v]) (args' := [encN n, .sl (fl.map I64)]) (by simp [List.mapM_cons, hv, frz_lt (ltL_N n 0)]) rfl (arcs_z k n ok fl hf) rfl (by simp [okH, ltL_A, pureL_A])
 simpa [shV, sh1] using this
def upL : Nat → List Int
 | 0 => []
 | i + 1 => upL i ++ [(i : Int)]
theorem upL_len : ∀ i, (upL i).length = i
 | 0 => rfl
 | i + 1 => by rw [upL]; simp [upL_len i]
theorem mf_all : MT.mf 47 = some mfW_l47 := mfW_q47
theorem all_z (k : Nat) (n : Nt) (hn : n.ls.length ≤ 1000) :
  runZ MT (orA k) (itA k) 4000000 47 [encN n] [] = some (.arr 0 0 n.ls.length 0, [⟨0, decide (n.ls.length = 0), 1, (upL n.ls.length).map I64⟩]) := by
 have hs2 : (MV.sl (n.ls.map encLn)).slen = some n.ls.length := by simp [MV.slen]
 refine runZ_of mf_all (by simp) ?_
 simp only [argsL]
 repeat (first | apply ef_seq | (apply ef_mv; exact rfl; exact rfl) | (apply ef_len; exact rfl; exact rfl; (assumption)) | (apply ef_ldp; exact rfl; exact rfl; (exact rfl); exact rfl; (exact rfl); (exact rfl)) | (apply ef_fap; exact rfl; exact rfl) | (apply ef_box; (iterate 4 exact rfl)) | (apply ef_nil0; exact rfl) | apply ef_nil | apply seqQ.normal | apply ef_block)
 refine ef_loopf (α := Nat × List MV) (fun p => p.1 ≤ n.ls.length ∧ p.2 = (upL p.1).map I64) (fun p => [(9, I64 (p.1 : Int)), (3, .arr 2 0 p.1 p.1)]) [(8, I64 (n.ls.length : Int))] (fun p => [⟨0, false, 2, [encN n]⟩, ⟨0, true, 1, []⟩, ⟨p.1, decide (p.1 = 0), 1, p.2⟩]) (fun p => n.ls.length - p.1) (0, []) [9, 3] (fun _ => rfl) (by ((repeat (refine Hold.cons (by exact rfl) ?_)); exact Hold.nil)) (by ((repeat (refine Hold.cons (by exact rfl) ?_)); exact Hold.nil)) rfl rfl ⟨by omega, rfl⟩ (by simp; omega) ?_
 rintro ⟨i, rs⟩ ⟨hi, hrs⟩
 try simp only at hi hrs ⊢
 have hrl : rs.length = i := by rw [hrs]; simp [upL_len]
 have hlr : ∀ j, ltL j rs = true := fun j => by rw [hrs]; exact ltL_I j _
 by_cases hlt : i < n.ls.length
 ·repeat (first | apply ef_seq | (apply ef_mv; exact rfl; exact rfl) | (apply ef_bin; (iterate 3 exact rfl); (exact cmp_t rfl (by first | exact rfl | (simp only [cmpP]; omega)))) | (apply ef_bsl; exact rfl; (repeat (apply XVs.cons; exact rfl)); exact XVs.nil; exact rfl) | apply ef_nil | apply seqQ.normal | apply ef_block | apply ef_skip | (apply ef_condt; exact rfl; (exact (rfl : true = true))))
  (apply ef_app; (· exact rfl); (· exact rfl); (· exact rfl); (· exact rfl); (· exact rfl); (· exact rfl); (· (simp [hrl])); (· exact rfl); (· (simp [hrl]; omega)); (· (exact rfl)); (· exact rfl))
  repeat (first | (apply ef_mv; exact rfl; exact rfl) | (apply ef_bin; (iterate 3 exact rfl); (((with_reducible refine bin_add (wrap_of ?_ ?_)) <;> omega))) | apply ef_nil | apply seqQ.normal | apply blockQ.normal)
  (refine loopQ.normal _ _ ⟨(i + 1, rs ++ [I64 (i : Int)]), ⟨hlt, by rw [hrs, upL]; simp⟩, (by first | (simp only; omega) | omega), ⟨by ((repeat (refine Hold.cons (by exact rfl) ?_)); exact Hold.nil), by ((repeat (refine Hold.cons (by exact rfl) ?_)); exact Hold.nil)⟩, .inr ⟨by ((repeat (refine hdl_cons rfl (by first | rfl | (simp [MV.lt, ltL, ltL_Ln, ltL_Cr, ltL_I, hlr, ltL_app2, splice, MV.cells])) ?_)); exact hdl_nil), by (simp [hltL, ltL, MV.lt, ltL, ltL_Ln, ltL_Cr, ltL_I, hlr, ltL_app2, splice, MV.cells])⟩, by exact rfl⟩)
 ·obtain rfl : i = n.ls.length := by omega
  repeat (first | apply ef_seq | (apply ef_mv; exact rfl; exact rfl) | (apply ef_bin; (iterate 3 exact rfl); (exact cmp_f rfl (by simp only [cmpP]; omega))) | apply ef_nil | apply seqQ.normal | apply loopQ.exit | apply ef_ret | apply ef_exit | apply seqQ.exit | apply blockQ.here | (apply ef_condf; exact rfl; (exact (rfl : false = false))))
  (apply fin_arr; (· exact rfl); (· exact rfl); (· exact rfl); (· exact rfl); (· (show 0 + _ ≤ rs.length; omega)); (· (exact hlr 0)); (· (show (rs.drop 0).take _ = _; rw [List.drop_zero, List.take_of_length_le (by omega), hrs])); (· exact rfl); (· exact rfl); (· rfl))
theorem all_c (k : Nat) (n : Nt) (hn : n.ls.length ≤ 1000) (h : MHeap) :
  orA (k + 1) 47 [encN n] h = some (.arr h.length 0 n.ls.length 0, h ++ [⟨0, decide (n.ls.length = 0), 1, (upL n.ls.length).map I64⟩]) := by
 have := callA (k := k) (h := h) (args := [encN n]) (args' := [encN n]) (frzL_lt (by simp [ltL, MV.lt, ltL_Ln, ltL_Cr])) rfl (all_z k n hn) rfl (by simp [okH, ltL_I, pureL_I])
 simpa [shV, sh1] using this
def valU (cs : List Cr) (fl : List Int) : Nat → Int
 | 0 => 0
 | i + 1 => valU cs fl i + cAt fl i * (cs.getD i default).df
theorem valU_next {cs : List Cr} {fl : List Int} {i : Nat} {x : Cr} (h : cs[i]? = some x) : valU cs fl (i + 1) = valU cs fl i + cAt fl i * x.df := by
 rw [valU, List.getD_eq_getElem?_getD, h]; rfl
theorem valU_bd {n : Nt} (ok : OkN n) {fl : List Int} (hb : ∀ z ∈ fl, -10 ≤ z ∧ z ≤ 10) : ∀ i, i ≤ n.cs.length → -(100000 * (i : Int)) ≤ valU n.cs fl i ∧ valU n.cs fl i ≤ 100000 * (i : Int)
 | 0, _ => by simp [valU]
 | i + 1, hi => by
  have ih := valU_bd ok hb i (by omega)
  have hx := (ok.rg n.cs[i] (List.getElem_mem (by omega))).df
  rw [valU_next (List.getElem?_eq_getElem (by omega))]
  have hf : -10 ≤ cAt fl i ∧ cAt fl i ≤ 10 := by
   unfold cAt
   rw [List.getD_eq_getElem?_getD]
   cases hh : fl[(i : Int).toNat]? with
   | none => simp
   | some z => exact hb z (List.mem_of_getElem? hh)
  have := mul_bd (a := cAt fl i) (b := n.cs[i].df) (A := 10) (B := 10000) (by omega) (by omega) (by omega) (by omega)
  omega
theorem mf_value : MT.mf 31 = some mfW_l31 := mfW_q31
set_option maxHeartbeats 1000000 in
theorem value_z (k : Nat) (n : Nt) (ok : OkN n) (fl : List Int) (hf : fl.length = n.cs.length) (hb : ∀ z ∈ fl, -10 ≤ z ∧ z ≤ 10) :
  runZ MT (orA k) (itA k) 4000000 31 [encN n, .sl (fl.map I64)] [] = some (I64 (valU n.cs fl n.cs.length), []) := by
 have hs2 : (MV.sl (n.cs.map encCr)).slen = some n.cs.length := by simp [MV.slen]
 have c16 := ok.c16
 refine runZ_of mf_value (by simp) ?_
 simp only [argsL]
 repeat (first | apply ef_seq | (apply ef_mv; exact rfl; exact rfl) | (apply ef_len; exact rfl; exact rfl; (assumption)) | (apply ef_ldp; exact rfl; exact rfl; (exact rfl); exact rfl; (exact rfl); (exact rfl)) | (apply ef_fap; exact rfl; exact rfl) | (apply ef_box; (iterate 4 exact rfl)) | apply ef_nil | apply seqQ.normal | apply ef_block)
 refine ef_loopf (α := Nat × Int) (fun p => p.1 ≤ n.cs.length ∧ p.2 = valU n.cs fl p.1) (fun p => [(12, I64 (p.1 : Int)), (5, I64 p.2)]) [(11, I64 (n.cs.length : Int)), (10, .sl (n.cs.map encCr)), (1, .sl (fl.map I64))] (fun _ => [⟨0, false, 2, [encN n]⟩]) (fun p => n.cs.length - p.1) (0, 0) [12, 5] (fun _ => rfl) (by ((repeat (refine Hold.cons (by exact rfl) ?_)); exact Hold.nil)) (by ((repeat (refine Hold.cons (by exact rfl) ?_)); exact Hold.nil)) rfl rfl ⟨by omega, rfl⟩ (by simp; omega) ?_
 rintro ⟨i, q⟩ ⟨hi, hq⟩
 try simp only at hi hq ⊢
 by_cases hlt : i < n.cs.length
 ·have e1 := at_map encCr n.cs i hlt
  have hat : n.cs[i]? = some n.cs[i] := List.getElem?_eq_getElem hlt
  have hx := ok.rg n.cs[i] (List.getElem_mem hlt)
  have e2 := cAt_at hf (i := (i : Int)) (by omega) (by omega)
  have hv := valU_bd ok hb i hi
  have hvn := valU_bd ok hb (i + 1) hlt
  generalize n.cs[i] = x at e1 hat hx
  have HN := Lib.hid (valU_next (fl := fl) hat)
  rw [HN.out] at hvn
  have hff : -10 ≤ cAt fl i ∧ cAt fl i ≤ 10 := by
   unfold cAt
   rw [List.getD_eq_getElem?_getD]
   cases hh : fl[(i : Int).toNat]? with
   | none => simp
   | some z => exact hb z (List.mem_of_getElem? hh)
  have w2 := hx.df
  rw [← hq] at hv hvn
  generalize cAt fl i = f at e2 HN hvn hff
  have m1 := mul_w (a := f) (b := x.df) 10 10000 (by omega) (by omega) (by omega) (by omega) (by omega)
  repeat (first | apply ef_seq | (apply ef_mv; exact rfl; exact rfl) | (apply ef_bin; (iterate 3 exact rfl); (first | exact cmp_t rfl (by first | exact rfl | (simp only [cmpP]; omega)) | ((with_reducible refine bin_add (wrap_of ?_ ?_)) <;> omega) | ((with_reducible refine bin_mul (wrap_of ?_ ?_)) <;> omega))) | (apply ef_ldr; exact rfl; exact rfl; (first | exact rd_6 rfl rfl rfl rfl rfl rfl | exact rfl)) | (apply ef_ldp; exact rfl; exact rfl; (exact rfl); exact rfl; (exact rfl); (exact rfl)) | (apply ef_ias; (iterate 3 exact rfl); (omega); assumption; exact rfl) | (apply ef_fap; exact rfl; exact rfl) | (apply ef_new; exact rfl) | (apply ef_st; (iterate 6 exact rfl); (exact rfl); exact rfl) | apply ef_nil | apply seqQ.normal | apply blockQ.normal | apply ef_block | apply ef_skip | (apply ef_condt; exact rfl; (exact (rfl : true = true))))
  (refine loopQ.normal _ _ ⟨(i + 1, q + f * x.df), ⟨hlt, by rw [HN.out, hq]⟩, (by first | (simp only; omega) | omega), ⟨by ((repeat (refine Hold.cons (by exact rfl) ?_)); exact Hold.nil), by ((repeat (refine Hold.cons (by exact rfl) ?_)); exact Hold.nil)⟩, .inr ⟨by ((repeat (refine hdl_cons rfl (by first | rfl | (simp [MV.lt, ltL, ltL_Ln, ltL_Cr, ltL_I, splice, MV.cells])) ?_)); exact hdl_nil), by (simp [hltL, ltL, MV.lt, ltL, ltL_Ln, ltL_Cr, ltL_I, splice, MV.cells])⟩, by exact rfl⟩)
 ·obtain rfl : i = n.cs.length := by omega
  repeat (first | apply ef_seq | (apply ef_mv; exact rfl; exact rfl) | (apply ef_bin; (iterate 3 exact rfl); (exact cmp_f rfl (by simp only [cmpP]; omega))) | apply ef_nil | apply seqQ.normal | apply loopQ.exit | apply ef_ret | apply ef_exit | apply seqQ.exit | apply blockQ.here | (apply ef_condf; exact rfl; (exact (rfl : false = false))))
  (refine fin1 rfl (by exact rfl) rfl ?_)
  rw [hq]
theorem value_c (k : Nat) (n : Nt) (ok : OkN n) (fl : List Int) (hf : fl.length = n.cs.length) (hb : ∀ z ∈ fl, -10 ≤ z ∧ z ≤ 10) (h : MHeap) {v : MV} (hv : frz 0 [] h 8 v = some (.sl (fl.map I64))) :
  orA (k + 1) 31 [encN n, v] h = some (I64 (valU n.cs fl n.cs.length), h) :=
 callL (args' := [encN n, .sl (fl.map I64)]) (by simp [List.mapM_cons, hv, frz_lt (ltL_N n 0)]) rfl (value_z k n ok fl hf hb)
end Go.Proofs.YtfchdbghjeophaaDoor

/- longest: the walk. -/
namespace Go.Proofs.YtfchdbghjeophaaDoor
open Go.RowKit
set_option linter.unusedVariables false
set_option linter.unusedSimpArgs false
def srcU (m : Nat) (fs : List Int) : Nat → List Int
 | 0 => List.replicate m (-1099511627776)
 | i + 1 => (srcU m fs i).set (fs.getD i 0).toNat 0
theorem srcU_len (m : Nat) (fs : List Int) : ∀ i, (srcU m fs i).length = m
 | 0 => by simp [srcU]
 | i + 1 => by rw [srcU, List.length_set]; exact srcU_len m fs i
theorem srcU_next {m : Nat} {fs : List Int} {i : Nat} {v : Int} (h : fs[i]? = some v) : srcU m fs (i + 1) = (srcU m fs i).set v.toNat 0 := by
 rw [srcU, List.getD_eq_getElem?_getD, h]; rfl
theorem srcU_bd (m : Nat) (fs : List Int) : ∀ i v, -1099511627776 ≤ cAt (srcU m fs i) v ∧ cAt (srcU m fs i) v ≤ 0
 | 0, v => by
  unfold cAt srcU
  rw [List.getD_eq_getElem?_getD, List.getElem?_replicate]
  split <;> simp
 | i + 1, v => by
  have h := srcU_bd m fs i v
  rw [srcU, cAt_put]
  split
  ·simp
  ·exact h
theorem srcU_at (m : Nat) (fs : List Int) (h0 : ∀ v ∈ fs, 0 ≤ v ∧ v < (m : Int)) : ∀ (i j : Nat) (hj : j < fs.length), j < i → i ≤ fs.length → cAt (srcU m fs i) fs[j] = 0
 | 0, j, hj, h, _ => by omega
 | i + 1, j, hj, h, hi => by
  rw [srcU_next (List.getElem?_eq_getElem (show i < fs.length by omega)), cAt_put]
  split
  ·rfl
  ·rename_i hn
   rcases Nat.lt_or_ge j i with h2 | h2
   ·exact srcU_at m fs h0 i j hj h2 (by omega)
   ·obtain rfl : j = i := by omega
    have := h0 fs[j] (List.getElem_mem hj)
    rw [srcU_len] at hn
    exact absurd ⟨rfl, by omega⟩ hn
abbrev srcL (m : Nat) (fs : List Int) : List Int := srcU m fs fs.length
abbrev lgS (ar : List Ac) (m : Nat) (fs : List Int) : LgS × Bool := lgR ar (m + 1) ⟨srcL m fs, List.replicate m 0, -1⟩
def lgC (ar : List Ac) (m : Nat) (fs : List Int) : List Ac :=
 if (lgS ar m fs).2 = true then [] else cycL ar (lgS ar m fs).1.P (bkN ar (lgS ar m fs).1.P m (lgS ar m fs).1.ch) (frs ar (lgS ar m fs).1.P (bkN ar (lgS ar m fs).1.P m (lgS ar m fs).1.ch) m 1)
theorem rlx_y {k : Nat} {a : Ac} {s : LgS} (h1 : cAt s.L a.fr > -549755813888) (h2 : cAt s.L a.fr + a.ln > cAt s.L a.tv) : rlx k a s = ⟨s.L.set a.tv.toNat (cAt s.L a.fr + a.ln), s.P.set a.tv.toNat k, a.tv⟩ := by unfold rlx; rw [if_pos ⟨h1, h2⟩]
theorem rlx_n {k : Nat} {a : Ac} {s : LgS} (h : ¬ (cAt s.L a.fr > -549755813888 ∧ cAt s.L a.fr + a.ln > cAt s.L a.tv)) : rlx k a s = s := by unfold rlx; rw [if_neg h]
theorem lit_at {L : List Int} {m : Nat} {rs : List MV} (hr : rs = L.map I64) (hl : L.length = m) {v : Int} (h0 : 0 ≤ v) (h1 : v < (m : Int)) : rs[0 + v.toNat]? = some (I64 (cAt L v)) := by
 rw [hr, Nat.zero_add]; exact cAt_at hl h0 h1
theorem fin_ar2 {x : MX2} {A : Sl} {h : MHeap} {t u id id' k k' g g' : Nat} {o o' : MObj} {es es' : List MV} {sz sz' : Nat} {nl nl' : Bool} (hx : outX x = true) (hv : look A t = some (.arr id 0 k g)) (hw : look A u = some (.arr id' 0 k' g')) (hne : id ≠ id') (ho : h[id]? = some o) (ho' : h[id']? = some o') (hg : o.g = g) (hg' : o'.g = g') (hk : k = es.length) (hk' : k' = es'.length) (hl : ltL 0 es = true) (hl' : ltL 0 es' = true) (he : o.es = es) (he' : o'.es = es') (hz : o.sz = sz) (hz' : o'.sz = sz') (hn : o.nl = nl) (hn' : o'.nl = nl') :
  FinF [.tmp t, .tmp u] (.tup [.arr 0 0 k 0, .arr 1 0 k' 0]) [⟨0, nl, sz, es⟩, ⟨0, nl', sz', es'⟩] x A h := by
 subst hz hz' hn hn' he he' hk hk'
 refine ⟨hx, [.arr id 0 o.es.length g, .arr id' 0 o'.es.length g'], [.arr 0 0 o.es.length 0, .arr 1 0 o'.es.length 0], ⟨_, _, rfl, hv, _, [], rfl, hw, rfl⟩, ?_, ?_, rfl⟩
 ·simp [impIds, hne]
 ·simp [expL, ho, ho', hg, hg', hl, hl', frz, MV.lt]
theorem ltL_set {n : Nat} {v : MV} : ∀ {rs : List MV} {i : Nat}, ltL n rs = true → v.lt n = true → ltL n (rs.set i v) = true
 | [], i, h, _ => h
 | r :: rs, 0, h, hv => by
  simp only [ltL, Bool.and_eq_true] at h
  simp [List.set, ltL, h.2, hv]
 | r :: rs, i + 1, h, hv => by
  simp only [ltL, Bool.and_eq_true] at h
  simp [List.set, ltL, h.1, ltL_set h.2 hv]
theorem ltL_zer (n m : Nat) : ltL n (List.replicate m (I64 0)) = true := by
 have : List.replicate m (I64 0) = (List.replicate m (0 : Int)).map I64 := by simp
 rw [this]; exact ltL_I n _
abbrev lgH (rL rP : List MV) : MHeap := [⟨0, true, 1, []⟩, ⟨0, true, 5, []⟩, ⟨0, false, 1, [farM]⟩, ⟨0, false, 1, rL⟩, ⟨0, false, 1, rP⟩]
theorem cycL_len (ar : List Ac) (P : List Int) (c : Int) (p : Nat) : (cycL ar P c p).length = p := by simp [cycL]
theorem mf_longest : MT.mf 23 = some mfW_l23 := mfW_q23
set_option maxHeartbeats 4000000 in
theorem longest_z (k m : Nat) (h1 : 0 < m) (h8 : m ≤ 8) (ar : List Ac) (B : Int) (hB : 0 ≤ B) (hB2 : B ≤ 100000) (hO : ∀ a ∈ ar, OkA m B a) (hl : ar.length ≤ 64) (fs : List Int) (hf : ∀ v ∈ fs, 0 ≤ v ∧ v < (m : Int)) (hfl : fs.length ≤ 1000) :
  runZ MT (orA (k + 4)) (itA (k + 4)) 4000000 23 [I64 (m : Int), .sl (ar.map encA), .sl (fs.map I64)] [] = some (.tup [.arr 0 0 m 0, .arr 1 0 (lgC ar m fs).length 0], [⟨0, false, 1, (lgS ar m fs).1.L.map I64⟩, ⟨0, decide ((lgC ar m fs).length = 0), 5, (lgC ar m fs).map encA⟩]) := by
 have hs1 : (MV.sl (ar.map encA)).slen = some ar.length := by simp [MV.slen]
 have hs2 : (MV.sl (fs.map I64)).slen = some fs.length := by simp [MV.slen]
 have hrp := fun h v hv => Repeat_c k m h1 h8 h (v := v) hv
 refine runZ_of mf_longest (by simp) ?_
 simp only [argsL]
 repeat (first | apply ef_seq | (apply ef_mv; exact rfl; exact rfl) | (apply ef_nil0; exact rfl) | (apply ef_bsl; exact rfl; (repeat (apply XVs.cons; exact rfl)); exact XVs.nil; exact rfl) | apply ef_nil | apply seqQ.normal)
 (apply ef_call; (· exact rfl); (· ((repeat (apply XVs.cons; exact rfl)); exact XVs.nil)); · exact hrp _ _ rfl)
 repeat (first | apply ef_seq | (apply ef_mv; exact rfl; exact rfl) | (apply ef_len; exact rfl; exact rfl; (assumption)) | (apply ef_mks; exact rfl; exact rfl; (omega); (omega)) | apply ef_nil | apply seqQ.normal | apply ef_block)
 refine ef_loopf (α := Nat × List MV) (fun p => p.1 ≤ fs.length ∧ p.2 = (srcU m fs p.1).map I64) (fun p => [(25, I64 (p.1 : Int))]) [(24, I64 (fs.length : Int)), (23, .sl (fs.map I64)), (8, .arr 3 0 m 0), (0, I64 (m : Int)), (1, .sl (ar.map encA)), (9, .arr 4 0 m 0)] (fun p => lgH p.2 (List.replicate m (I64 0))) (fun p => fs.length - p.1) (0, List.replicate m farM) [25] (fun _ => rfl) (by ((repeat (refine Hold.cons (by exact rfl) ?_)); exact Hold.nil)) (by ((repeat (refine Hold.cons (by exact rfl) ?_)); exact Hold.nil)) rfl rfl ⟨by omega, by simp [srcU]⟩ (by simp; omega) ?_
 rintro ⟨i, rs⟩ ⟨hi, hrs⟩
 try simp only at hi hrs ⊢
 have hsl := srcU_len m fs i
 have hlr : ∀ j, ltL j rs = true := fun j => by rw [hrs]; exact ltL_I j _
 have hls : ∀ (j i : Nat) (x : Int), ltL j (rs.set i (I64 x)) = true := fun j i x => ltL_set (hlr j) rfl
 by_cases hlt : i < fs.length
 ·have e1 := at_map I64 fs i hlt
  have hat : fs[i]? = some fs[i] := List.getElem?_eq_getElem hlt
  have hr := hf fs[i] (List.getElem_mem hlt)
  generalize fs[i] = v at e1 hat hr
  have HN := Lib.hid (srcU_next (m := m) hat)
  have e2 := lit_at hrs hsl hr.1 hr.2
  repeat (first | apply ef_seq | (apply ef_mv; exact rfl; exact rfl) | (apply ef_bin; (iterate 3 exact rfl); (first | exact cmp_t rfl (by first | exact rfl | (simp only [cmpP]; omega)) | ((with_reducible refine bin_add (wrap_of ?_ ?_)) <;> omega))) | (apply ef_ldr; exact rfl; exact rfl; (exact rfl)) | (apply ef_ias; (iterate 3 exact rfl); (omega); assumption; exact rfl) | (apply ef_iaa; (iterate 3 exact rfl); (omega); (omega); (exact rfl)) | (apply ef_st; (iterate 6 exact rfl); (assumption); exact rfl) | apply ef_nil | apply seqQ.normal | apply blockQ.normal | apply ef_block | apply ef_skip | (apply ef_condt; exact rfl; (exact (rfl : true = true))))
  (refine loopQ.normal _ _ ⟨(i + 1, rs.set (0 + v.toNat) (I64 0)), ⟨hlt, by rw [HN.out, hrs, List.map_set, Nat.zero_add]⟩, (by first | (simp only; omega) | omega), ⟨by ((repeat (refine Hold.cons (by exact rfl) ?_)); exact Hold.nil), by ((repeat (refine Hold.cons (by exact rfl) ?_)); exact Hold.nil)⟩, .inr ⟨by ((repeat (refine hdl_cons rfl (by first | rfl | (simp [MV.lt, ltL, ltL_A, ltL_I, hls, ltL_zer, hlr, splice, MV.cells])) ?_)); exact hdl_nil), by (simp [hltL, ltL, MV.lt, ltL, ltL_A, ltL_I, hls, ltL_zer, hlr, splice, MV.cells])⟩, by exact rfl⟩)
 ·obtain rfl : i = fs.length := by omega
  have hinit : LgI ar m B (srcL m fs) 0 0 (fun _ => 0) ⟨srcL m fs, List.replicate m 0, -1⟩ := LgI.init hsl (srcU_bd m fs fs.length)
  have HG := lgR_ok hB hO (m + 1) 0 _ ⟨srcL m fs, List.replicate m 0, -1⟩ hinit
  repeat (first | apply ef_seq | (apply ef_mv; exact rfl; exact rfl) | (apply ef_bin; (iterate 3 exact rfl); (first | exact cmp_f rfl (by simp only [cmpP]; omega) | ((with_reducible refine bin_add (wrap_of ?_ ?_)) <;> omega))) | apply ef_nil | apply seqQ.normal | apply loopQ.exit | apply ef_exit | apply seqQ.exit | apply blockQ.here | apply ef_block | (apply ef_condf; exact rfl; (exact (rfl : false = false))))
  refine ef_loopf (α := Nat × LgS × List MV × List MV) (fun p => p.1 ≤ m + 1 ∧ p.2.2.1 = p.2.1.L.map I64 ∧ p.2.2.2 = p.2.1.P.map I64 ∧ lgS ar m fs = lgR ar (m + 1 - p.1) p.2.1 ∧ ∃ t, LgI ar m B (srcL m fs) p.1 0 t ⟨p.2.1.L, p.2.1.P, -1⟩) (fun p => [(35, I64 (p.1 : Int)), (12, I64 p.2.1.ch)]) [(34, I64 ((m : Int) + 1)), (1, .sl (ar.map encA)), (8, .arr 3 0 m 0), (9, .arr 4 0 m 0), (0, I64 (m : Int))] (fun p => lgH p.2.2.1 p.2.2.2) (fun p => m + 1 - p.1) (0, ⟨srcL m fs, List.replicate m 0, -1⟩, rs, List.replicate m (I64 0)) [35, 12] (fun _ => rfl) (by ((repeat (refine Hold.cons (by exact rfl) ?_)); exact Hold.nil)) (by ((repeat (refine Hold.cons (by exact rfl) ?_)); exact Hold.nil)) rfl rfl ⟨by omega, hrs, by simp, rfl, _, hinit⟩ (by simp; omega) ?_
  rintro ⟨r, s, rL, rP⟩ ⟨hr, hL, hP, hS, t, HI⟩
  try simp only at hr hL hP hS HI ⊢
  by_cases hrr : r < m + 1
  ·repeat (first | apply ef_seq | (apply ef_mv; exact rfl; exact rfl) | (apply ef_bin; (iterate 3 exact rfl); (exact cmp_t rfl (by first | exact rfl | (simp only [cmpP]; omega)))) | (apply ef_len; exact rfl; exact rfl; (assumption)) | apply ef_nil | apply seqQ.normal | apply ef_block | apply ef_skip | (apply ef_condt; exact rfl; (exact (rfl : true = true))))
   refine ef_loopf (α := Nat × LgS × List MV × List MV) (fun p => p.1 ≤ ar.length ∧ p.2.2.1 = p.2.1.L.map I64 ∧ p.2.2.2 = p.2.1.P.map I64 ∧ rndA ar 0 ⟨s.L, s.P, -1⟩ = rndA (ar.drop p.1) p.1 p.2.1 ∧ ∃ t, LgI ar m B (srcL m fs) r p.1 t p.2.1) (fun p => [(39, I64 (p.1 : Int)), (12, I64 p.2.1.ch)]) [(38, I64 (ar.length : Int)), (37, .sl (ar.map encA)), (35, I64 (r : Int)), (34, I64 ((m : Int) + 1)), (1, .sl (ar.map encA)), (8, .arr 3 0 m 0), (9, .arr 4 0 m 0), (0, I64 (m : Int))] (fun p => lgH p.2.2.1 p.2.2.2) (fun p => ar.length - p.1) (0, ⟨s.L, s.P, -1⟩, rL, rP) [39, 12] (fun _ => rfl) (by ((repeat (refine Hold.cons (by exact rfl) ?_)); exact Hold.nil)) (by ((repeat (refine Hold.cons (by exact rfl) ?_)); exact Hold.nil)) rfl rfl ⟨by omega, hL, hP, rfl, t, HI⟩ (by simp; omega) ?_
   rintro ⟨j, u, uL, uP⟩ ⟨hj, hL2, hP2, hS2, t2, HI2⟩
   try simp only at hj hL2 hP2 hS2 HI2 ⊢
   by_cases hlj : j < ar.length
   ·have e1 := at_map encA ar j hlj
    have oa := hO ar[j] (List.getElem_mem hlj)
    obtain ⟨t3, HI3⟩ := HI2.one hB hlj hO
    have HR := Lib.hid (rndA_at hlj u)
    have b1 := HI2.bd ar[j].fr
    have lL := HI2.lenL
    have lP := HI2.lenP
    have e2 := lit_at hL2 lL oa.f0 oa.f1
    have e3 := lit_at hL2 lL oa.t0 oa.t1
    have e4 := lit_at hP2 lP oa.t0 oa.t1
    have a1 := oa.f0
    have a2 := oa.f1
    have a3 := oa.t0
    have a4 := oa.t1
    have a5 := oa.l0
    have a6 := oa.l1
    have hbig : B * ((r * ar.length + j : Nat) : Int) ≤ 100000 * 1000 := by
     have q1 : r * ar.length ≤ 8 * 64 := Nat.mul_le_mul (by omega) hl
     exact Int.mul_le_mul hB2 (by omega) (by omega) (by omega)
    by_cases c1 : cAt u.L ar[j].fr > -549755813888
    ·by_cases c2 : cAt u.L ar[j].fr + ar[j].ln > cAt u.L ar[j].tv
     ·rw [rlx_y c1 c2] at HI3
      have HR2 := HR.out
      rw [rlx_y c1 c2] at HR2
      have HR3 := Lib.hid HR2
      clear HR HR2
      generalize ar[j] = a at e1 e2 e3 e4 a1 a2 a3 a4 a5 a6 b1 c1 c2 HI3 HR3
      have hls1 : ∀ (j i : Nat) (x : Int), ltL j (uL.set i (I64 x)) = true := fun j i x => ltL_set (by rw [hL2]; exact ltL_I j _) rfl
      have hls2 : ∀ (j i : Nat) (x : Int), ltL j (uP.set i (I64 x)) = true := fun j i x => ltL_set (by rw [hP2]; exact ltL_I j _) rfl
      repeat (first | apply ef_seq | (apply ef_mv; exact rfl; exact rfl) | (apply ef_bin; (iterate 3 exact rfl); (first | exact cmp_t rfl (by first | exact rfl | (simp only [cmpP]; omega)) | ((with_reducible refine bin_add (wrap_of ?_ ?_)) <;> omega))) | (apply ef_gy; exact rfl; (exact (rfl : true = true))) | (apply ef_pick; (iterate 3 exact rfl)) | (apply ef_ldr; exact rfl; exact rfl; (exact rd_5 rfl rfl rfl rfl rfl)) | (apply ef_ldp; exact rfl; exact rfl; (exact rfl); exact rfl; (first | exact rfl | assumption); (exact rfl)) | (apply ef_ias; (iterate 3 exact rfl); (omega); assumption; exact rfl) | (apply ef_iaa; (iterate 3 exact rfl); (omega); (omega); (exact rfl)) | (apply ef_fap; exact rfl; exact rfl) | (apply ef_new; exact rfl) | (apply ef_ne; exact rfl; exact rfl; (exact rfl)) | (apply ef_st; (iterate 6 exact rfl); (first | exact rfl | assumption); exact rfl) | apply ef_nil | apply seqQ.normal | apply blockQ.normal | apply ef_block | apply ef_skip | (apply ef_condt; exact rfl; (exact (rfl : true = true))))
      (refine loopQ.normal _ _ ⟨(j + 1, ⟨u.L.set a.tv.toNat (cAt u.L a.fr + a.ln), u.P.set a.tv.toNat j, a.tv⟩, uL.set (0 + a.tv.toNat) (I64 (cAt u.L a.fr + a.ln)), uP.set (0 + a.tv.toNat) (I64 (j : Int))), ⟨hlj, by rw [hL2, Nat.zero_add, List.map_set], by rw [hP2, Nat.zero_add, List.map_set], by rw [hS2, HR3.out], t3, HI3⟩, (by first | (simp only; omega) | omega), ⟨by ((repeat (refine Hold.cons (by exact rfl) ?_)); exact Hold.nil), by ((repeat (refine Hold.cons (by exact rfl) ?_)); exact Hold.nil)⟩, .inr ⟨by ((repeat (refine hdl_cons rfl (by first | rfl | (simp [MV.lt, ltL, ltL_A, ltL_I, hls1, hls2, splice, MV.cells])) ?_)); exact hdl_nil), by (simp [hltL, ltL, MV.lt, ltL, ltL_A, ltL_I, hls1, hls2, splice, MV.cells])⟩, by exact rfl⟩)
     ·rw [rlx_n (fun q => c2 q.2)] at HI3
      have HR2 := HR.out
      rw [rlx_n (fun q => c2 q.2)] at HR2
      have HR3 := Lib.hid HR2
      clear HR HR2
      generalize ar[j] = a at e1 e2 e3 e4 a1 a2 a3 a4 a5 a6 b1 c1 c2 HI3 HR3
      have hls1 : ∀ (j : Nat), ltL j uL = true := fun j => by rw [hL2]; exact ltL_I j _
      have hls2 : ∀ (j : Nat), ltL j uP = true := fun j => by rw [hP2]; exact ltL_I j _
      repeat (first | apply ef_seq | (apply ef_mv; exact rfl; exact rfl) | (apply ef_bin; (iterate 3 exact rfl); (first | exact cmp_t rfl (by first | exact rfl | (simp only [cmpP]; omega)) | exact cmp_f rfl (by simp only [cmpP]; omega) | ((with_reducible refine bin_add (wrap_of ?_ ?_)) <;> omega))) | (apply ef_gy; exact rfl; (exact (rfl : true = true))) | (apply ef_pick; (iterate 3 exact rfl)) | (apply ef_ldr; exact rfl; exact rfl; (exact rd_5 rfl rfl rfl rfl rfl)) | (apply ef_ldp; exact rfl; exact rfl; (exact rfl); exact rfl; (first | exact rfl | assumption); (exact rfl)) | (apply ef_ias; (iterate 3 exact rfl); (omega); assumption; exact rfl) | (apply ef_iaa; (iterate 3 exact rfl); (omega); (omega); (exact rfl)) | (apply ef_fap; exact rfl; exact rfl) | (apply ef_new; exact rfl) | (apply ef_st; (iterate 6 exact rfl); (exact rfl); exact rfl) | apply ef_nil | apply seqQ.normal | apply blockQ.normal | apply ef_block | apply ef_skip | (apply ef_condt; exact rfl; (exact (rfl : true = true))) | (apply ef_condf; exact rfl; (exact (rfl : false = false))))
      (refine loopQ.normal _ _ ⟨(j + 1, u, uL, uP), ⟨hlj, hL2, hP2, by rw [hS2, HR3.out], t3, HI3⟩, (by first | (simp only; omega) | omega), ⟨by ((repeat (refine Hold.cons (by exact rfl) ?_)); exact Hold.nil), by ((repeat (refine Hold.cons (by exact rfl) ?_)); exact Hold.nil)⟩, .inr ⟨by ((repeat (refine hdl_cons rfl (by first | rfl | (simp [MV.lt, ltL, ltL_A, ltL_I, hls1, hls2, splice, MV.cells])) ?_)); exact hdl_nil), by (simp [hltL, ltL, MV.lt, ltL, ltL_A, ltL_I, hls1, hls2, splice, MV.cells])⟩, by exact rfl⟩)
    ·rw [rlx_n (fun q => c1 q.1)] at HI3
     have HR2 := HR.out
     rw [rlx_n (fun q => c1 q.1)] at HR2
     have HR3 := Lib.hid HR2
     clear HR HR2
     generalize ar[j] = a at e1 e2 e3 e4 a1 a2 a3 a4 a5 a6 b1 c1 HI3 HR3
     have hls1 : ∀ (j : Nat), ltL j uL = true := fun j => by rw [hL2]; exact ltL_I j _
     have hls2 : ∀ (j : Nat), ltL j uP = true := fun j => by rw [hP2]; exact ltL_I j _
     repeat (first | apply ef_seq | (apply ef_mv; exact rfl; exact rfl) | (apply ef_bin; (iterate 3 exact rfl); (first | exact cmp_t rfl (by first | exact rfl | (simp only [cmpP]; omega)) | exact cmp_f rfl (by simp only [cmpP]; omega) | ((with_reducible refine bin_add (wrap_of ?_ ?_)) <;> omega))) | (apply ef_gn; exact rfl; (exact (rfl : false = false)); exact rfl) | (apply ef_pick; (iterate 3 exact rfl)) | (apply ef_ldr; exact rfl; exact rfl; (exact rd_5 rfl rfl rfl rfl rfl)) | (apply ef_ldp; exact rfl; exact rfl; (exact rfl); exact rfl; (first | exact rfl | assumption); (exact rfl)) | (apply ef_ias; (iterate 3 exact rfl); (omega); assumption; exact rfl) | (apply ef_iaa; (iterate 3 exact rfl); (omega); (omega); (exact rfl)) | (apply ef_fap; exact rfl; exact rfl) | (apply ef_new; exact rfl) | (apply ef_st; (iterate 6 exact rfl); (exact rfl); exact rfl) | apply ef_nil | apply seqQ.normal | apply blockQ.normal | apply ef_block | apply ef_skip | (apply ef_condt; exact rfl; (exact (rfl : true = true))) | (apply ef_condf; exact rfl; (exact (rfl : false = false))))
     (refine loopQ.normal _ _ ⟨(j + 1, u, uL, uP), ⟨hlj, hL2, hP2, by rw [hS2, HR3.out], t3, HI3⟩, (by first | (simp only; omega) | omega), ⟨by ((repeat (refine Hold.cons (by exact rfl) ?_)); exact Hold.nil), by ((repeat (refine Hold.cons (by exact rfl) ?_)); exact Hold.nil)⟩, .inr ⟨by ((repeat (refine hdl_cons rfl (by first | rfl | (simp [MV.lt, ltL, ltL_A, ltL_I, hls1, hls2, splice, MV.cells])) ?_)); exact hdl_nil), by (simp [hltL, ltL, MV.lt, ltL, ltL_A, ltL_I, hls1, hls2, splice, MV.cells])⟩, by exact rfl⟩)
   ·obtain rfl : j = ar.length := by omega
    rw [List.drop_length, rndA] at hS2
    have hstep : lgR ar (m + 1 - r) s = if u.ch < 0 then (u, true) else lgR ar (m - r) u := by
     obtain ⟨d, hd⟩ : ∃ d, m + 1 - r = d + 1 := ⟨m - r, by omega⟩
     rw [hd, lgR, hS2, show m - r = d by omega]
    have hlL : ∀ (j : Nat), ltL j uL = true := fun j => by rw [hL2]; exact ltL_I j _
    have hlP : ∀ (j : Nat), ltL j uP = true := fun j => by rw [hP2]; exact ltL_I j _
    by_cases hch : u.ch < 0
    ·rw [if_pos hch] at hstep
     have hC : lgC ar m fs = [] := by unfold lgC; rw [hS, hstep]; rfl
     have hLL : (lgS ar m fs).1.L = u.L := by rw [hS, hstep]
     have lL := HI2.lenL
     rw [hC]
     repeat (first | apply ef_seq | (apply ef_mv; exact rfl; exact rfl) | (apply ef_bin; (iterate 3 exact rfl); (first | exact cmp_t rfl (by first | exact rfl | (simp only [cmpP]; omega)) | exact cmp_f rfl (by simp only [cmpP]; omega))) | (apply ef_nil0; exact rfl) | apply ef_nil | apply seqQ.normal | apply loopQ.ret | apply loopQ.exit | apply ef_ret | apply seqQ.ret | apply ef_exit | apply seqQ.exit | apply blockQ.ret | apply blockQ.here | (apply ef_condt; exact rfl; (exact (rfl : true = true))) | (apply ef_condf; exact rfl; (exact (rfl : false = false))))
     (apply fin_ar2; (· exact rfl); (· exact rfl); (· exact rfl); (· show 3 ≠ 5; decide); (· exact rfl); (· exact rfl); (· exact rfl); (· exact rfl); (· simp [hLL, lL]); (· exact rfl); (· exact ltL_I 0 _); (· exact rfl); (· rw [hLL]; exact hL2); (· exact rfl); (· exact rfl); (· exact rfl); (· exact rfl); (· exact rfl))
    ·rw [if_neg hch] at hstep
     repeat (first | apply ef_seq | (apply ef_mv; exact rfl; exact rfl) | (apply ef_bin; (iterate 3 exact rfl); (first | exact cmp_f rfl (by simp only [cmpP]; omega) | ((with_reducible refine bin_add (wrap_of ?_ ?_)) <;> omega))) | apply ef_nil | apply seqQ.normal | apply loopQ.exit | apply ef_exit | apply seqQ.exit | apply blockQ.normal | apply blockQ.here | apply ef_skip | (apply ef_condf; exact rfl; (exact (rfl : false = false))))
     (refine loopQ.normal _ _ ⟨(r + 1, u, uL, uP), ⟨by omega, hL2, hP2, by rw [hS, hstep, show m + 1 - (r + 1) = m - r by omega], t2, HI2.turn⟩, (by first | (simp only; omega) | omega), ⟨by ((repeat (refine Hold.cons (by exact rfl) ?_)); exact Hold.nil), by ((repeat (refine Hold.cons (by exact rfl) ?_)); exact Hold.nil)⟩, .inr ⟨by ((repeat (refine hdl_cons rfl (by first | rfl | (simp [MV.lt, ltL, ltL_A, ltL_I, hlL, hlP, splice, MV.cells])) ?_)); exact hdl_nil), by (simp [hltL, ltL, MV.lt, ltL, ltL_A, ltL_I, hlL, hlP, splice, MV.cells])⟩, by exact rfl⟩)
  ·obtain rfl : r = m + 1 := by omega
   rw [Nat.sub_self, lgR] at hS
   obtain ⟨t4, HF, hch⟩ := HG.2 (by rw [show lgR ar (m + 1) ⟨srcL m fs, List.replicate m 0, -1⟩ = (s, false) from hS]) (by omega)
   rw [show lgR ar (m + 1) ⟨srcL m fs, List.replicate m 0, -1⟩ = (s, false) from hS, show 0 + (m + 1) - 1 = m by omega] at HF
   rw [show lgR ar (m + 1) ⟨srcL m fs, List.replicate m 0, -1⟩ = (s, false) from hS] at hch
   simp only at HF hch
   have HC := cyc_ok HF hO hch
   have hC : lgC ar m fs = cycL ar s.P (bkN ar s.P m s.ch) (frs ar s.P (bkN ar s.P m s.ch) m 1) := by unfold lgC; rw [hS]; rfl
   have hLL : (lgS ar m fs).1.L = s.L := by rw [hS]
   rw [hC, cycL_len]
   have lL := HF.lenL
   have lP := HF.lenP
   have hch2 : (0 ≤ s.ch ∧ s.ch < (m : Int)) ∧ m * ar.length < t4 s.ch := by
    rcases HF.chg with ⟨q, _⟩ | q
    ·omega
    ·exact q
   have hn0 : 0 < ar.length := by have := HF.tm s.ch; omega
   have up := bk_up HF hO hch2.1 m hch2.2
   have hpg := HF.pg
   have hnx : ∀ v, (ar.map encA)[(cAt s.P v).toNat]? = some (encA (arcP ar s.P v)) := fun v => by
    obtain ⟨h, he⟩ := arcP_mem (hpg v).1 ((hpg v).2 hn0)
    rw [he, List.getElem?_map, List.getElem?_eq_getElem h]; rfl
   have hlL : ∀ (j : Nat), ltL j rL = true := fun j => by rw [hL]; exact ltL_I j _
   have hlP : ∀ (j : Nat), ltL j rP = true := fun j => by rw [hP]; exact ltL_I j _
   repeat (first | apply ef_seq | (apply ef_mv; exact rfl; exact rfl) | (apply ef_bin; (iterate 3 exact rfl); (exact cmp_f rfl (by simp only [cmpP]; omega))) | apply ef_nil | apply seqQ.normal | apply loopQ.exit | apply ef_exit | apply seqQ.exit | apply blockQ.here | apply ef_block | (apply ef_condf; exact rfl; (exact (rfl : false = false))))
   refine ef_loopf (α := Nat) (fun j => j ≤ m) (fun j => [(85, I64 (j : Int)), (12, I64 (bkN ar s.P j s.ch))]) [(84, I64 (m : Int)), (1, .sl (ar.map encA)), (8, .arr 3 0 m 0), (9, .arr 4 0 m 0)] (fun _ => lgH rL rP) (fun j => m - j) 0 [85, 12] (fun _ => rfl) (by ((repeat (refine Hold.cons (by exact rfl) ?_)); exact Hold.nil)) (by ((repeat (refine Hold.cons (by exact rfl) ?_)); exact Hold.nil)) rfl rfl (by omega) (by simp; omega) ?_
   intro j hj
   try simp only at hj ⊢
   by_cases hlj : j < m
   ·have hv := (up j hj).1
    have e1 := lit_at hP lP hv.1 hv.2
    have e2 := hnx (bkN ar s.P j s.ch)
    have e3 := hpg (bkN ar s.P j s.ch)
    have e4 := e3.2 hn0
    have e5 := e3.1
    repeat (first | apply ef_seq | (apply ef_mv; exact rfl; exact rfl) | (apply ef_bin; (iterate 3 exact rfl); (first | exact cmp_t rfl (by first | exact rfl | (simp only [cmpP]; omega)) | ((with_reducible refine bin_add (wrap_of ?_ ?_)) <;> omega))) | (apply ef_ldr; exact rfl; exact rfl; (exact rfl)) | (apply ef_ldp; exact rfl; exact rfl; (exact rfl); exact rfl; (assumption); (exact rfl)) | (apply ef_ias; (iterate 3 exact rfl); (omega); assumption; exact rfl) | (apply ef_iaa; (iterate 3 exact rfl); (omega); (omega); (exact rfl)) | (apply ef_far; exact rfl; exact rfl) | apply ef_nil | apply seqQ.normal | apply blockQ.normal | apply ef_block | apply ef_skip | (apply ef_condt; exact rfl; (exact (rfl : true = true))))
    (refine loopQ.normal _ _ ⟨j + 1, hlj, (by first | (simp only; omega) | omega), ⟨by ((repeat (refine Hold.cons (by exact rfl) ?_)); exact Hold.nil), by ((repeat (refine Hold.cons (by exact rfl) ?_)); exact Hold.nil)⟩, .inr ⟨by ((repeat (refine hdl_cons rfl (by first | rfl | (simp [MV.lt, ltL, ltL_A, ltL_I, hlL, hlP, splice, MV.cells])) ?_)); exact hdl_nil), by (simp [hltL, ltL, MV.lt, ltL, ltL_A, ltL_I, hlL, hlP, splice, MV.cells])⟩, by exact rfl⟩)
   ·obtain rfl : j = m := by omega
    generalize bkN ar s.P j s.ch = c at *
    generalize frs ar s.P c j 1 = p at *
    have hp0 := HC.p0
    have hpm := HC.pm
    repeat (first | apply ef_seq | (apply ef_mv; exact rfl; exact rfl) | (apply ef_bin; (iterate 3 exact rfl); (exact cmp_f rfl (by simp only [cmpP]; omega))) | (apply ef_nil0; exact rfl) | apply ef_nil | apply seqQ.normal | apply loopQ.exit | apply ef_exit | apply seqQ.exit | apply blockQ.here | apply ef_block | (apply ef_condf; exact rfl; (exact (rfl : false = false))))
    refine ef_loopf (α := Nat × List MV) (fun q => q.1 ≤ p ∧ q.2 = (cycL ar s.P c q.1).map encA) (fun q => [(16, .arr 5 0 q.1 q.1), (17, I64 (bkN ar s.P q.1 c))]) [(12, I64 c), (1, .sl (ar.map encA)), (8, .arr 3 0 j 0), (9, .arr 4 0 j 0)] (fun q => lgH rL rP ++ [⟨q.1, decide (q.1 = 0), 5, q.2⟩]) (fun q => p - q.1) (0, []) [16, 17] (fun _ => rfl) (by ((repeat (refine Hold.cons (by exact rfl) ?_)); exact Hold.nil)) (by ((repeat (refine Hold.cons (by exact rfl) ?_)); exact Hold.nil)) rfl rfl ⟨by omega, rfl⟩ (by simp; omega) ?_
    rintro ⟨i, qs⟩ ⟨hi, hqs⟩
    try simp only at hi hqs ⊢
    have hql : qs.length = i := by rw [hqs]; simp [cycL]
    have hqt : ∀ (j : Nat), ltL j qs = true := fun j => by rw [hqs]; exact ltL_A j _
    by_cases hlp : i < p
    ·obtain ⟨hv, hm, htv⟩ := HC.inn i hlp
     have e1 := lit_at hP lP hv.1 hv.2
     have e2 := hnx (bkN ar s.P i c)
     have e3 := hpg (bkN ar s.P i c)
     have e4 := e3.2 hn0
     have e5 := e3.1
     have hcn : cycL ar s.P c (i + 1) = cycL ar s.P c i ++ [arcP ar s.P (bkN ar s.P i c)] := by unfold cycL; rw [List.range_succ]; simp
     by_cases hi0 : i = 0
     ·skip
      repeat (first | apply ef_seq | (apply ef_mv; exact rfl; exact rfl) | (apply ef_bin; (iterate 3 exact rfl); (exact cmp_t rfl (by first | exact rfl | (simp only [cmpP]; omega)))) | (apply ef_gn; exact rfl; (exact (rfl : true = true)); exact rfl) | (apply ef_pick; (iterate 3 exact rfl)) | (apply ef_len; exact rfl; exact rfl; (exact rfl)) | (apply ef_ldr; exact rfl; exact rfl; (exact rd_5 rfl rfl rfl rfl rfl)) | (apply ef_ldp; exact rfl; exact rfl; (exact rfl); exact rfl; (assumption); (exact rfl)) | (apply ef_ias; (iterate 3 exact rfl); (omega); assumption; exact rfl) | (apply ef_iaa; (iterate 3 exact rfl); (omega); (omega); (exact rfl)) | (apply ef_bsl; exact rfl; (repeat (apply XVs.cons; exact rfl)); exact XVs.nil; exact rfl) | apply ef_nil | apply seqQ.normal | apply ef_block | apply ef_skip | (apply ef_condt; exact rfl; (exact (rfl : true = true))))
      (apply ef_app; (· exact rfl); (· exact rfl); (· exact rfl); (· exact rfl); (· exact rfl); (· exact rfl); (· (simp [hql])); (· exact rfl); (· (simp [hql]; omega)); (· (exact rfl)); (· exact rfl))
      repeat (first | (apply ef_mv; exact rfl; exact rfl) | (apply ef_ldr; exact rfl; exact rfl; (exact rfl)) | (apply ef_ldp; exact rfl; exact rfl; (exact rfl); exact rfl; (assumption); (exact rfl)) | (apply ef_ias; (iterate 3 exact rfl); (omega); assumption; exact rfl) | (apply ef_iaa; (iterate 3 exact rfl); (omega); (omega); (exact rfl)) | (apply ef_far; exact rfl; exact rfl) | apply ef_nil | apply seqQ.normal | apply blockQ.normal)
      (refine loopQ.normal _ _ ⟨(i + 1, qs ++ [encA (arcP ar s.P (bkN ar s.P i c))]), ⟨hlp, by rw [hcn, hqs]; simp⟩, (by first | (simp only; omega) | omega), ⟨by ((repeat (refine Hold.cons (by exact rfl) ?_)); exact Hold.nil), by ((repeat (refine Hold.cons (by exact rfl) ?_)); exact Hold.nil)⟩, .inr ⟨by ((repeat (refine hdl_cons rfl (by first | rfl | (simp [MV.lt, ltL, ltL_A, ltL_I, hlL, hlP, hqt, ltL_app2, splice, MV.cells])) ?_)); exact hdl_nil), by (simp [hltL, ltL, MV.lt, ltL, ltL_A, ltL_I, hlL, hlP, hqt, ltL_app2, splice, MV.cells])⟩, by exact rfl⟩)
     ·have hne := HC.fst i (by omega) hlp
      repeat (first | apply ef_seq | (apply ef_mv; exact rfl; exact rfl) | (apply ef_bin; (iterate 3 exact rfl); (first | exact cmp_t rfl (by first | exact rfl | (simp only [cmpP]; omega)) | exact cmp_f rfl (by simp only [cmpP]; omega))) | (apply ef_gy; exact rfl; (exact (rfl : false = false))) | (apply ef_pick; (iterate 3 exact rfl)) | (apply ef_len; exact rfl; exact rfl; (exact rfl)) | (apply ef_ldr; exact rfl; exact rfl; (exact rd_5 rfl rfl rfl rfl rfl)) | (apply ef_ldp; exact rfl; exact rfl; (exact rfl); exact rfl; (assumption); (exact rfl)) | (apply ef_ias; (iterate 3 exact rfl); (omega); assumption; exact rfl) | (apply ef_iaa; (iterate 3 exact rfl); (omega); (omega); (exact rfl)) | (apply ef_bsl; exact rfl; (repeat (apply XVs.cons; exact rfl)); exact XVs.nil; exact rfl) | apply ef_nil | apply seqQ.normal | apply ef_block | apply ef_skip | (apply ef_condt; exact rfl; (exact (rfl : true = true))))
      (apply ef_app; (· exact rfl); (· exact rfl); (· exact rfl); (· exact rfl); (· exact rfl); (· exact rfl); (· (simp [hql])); (· exact rfl); (· (simp [hql]; omega)); (· (exact rfl)); (· exact rfl))
      repeat (first | (apply ef_mv; exact rfl; exact rfl) | (apply ef_ldr; exact rfl; exact rfl; (exact rfl)) | (apply ef_ldp; exact rfl; exact rfl; (exact rfl); exact rfl; (assumption); (exact rfl)) | (apply ef_ias; (iterate 3 exact rfl); (omega); assumption; exact rfl) | (apply ef_iaa; (iterate 3 exact rfl); (omega); (omega); (exact rfl)) | (apply ef_far; exact rfl; exact rfl) | apply ef_nil | apply seqQ.normal | apply blockQ.normal)
      (refine loopQ.normal _ _ ⟨(i + 1, qs ++ [encA (arcP ar s.P (bkN ar s.P i c))]), ⟨hlp, by rw [hcn, hqs]; simp⟩, (by first | (simp only; omega) | omega), ⟨by ((repeat (refine Hold.cons (by exact rfl) ?_)); exact Hold.nil), by ((repeat (refine Hold.cons (by exact rfl) ?_)); exact Hold.nil)⟩, .inr ⟨by ((repeat (refine hdl_cons rfl (by first | rfl | (simp [MV.lt, ltL, ltL_A, ltL_I, hlL, hlP, hqt, ltL_app2, splice, MV.cells])) ?_)); exact hdl_nil), by (simp [hltL, ltL, MV.lt, ltL, ltL_A, ltL_I, hlL, hlP, hqt, ltL_app2, splice, MV.cells])⟩, by exact rfl⟩)
    ·obtain rfl : i = p := by omega
     have hret := HC.ret
     repeat (first | apply ef_seq | (apply ef_mv; exact rfl; exact rfl) | (apply ef_bin; (iterate 3 exact rfl); (exact cmp_f rfl (by simp only [cmpP]; omega))) | (apply ef_gy; exact rfl; (exact (rfl : false = false))) | (apply ef_pick; (iterate 3 exact rfl)) | (apply ef_len; exact rfl; exact rfl; (exact rfl)) | apply ef_nil | apply seqQ.normal | apply loopQ.exit | apply ef_ret | apply ef_exit | apply seqQ.exit | apply blockQ.here | (apply ef_condf; exact rfl; (exact (rfl : false = false))))
     (apply fin_ar2; (· exact rfl); (· exact rfl); (· exact rfl); (· show 3 ≠ 5; decide); (· exact rfl); (· exact rfl); (· exact rfl); (· exact rfl); (· simp [hLL, lL]); (· simp [cycL_len]); (· exact ltL_I 0 _); (· exact ltL_A 0 _); (· rw [hLL]; exact hL); (· exact hqs); (· exact rfl); (· exact rfl); (· exact rfl); (· exact rfl))
theorem longest_c (k m : Nat) (h1 : 0 < m) (h8 : m ≤ 8) (ar : List Ac) (B : Int) (hB : 0 ≤ B) (hB2 : B ≤ 100000) (hO : ∀ a ∈ ar, OkA m B a) (hl : ar.length ≤ 64) (fs : List Int) (hf : ∀ v ∈ fs, 0 ≤ v ∧ v < (m : Int)) (hfl : fs.length ≤ 1000) (h : MHeap) {v w : MV} (hv : frz 0 [] h 8 v = some (.sl (ar.map encA))) (hw : frz 0 [] h 8 w = some (.sl (fs.map I64))) :
  orA (k + 5) 23 [I64 (m : Int), v, w] h = some (.tup [.arr h.length 0 m 0, .arr (h.length + 1) 0 (lgC ar m fs).length 0], h ++ [⟨0, false, 1, (lgS ar m fs).1.L.map I64⟩, ⟨0, decide ((lgC ar m fs).length = 0), 5, (lgC ar m fs).map encA⟩]) := by
 have := callA (k := k + 4) (h := h) (args := [I64 (m : Int), v, w]) (args' := [I64 (m : Int), .sl (ar.map encA), .sl (fs.map I64)]) (by simp [List.mapM_cons, hv, hw, frz_lt (m := I64 (m : Int)) rfl]) rfl (longest_z k m h1 h8 ar B hB hB2 hO hl fs hf hfl) rfl (by simp [okH, ltL_I, ltL_A, pureL_I, pureL_A])
 simp only [shV, sh1, List.map_cons, List.map_nil, Nat.add_comm _ h.length, Nat.add_zero] at this
 exact this
end Go.Proofs.YtfchdbghjeophaaDoor

/- Flows: a change along a cycle; without a program. -/
namespace Go.Proofs.YtfchdbghjeophaaDoor
set_option linter.unusedVariables false
set_option linter.unusedSimpArgs false
def att (x : Cr) (v f : Int) : Int := (if x.ln = v then f else 0) + (if x.ti = v then f else 0)
theorem att_add (x : Cr) (v f d : Int) : att x v (f + d) = att x v f + att x v d := by
 unfold att
 by_cases h1 : x.ln = v <;> by_cases h2 : x.ti = v <;> simp [h1, h2] <;> omega
def sumV (cs : List Cr) (fl : List Int) (v : Int) : Nat → Int
 | 0 => 0
 | i + 1 => sumV cs fl v i + att (cs.getD i default) v (cAt fl i)
structure FlOk (n : Nt) (fl : List Int) : Prop where
 len : fl.length = n.cs.length
 bd : ∀ (i : Nat) (h : i < n.cs.length), -n.cs[i].wt ≤ cAt fl i ∧ cAt fl i ≤ n.cs[i].wt
 sum : ∀ v, sumV n.cs fl v n.cs.length = 0
theorem cAt_setN {fl : List Int} {x i : Nat} {d : Int} (hx : x < fl.length) : cAt (fl.set x d) (i : Int) = if i = x then d else cAt fl i := by
 have := cAt_set (L := fl) (i := (x : Int)) (j := (i : Int)) (x := d) (by omega) (by omega) (by omega)
 rw [Int.toNat_natCast] at this
 rw [this]
 by_cases h : i = x
 ·subst h; simp
 ·rw [if_neg h, if_neg (by omega)]
theorem valU_set {cs : List Cr} {fl : List Int} {x : Nat} {d : Int} (hx : x < fl.length) : ∀ i, valU cs (fl.set x (cAt fl x + d)) i = valU cs fl i + if x < i then d * (cs.getD x default).df else 0
 | 0 => by simp [valU]
 | i + 1 => by
  rw [valU, valU, valU_set hx i, cAt_setN hx]
  by_cases h : i = x
  ·subst h
   rw [if_pos rfl, if_neg (by omega), if_pos (by omega), Int.add_mul]; omega
  ·rw [if_neg h]
   by_cases h2 : x < i
   ·rw [if_pos h2, if_pos (by omega)]; omega
   ·rw [if_neg h2, if_neg (by omega)]; omega
theorem sumV_set {cs : List Cr} {fl : List Int} {x : Nat} {d v : Int} (hx : x < fl.length) : ∀ i, sumV cs (fl.set x (cAt fl x + d)) v i = sumV cs fl v i + if x < i then att (cs.getD x default) v d else 0
 | 0 => by simp [sumV]
 | i + 1 => by
  rw [sumV, sumV, sumV_set hx i, cAt_setN hx]
  by_cases h : i = x
  ·subst h
   rw [if_pos rfl, if_neg (by omega), if_pos (by omega), att_add]; omega
  ·rw [if_neg h]
   by_cases h2 : x < i
   ·rw [if_pos h2, if_pos (by omega)]; omega
   ·rw [if_neg h2, if_neg (by omega)]; omega
structure ArcOk (n : Nt) (fl : List Int) (a : Ac) : Prop where
 c0 : 0 ≤ a.cr
 c1 : a.cr < (n.cs.length : Int)
 dir : (a.sg = 1 ∧ a.fr = (n.cs.getD a.cr.toNat default).ti ∧ a.tv = (n.cs.getD a.cr.toNat default).ln ∧ a.ln = (n.cs.getD a.cr.toNat default).df ∧ cAt fl a.cr < (n.cs.getD a.cr.toNat default).wt) ∨
  (a.sg = -1 ∧ a.fr = (n.cs.getD a.cr.toNat default).ln ∧ a.tv = (n.cs.getD a.cr.toNat default).ti ∧ a.ln = 0 - (n.cs.getD a.cr.toNat default).df ∧ 0 - (n.cs.getD a.cr.toNat default).wt < cAt fl a.cr)
theorem arcsU_ok {n : Nt} {fl : List Int} : ∀ i, i ≤ n.cs.length → ∀ a ∈ arcsU n.cs fl i, ArcOk n fl a
 | 0, _, a, h => by simp [arcsU] at h
 | i + 1, hi, a, h => by
  rw [arcsU, List.mem_append, List.mem_append] at h
  rcases h with h | h | h
  ·exact arcsU_ok i (by omega) a h
  ·unfold arcF at h
   split at h
   ·rename_i hw
    rw [List.mem_singleton] at h
    subst h
    exact ⟨by simp only; omega, by simp only; omega, .inl ⟨rfl, by simp, by simp, by simp, by simpa using hw⟩⟩
   ·cases h
  ·unfold arcB at h
   split at h
   ·rename_i hw
    rw [List.mem_singleton] at h
    subst h
    exact ⟨by simp only; omega, by simp only; omega, .inr ⟨rfl, by simp, by simp, by simp, by simpa using hw⟩⟩
   ·cases h
theorem arcsU_mem {n : Nt} {fl : List Int} {i : Nat} : ∀ {j}, i < j → j ≤ n.cs.length → (cAt fl i < (n.cs.getD i default).wt → (⟨(n.cs.getD i default).ti, (n.cs.getD i default).ln, (n.cs.getD i default).df, (i : Int), 1⟩ : Ac) ∈ arcsU n.cs fl j) ∧ (0 - (n.cs.getD i default).wt < cAt fl i → (⟨(n.cs.getD i default).ln, (n.cs.getD i default).ti, 0 - (n.cs.getD i default).df, (i : Int), -1⟩ : Ac) ∈ arcsU n.cs fl j)
 | 0, h, _ => by omega
 | j + 1, h, hj => by
  rw [arcsU]
  by_cases e : i = j
  ·subst e
   refine ⟨fun h1 => ?_, fun h1 => ?_⟩
   ·rw [arcF_y h1]; simp
   ·rw [arcB_y h1]; simp
  ·obtain ⟨a1, a2⟩ := arcsU_mem (n := n) (fl := fl) (i := i) (j := j) (by omega) (by omega)
   exact ⟨fun h1 => List.mem_append_left _ (a1 h1), fun h1 => List.mem_append_left _ (a2 h1)⟩
theorem getD_mem {n : Nt} {i : Int} (h0 : 0 ≤ i) (h1 : i < (n.cs.length : Int)) : n.cs.getD i.toNat default ∈ n.cs := by
 rw [List.getD_eq_getElem?_getD, List.getElem?_eq_getElem (show i.toNat < n.cs.length by omega)]
 exact List.getElem_mem _
theorem ArcOk.okA {n : Nt} (ok : OkN n) {fl : List Int} {a : Ac} (h : ArcOk n fl a) : OkA n.ls.length 10000 a := by
 have hm := getD_mem h.c0 h.c1
 have hx := ok.rg _ hm
 have hk := ok.kd _ hm
 have hne : (n.cs.getD a.cr.toNat default).ln ≠ (n.cs.getD a.cr.toNat default).ti := fun e => by
  rw [e, hk.2] at hk
  exact absurd hk.1 (by simp)
 have d1 := hx.df
 rcases h.dir with ⟨-, e1, e2, e3, -⟩ | ⟨-, e1, e2, e3, -⟩
 ·exact ⟨by rw [e1]; exact hx.t0, by rw [e1]; exact hx.t1, by rw [e2]; exact hx.l0, by rw [e2]; exact hx.l1, by omega, by omega, by rw [e1, e2]; exact fun e => hne e.symm⟩
 ·exact ⟨by rw [e1]; exact hx.l0, by rw [e1]; exact hx.l1, by rw [e2]; exact hx.t0, by rw [e2]; exact hx.t1, by omega, by omega, by rw [e1, e2]; exact hne⟩
def chgA (by_ : Int) (fl : List Int) (a : Ac) : List Int := fl.set a.cr.toNat (cAt fl a.cr + a.sg * by_)
def chgL (by_ : Int) (fl : List Int) (C : List Ac) : List Int := C.foldl (chgA by_) fl
def minA (n : Nt) (fl : List Int) (b : Int) (a : Ac) : Int := min b ((n.cs.getD a.cr.toNat default).wt - a.sg * cAt fl a.cr)
def minB (n : Nt) (fl : List Int) (C : List Ac) : Int := C.foldl (minA n fl) 20
theorem chgL_len (b : Int) : ∀ (C : List Ac) (fl : List Int), (chgL b fl C).length = fl.length
 | [], fl => rfl
 | a :: C, fl => by
  have : chgL b fl (a :: C) = chgL b (chgA b fl a) C := rfl
  rw [this, chgL_len b C, chgA, List.length_set]
theorem min_ok (n : Nt) (fl : List Int) : ∀ (C : List Ac) (b : Int), (∀ a ∈ C, ArcOk n fl a) → 1 ≤ b → b ≤ 20 → 1 ≤ C.foldl (minA n fl) b ∧ C.foldl (minA n fl) b ≤ b ∧ ∀ a ∈ C, C.foldl (minA n fl) b ≤ (n.cs.getD a.cr.toNat default).wt - a.sg * cAt fl a.cr
 | [], b, _, h1, h2 => ⟨h1, Int.le_refl _, fun a h => by cases h⟩
 | a :: C, b, hA, h1, h2 => by
  have ha := hA a List.mem_cons_self
  have hp : 1 ≤ (n.cs.getD a.cr.toNat default).wt - a.sg * cAt fl a.cr := by
   rcases ha.dir with ⟨e, -, -, -, h⟩ | ⟨e, -, -, -, h⟩ <;> rw [e] <;> omega
  have hb : minA n fl b a ≤ b ∧ minA n fl b a ≤ (n.cs.getD a.cr.toNat default).wt - a.sg * cAt fl a.cr ∧ 1 ≤ minA n fl b a := by unfold minA; omega
  obtain ⟨a1, a2, a3⟩ := min_ok n fl C (minA n fl b a) (fun a h => hA a (List.mem_cons_of_mem _ h)) hb.2.2 (by omega)
  rw [List.foldl_cons]
  refine ⟨a1, by omega, fun x hx => ?_⟩
  rcases List.mem_cons.1 hx with rfl | hx
  ·omega
  ·exact a3 x hx
section
variable {n : Nt} {fl : List Int} {P : List Int} {c : Int} {p : Nat}
theorem cyc_ne (H : CycOk (arcsU n.cs fl n.cs.length) n.ls.length P c p) {i j : Nat} (hij : i < j) (hj : j < p) : bkN (arcsU n.cs fl n.cs.length) P i c ≠ bkN (arcsU n.cs fl n.cs.length) P j c := fun e => by
 refine H.fst (i + (p - j)) (by omega) (by omega) ?_
 rw [bkN_add, e, ← bkN_add, show j + (p - j) = p by omega, H.ret]
def sgV (n : Nt) (v : Int) : Int := if tieOf n.ls v then -1 else 1
def dlP (ar : List Ac) (P : List Int) (c : Int) (x : Int) : Nat → Int
 | 0 => 0
 | i + 1 => dlP ar P c x i + if (arcP ar P (bkN ar P i c)).cr = x then (arcP ar P (bkN ar P i c)).sg else 0
theorem dlP_ok (H : CycOk (arcsU n.cs fl n.cs.length) n.ls.length P c p) (x : Int) : ∀ i, i ≤ p → (-1 ≤ dlP (arcsU n.cs fl n.cs.length) P c x i ∧ dlP (arcsU n.cs fl n.cs.length) P c x i ≤ 1) ∧
  (dlP (arcsU n.cs fl n.cs.length) P c x i = 1 → ∃ j, j < i ∧ (arcP (arcsU n.cs fl n.cs.length) P (bkN (arcsU n.cs fl n.cs.length) P j c)).cr = x ∧ (arcP (arcsU n.cs fl n.cs.length) P (bkN (arcsU n.cs fl n.cs.length) P j c)).sg = 1) ∧
  (dlP (arcsU n.cs fl n.cs.length) P c x i = -1 → ∃ j, j < i ∧ (arcP (arcsU n.cs fl n.cs.length) P (bkN (arcsU n.cs fl n.cs.length) P j c)).cr = x ∧ (arcP (arcsU n.cs fl n.cs.length) P (bkN (arcsU n.cs fl n.cs.length) P j c)).sg = -1)
 | 0, _ => by simp [dlP]
 | i + 1, hi => by
  obtain ⟨h1, h2, h3⟩ := dlP_ok H x i (by omega)
  rw [dlP]
  obtain ⟨-, hm, ht⟩ := H.inn i (by omega)
  have ha := arcsU_ok n.cs.length (Nat.le_refl _) _ hm
  by_cases e : (arcP (arcsU n.cs fl n.cs.length) P (bkN (arcsU n.cs fl n.cs.length) P i c)).cr = x
  ·rw [if_pos e]
   have key : ∀ j, j < i → (arcP (arcsU n.cs fl n.cs.length) P (bkN (arcsU n.cs fl n.cs.length) P j c)).cr = x → (arcP (arcsU n.cs fl n.cs.length) P (bkN (arcsU n.cs fl n.cs.length) P j c)).sg = (arcP (arcsU n.cs fl n.cs.length) P (bkN (arcsU n.cs fl n.cs.length) P i c)).sg → False := fun j hj e1 e2 => by
    obtain ⟨-, hm', ht'⟩ := H.inn j (by omega)
    have ha' := arcsU_ok n.cs.length (Nat.le_refl _) _ hm'
    have hne := cyc_ne H hj (by omega)
    rw [← ht, ← ht'] at hne
    have b1 := ha.dir
    have b2 := ha'.dir
    rw [e] at b1
    rw [e1] at b2
    rcases b1 with ⟨c1, -, c2, -, -⟩ | ⟨c1, -, c2, -, -⟩
    ·rcases b2 with ⟨d1, -, d2, -, -⟩ | ⟨d1, -, d2, -, -⟩
     ·exact hne (by rw [c2, d2])
     ·omega
    ·rcases b2 with ⟨d1, -, d2, -, -⟩ | ⟨d1, -, d2, -, -⟩
     ·omega
     ·exact hne (by rw [c2, d2])
   rcases ha.dir with ⟨s1, -⟩ | ⟨s1, -⟩
   ·have hlt : dlP (arcsU n.cs fl n.cs.length) P c x i ≠ 1 := fun q => by
     obtain ⟨j, hj, e1, e2⟩ := h2 q
     exact key j hj e1 (by rw [e2, s1])
    rw [s1]
    exact ⟨by omega, fun q => ⟨i, by omega, e, s1⟩, fun q => by omega⟩
   ·have hlt : dlP (arcsU n.cs fl n.cs.length) P c x i ≠ -1 := fun q => by
     obtain ⟨j, hj, e1, e2⟩ := h3 q
     exact key j hj e1 (by rw [e2, s1])
    rw [s1]
    exact ⟨by omega, fun q => by omega, fun q => ⟨i, by omega, e, s1⟩⟩
  ·rw [if_neg e, Int.add_zero]
   refine ⟨h1, fun q => ?_, fun q => ?_⟩
   ·obtain ⟨j, hj, e1⟩ := h2 q
    exact ⟨j, by omega, e1⟩
   ·obtain ⟨j, hj, e1⟩ := h3 q
    exact ⟨j, by omega, e1⟩
theorem cyc_snoc (ar : List Ac) (P : List Int) (c : Int) (i : Nat) : cycL ar P c (i + 1) = cycL ar P c i ++ [arcP ar P (bkN ar P i c)] := by unfold cycL; rw [List.range_succ]; simp
theorem chg_snoc (b : Int) (fl : List Int) (C : List Ac) (a : Ac) : chgL b fl (C ++ [a]) = chgA b (chgL b fl C) a := by unfold chgL; rw [List.foldl_append]; rfl
theorem chg_ok (ok : OkN n) (hl : fl.length = n.cs.length) (H : CycOk (arcsU n.cs fl n.cs.length) n.ls.length P c p) (b : Int) : ∀ i, i ≤ p →
  (∀ x : Nat, x < n.cs.length → cAt (chgL b fl (cycL (arcsU n.cs fl n.cs.length) P c i)) x = cAt fl x + dlP (arcsU n.cs fl n.cs.length) P c x i * b) ∧
  valU n.cs (chgL b fl (cycL (arcsU n.cs fl n.cs.length) P c i)) n.cs.length = valU n.cs fl n.cs.length + b * sumW (arcsU n.cs fl n.cs.length) P (fun i => bkN (arcsU n.cs fl n.cs.length) P i c) i ∧
  ∀ v, sumV n.cs (chgL b fl (cycL (arcsU n.cs fl n.cs.length) P c i)) v n.cs.length = sumV n.cs fl v n.cs.length + b * (sgV n v * ((if c = v then 1 else 0) - (if bkN (arcsU n.cs fl n.cs.length) P i c = v then 1 else 0)))
 | 0, _ => by
  refine ⟨fun x _ => ?_, ?_, fun v => ?_⟩
  ·simp [cycL, chgL, dlP]
  ·simp [cycL, chgL, sumW]
  ·show _ = _ + b * (sgV n v * ((if c = v then 1 else 0) - (if c = v then 1 else 0)))
   rw [Int.sub_self, Int.mul_zero, Int.mul_zero, Int.add_zero]; rfl
 | i + 1, hi => by
  obtain ⟨h1, h2, h3⟩ := chg_ok ok hl H b i (by omega)
  obtain ⟨-, hm, ht⟩ := H.inn i (by omega)
  have ha := arcsU_ok n.cs.length (Nat.le_refl _) _ hm
  have hk := ok.kd _ (getD_mem ha.c0 ha.c1)
  have hcl : (chgL b fl (cycL (arcsU n.cs fl n.cs.length) P c i)).length = n.cs.length := by rw [chgL_len, hl]
  rw [cyc_snoc, chg_snoc]
  have hfr : (arcP (arcsU n.cs fl n.cs.length) P (bkN (arcsU n.cs fl n.cs.length) P i c)).fr = bkN (arcsU n.cs fl n.cs.length) P (i + 1) c := rfl
  have hdl : ∀ x, dlP (arcsU n.cs fl n.cs.length) P c x (i + 1) = dlP (arcsU n.cs fl n.cs.length) P c x i + if (arcP (arcsU n.cs fl n.cs.length) P (bkN (arcsU n.cs fl n.cs.length) P i c)).cr = x then (arcP (arcsU n.cs fl n.cs.length) P (bkN (arcsU n.cs fl n.cs.length) P i c)).sg else 0 := fun x => rfl
  have hsw : sumW (arcsU n.cs fl n.cs.length) P (fun i => bkN (arcsU n.cs fl n.cs.length) P i c) (i + 1) = sumW (arcsU n.cs fl n.cs.length) P (fun i => bkN (arcsU n.cs fl n.cs.length) P i c) i + (arcP (arcsU n.cs fl n.cs.length) P (bkN (arcsU n.cs fl n.cs.length) P i c)).ln := rfl
  rw [hsw, ← hfr]
  generalize chgL b fl (cycL (arcsU n.cs fl n.cs.length) P c i) = F at *
  rw [← ht] at h3
  generalize arcP (arcsU n.cs fl n.cs.length) P (bkN (arcsU n.cs fl n.cs.length) P i c) = a at *
  have c0 := ha.c0
  have c1 := ha.c1
  have hcr : (a.cr.toNat : Int) = a.cr := by omega
  have hx : a.cr.toNat < F.length := by omega
  unfold chgA
  have hset : ∀ d, F.set a.cr.toNat (cAt F a.cr + d) = F.set a.cr.toNat (cAt F (a.cr.toNat : Int) + d) := fun d => by rw [hcr]
  rw [hset]
  refine ⟨fun x hxl => ?_, ?_, fun v => ?_⟩
  ·rw [cAt_setN hx, hdl, h1 x hxl]
   by_cases e : x = a.cr.toNat
   ·subst e
    rw [if_pos rfl, if_pos hcr.symm, h1 _ hxl, hcr, Int.add_mul]; omega
   ·rw [if_neg e, if_neg (by omega)]; simp
  ·rw [valU_set hx, if_pos (by omega), h2]
   rcases ha.dir with ⟨s, -, -, e, -⟩ | ⟨s, -, -, e, -⟩
   ·rw [s, e, Int.mul_add, Int.one_mul]; omega
   ·rw [s, e, Int.mul_add, Int.mul_sub, Int.mul_zero, Int.neg_mul, Int.neg_mul, Int.one_mul]; omega
  ·rw [sumV_set hx, if_pos (by omega), h3]
   have hat : att (n.cs.getD a.cr.toNat default) v (a.sg * b) = b * (sgV n v * ((if a.tv = v then 1 else 0) - (if a.fr = v then 1 else 0))) := by
    have hne := (ha.okA ok).ne
    unfold att
    rcases ha.dir with ⟨s, e1, e2, -⟩ | ⟨s, e1, e2, -⟩
    ·rw [← e1, ← e2] at hk
     rw [s, ← e1, ← e2]
     by_cases h1 : a.tv = v
     ·have g : sgV n v = 1 := by unfold sgV; rw [← h1, hk.1]; rfl
      rw [if_pos h1, if_neg (fun q => hne (q.trans h1.symm)), if_pos h1, if_neg (fun q => hne (q.trans h1.symm)), g]; simp
     ·rw [if_neg h1, if_neg h1]
      by_cases h2 : a.fr = v
      ·have g : sgV n v = -1 := by unfold sgV; rw [← h2, hk.2]; rfl
       rw [if_pos h2, if_pos h2, g]; simp
      ·rw [if_neg h2, if_neg h2]; simp
    ·rw [← e1, ← e2] at hk
     rw [s, ← e1, ← e2]
     by_cases h1 : a.tv = v
     ·have g : sgV n v = -1 := by unfold sgV; rw [← h1, hk.2]; rfl
      rw [if_pos h1, if_neg (fun q => hne (q.trans h1.symm)), if_pos h1, if_neg (fun q => hne (q.trans h1.symm)), g]; simp
     ·rw [if_neg h1, if_neg h1]
      by_cases h2 : a.fr = v
      ·have g : sgV n v = 1 := by unfold sgV; rw [← h2, hk.1]; rfl
       rw [if_pos h2, if_pos h2, g]; simp
      ·rw [if_neg h2, if_neg h2]; simp
   rw [hat, Int.add_assoc, ← Int.mul_add, ← Int.mul_add]
   congr 3
   generalize (if c = v then (1 : Int) else 0) = y1
   generalize (if a.tv = v then (1 : Int) else 0) = y2
   generalize (if a.fr = v then (1 : Int) else 0) = y3
   omega
theorem chg_fl (ok : OkN n) (hf : FlOk n fl) (H : CycOk (arcsU n.cs fl n.cs.length) n.ls.length P c p) :
  FlOk n (chgL (minB n fl (cycL (arcsU n.cs fl n.cs.length) P c p)) fl (cycL (arcsU n.cs fl n.cs.length) P c p)) ∧ valU n.cs fl n.cs.length < valU n.cs (chgL (minB n fl (cycL (arcsU n.cs fl n.cs.length) P c p)) fl (cycL (arcsU n.cs fl n.cs.length) P c p)) n.cs.length := by
 have hA : ∀ a ∈ cycL (arcsU n.cs fl n.cs.length) P c p, ArcOk n fl a := fun a ha => by
  obtain ⟨i, hi, rfl⟩ := List.mem_map.1 ha
  exact arcsU_ok _ (Nat.le_refl _) _ (H.inn i (by simpa using hi)).2.1
 obtain ⟨b1, b2, b3⟩ := min_ok n fl _ 20 hA (by omega) (by omega)
 rw [show (cycL (arcsU n.cs fl n.cs.length) P c p).foldl (minA n fl) 20 = minB n fl (cycL (arcsU n.cs fl n.cs.length) P c p) from rfl] at b1 b2 b3
 generalize minB n fl (cycL (arcsU n.cs fl n.cs.length) P c p) = b at *
 obtain ⟨h1, h2, h3⟩ := chg_ok ok hf.len H b p (Nat.le_refl _)
 refine ⟨⟨by rw [chgL_len, hf.len], fun i hi => ?_, fun v => ?_⟩, ?_⟩
 ·rw [h1 i hi]
  obtain ⟨⟨d1, d2⟩, d3, d4⟩ := dlP_ok H (i : Int) p (Nat.le_refl _)
  have hb := hf.bd i hi
  have hget : n.cs.getD ((i : Int)).toNat default = n.cs[i] := by rw [Int.toNat_natCast, List.getD_eq_getElem?_getD, List.getElem?_eq_getElem hi]; rfl
  have hw := (ok.rg n.cs[i] (List.getElem_mem hi)).wt
  have fin : ∀ j, j < p → (arcP (arcsU n.cs fl n.cs.length) P (bkN (arcsU n.cs fl n.cs.length) P j c)).cr = (i : Int) → b ≤ n.cs[i].wt - (arcP (arcsU n.cs fl n.cs.length) P (bkN (arcsU n.cs fl n.cs.length) P j c)).sg * cAt fl (i : Int) := fun j hj e => by
   have := b3 _ (List.mem_map.2 ⟨j, by simpa using hj, rfl⟩)
   rw [e, hget] at this
   exact this
  by_cases q1 : dlP (arcsU n.cs fl n.cs.length) P c (i : Int) p = 1
  ·obtain ⟨j, hj, e1, e2⟩ := d3 q1
   have := fin j hj e1
   rw [e2] at this
   rw [q1]; omega
  ·by_cases q2 : dlP (arcsU n.cs fl n.cs.length) P c (i : Int) p = -1
   ·obtain ⟨j, hj, e1, e2⟩ := d4 q2
    have := fin j hj e1
    rw [e2] at this
    rw [q2]; omega
   ·rw [show dlP (arcsU n.cs fl n.cs.length) P c (i : Int) p = 0 by omega]; omega
 ·rw [h3 v, hf.sum v, H.ret, Int.sub_self, Int.mul_zero, Int.mul_zero]; rfl
 ·rw [h2]
  have := Int.mul_pos (show (0 : Int) < b by omega) H.pos
  omega
end
end Go.Proofs.YtfchdbghjeophaaDoor
