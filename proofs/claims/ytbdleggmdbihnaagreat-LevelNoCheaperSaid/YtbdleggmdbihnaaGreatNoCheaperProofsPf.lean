/- LevelNoCheaper: the walk. -/
import Derived.Test.YtbdleggmdbihnaaGreatNoCheaperProofsPe
/- The flow of a net: the walk. -/
namespace Go.Proofs.YtbdleggmdbihnaaGreat
open Go.RowKit
set_option linter.unusedVariables false
set_option linter.unusedSimpArgs false
theorem upL_mem : ∀ (m : Nat), ∀ v ∈ upL m, 0 ≤ v ∧ v < (m : Int)
 | 0, v, h => by simp [upL] at h
 | m + 1, v, h => by
  rw [upL, List.mem_append, List.mem_singleton] at h
  rcases h with h | rfl
  ·have := upL_mem m v h; omega
  ·omega
theorem lg_out {m : Nat} {ar : List Ac} {B : Int} {fs : List Int} (hB : 0 ≤ B) (hO : ∀ a ∈ ar, OkA m B a) :
  (lgC ar m fs = [] ∧ (∃ q t, q < m + 1 ∧ LgI ar m B (srcL m fs) q ar.length t (lgS ar m fs).1) ∧ ∀ a ∈ ar, cAt (lgS ar m fs).1.L a.fr > -549755813888 → cAt (lgS ar m fs).1.L a.fr + a.ln ≤ cAt (lgS ar m fs).1.L a.tv) ∨
  (∃ P c p, lgC ar m fs = cycL ar P c p ∧ CycOk ar m P c p) := by
 have hinit : LgI ar m B (srcL m fs) 0 0 (fun _ => 0) ⟨srcL m fs, List.replicate m 0, -1⟩ := LgI.init (srcU_len m fs fs.length) (srcU_bd m fs fs.length)
 obtain ⟨g1, g2⟩ := lgR_ok hB hO (m + 1) 0 _ ⟨srcL m fs, List.replicate m 0, -1⟩ hinit
 cases h : (lgS ar m fs).2
 ·obtain ⟨t, a1, a2⟩ := g2 h (by omega)
  rw [show 0 + (m + 1) - 1 = m by omega] at a1
  refine .inr ⟨_, _, _, ?_, cyc_ok a1 hO a2⟩
  unfold lgC; rw [h]; rfl
 ·obtain ⟨q, t, hq, a1, a2⟩ := g1 h
  refine .inl ⟨?_, ⟨q, t, by omega, a1⟩, a2⟩
  unfold lgC; rw [h]; rfl
abbrev flC (n : Nt) (fl : List Int) : List Ac := lgC (arcsU n.cs fl n.cs.length) n.ls.length (upL n.ls.length)
def flF (n : Nt) : Nat → List Int → List Int
 | 0, fl => fl
 | f + 1, fl => if flC n fl = [] then fl else flF n f (chgL (minB n fl (flC n fl)) fl (flC n fl))
theorem FlOk.bd10 {n : Nt} (ok : OkN n) {fl : List Int} (h : FlOk n fl) : ∀ z ∈ fl, -10 ≤ z ∧ z ≤ 10 := fun z hz => by
 obtain ⟨i, hi, rfl⟩ := List.getElem_of_mem hz
 have hl := h.len
 have h1 := h.bd i (by omega)
 have h2 := (ok.rg n.cs[i] (List.getElem_mem (by omega))).wt
 have e : cAt fl (i : Int) = fl[i] := by unfold cAt; rw [Int.toNat_natCast, List.getD_eq_getElem?_getD, List.getElem?_eq_getElem hi]; rfl
 omega
theorem cAt_zer (m : Nat) (v : Int) : cAt (List.replicate m (0 : Int)) v = 0 := by
 unfold cAt
 rw [List.getD_eq_getElem?_getD, List.getElem?_replicate]
 split <;> rfl
theorem att_zero (x : Cr) (v : Int) : att x v 0 = 0 := by unfold att; simp
theorem fl_zero {n : Nt} (ok : OkN n) : FlOk n (List.replicate n.cs.length 0) := by
 refine ⟨by simp, fun i h => ?_, fun v => ?_⟩
 ·rw [cAt_zer]
  have := (ok.rg n.cs[i] (List.getElem_mem h)).wt
  omega
 ·have : ∀ i, sumV n.cs (List.replicate n.cs.length 0) v i = 0 := fun i => by
   induction i with
   | zero => rfl
   | succ i ih => rw [sumV, ih, cAt_zer, att_zero]; rfl
  exact this _
theorem val_zero (n : Nt) : ∀ i, valU n.cs (List.replicate n.cs.length 0) i = 0
 | 0 => rfl
 | i + 1 => by rw [valU, val_zero n i, cAt_zer]; simp
theorem arcsU_len16 {n : Nt} (ok : OkN n) (fl : List Int) : (arcsU n.cs fl n.cs.length).length ≤ 64 := by
 have := arcsU_len n.cs fl n.cs.length
 have := ok.c16
 omega
theorem fl_step {n : Nt} (ok : OkN n) {fl : List Int} (hf : FlOk n fl) (hC : flC n fl ≠ []) : FlOk n (chgL (minB n fl (flC n fl)) fl (flC n fl)) ∧ valU n.cs fl n.cs.length < valU n.cs (chgL (minB n fl (flC n fl)) fl (flC n fl)) n.cs.length := by
 rcases lg_out (m := n.ls.length) (fs := upL n.ls.length) (show (0 : Int) ≤ 10000 by omega) (fun a ha => (arcsU_ok (fl := fl) n.cs.length (Nat.le_refl _) a ha).okA ok) with ⟨h, -⟩ | ⟨P, c, p, h, H⟩
 ·exact absurd h hC
 ·rw [show flC n fl = _ from h]
  exact chg_fl ok hf H
theorem fl_val {n : Nt} (ok : OkN n) {fl : List Int} (hf : FlOk n fl) : valU n.cs fl n.cs.length ≤ 1600000 := by
 have h1 := (valU_bd ok (hf.bd10 ok) n.cs.length (Nat.le_refl _)).2
 have := ok.c16
 omega
theorem flF_ok {n : Nt} (ok : OkN n) : ∀ (f : Nat) (fl : List Int), FlOk n fl → (2000000 - valU n.cs fl n.cs.length).toNat < f → FlOk n (flF n f fl) ∧ flC n (flF n f fl) = []
 | 0, fl, hf, h => by omega
 | f + 1, fl, hf, h => by
  unfold flF
  split
  ·rename_i hC; exact ⟨hf, hC⟩
  ·rename_i hC
   obtain ⟨h1, h2⟩ := fl_step ok hf hC
   have := fl_val ok h1
   exact flF_ok ok f _ h1 (by omega)
abbrev flZ (n : Nt) : List Int := flF n 4000000 (List.replicate n.cs.length 0)
theorem flZ_ok {n : Nt} (ok : OkN n) : FlOk n (flZ n) ∧ flC n (flZ n) = [] := flF_ok ok _ _ (fl_zero ok) (by rw [val_zero]; simp)
theorem cyc_at {C : List Ac} {ar : List Ac} {P : List Int} {c : Int} {p j : Nat} (hC : C = cycL ar P c p) (hj : j < p) : (C.map encA)[0 + ((j : Nat) : Int).toNat]? = some (encA (arcP ar P (bkN ar P j c))) := by
 rw [hC, Nat.zero_add, Int.toNat_natCast, List.getElem?_map]
 unfold cycL
 rw [List.getElem?_map, List.getElem?_range hj]; rfl
abbrev flH (n : Nt) (rs : List MV) : MHeap := [⟨0, false, 2, [encN n]⟩, ⟨0, true, 1, []⟩, ⟨0, false, 1, rs⟩]
abbrev flH2 (n : Nt) (fl : List Int) (rs : List MV) (C : List Ac) (p : Nat) : MHeap := flH n rs ++ [⟨0, decide ((arcsU n.cs fl n.cs.length).length = 0), 5, (arcsU n.cs fl n.cs.length).map encA⟩, ⟨0, decide (n.ls.length = 0), 1, (upL n.ls.length).map I64⟩, ⟨0, false, 1, (lgS (arcsU n.cs fl n.cs.length) n.ls.length (upL n.ls.length)).1.L.map I64⟩, ⟨0, decide (p + 1 = 0), 5, C.map encA⟩]
theorem cr_at {n : Nt} {a : Ac} (h0 : 0 ≤ a.cr) (h1 : a.cr < (n.cs.length : Int)) : (n.cs.map encCr)[a.cr.toNat]? = some (encCr (n.cs.getD a.cr.toNat default)) := by
 have h : a.cr.toNat < n.cs.length := by omega
 rw [List.getElem?_map, List.getD_eq_getElem?_getD, List.getElem?_eq_getElem h]; rfl
theorem min_snoc (n : Nt) (fl : List Int) (b : Int) (C : List Ac) (a : Ac) : (C ++ [a]).foldl (minA n fl) b = min (C.foldl (minA n fl) b) ((n.cs.getD a.cr.toNat default).wt - a.sg * cAt fl a.cr) := by rw [List.foldl_append]; rfl
theorem mn_min (a b : Int) : mn a b = min a b := by unfold mn; omega
theorem mf_flow : MT.mf 88 = some mfW_l88 := mfW_q88
set_option maxHeartbeats 4000000 in
theorem flow_z (k : Nat) (n : Nt) (ok : OkN n) :
  runZ MT (orA (k + 5)) (itA (k + 5)) 4000000 88 [encN n] [] = some (.arr 0 0 n.cs.length 0, [⟨0, false, 1, (flZ n).map I64⟩]) := by
 have hs1 : (MV.sl (n.ls.map encLn)).slen = some n.ls.length := by simp [MV.slen]
 have hs2 : (MV.sl (n.cs.map encCr)).slen = some n.cs.length := by simp [MV.slen]
 have l1 := ok.l1
 have l8 := ok.l8
 have c16 := ok.c16
 have w1 := fun h => all_c (k + 4) n (by omega) h
 refine runZ_of mf_flow (by simp) ?_
 simp only [argsL]
 repeat (first | apply ef_seq | (apply ef_mv; exact rfl; exact rfl) | (apply ef_len; exact rfl; exact rfl; (assumption)) | (apply ef_ldp; exact rfl; exact rfl; (exact rfl); exact rfl; (exact rfl); (exact rfl)) | (apply ef_fap; exact rfl; exact rfl) | (apply ef_box; (iterate 4 exact rfl)) | (apply ef_nil0; exact rfl) | (apply ef_mks; exact rfl; exact rfl; (omega); (omega)) | apply ef_nil | apply seqQ.normal | apply ef_block)
 refine ef_loopf (α := Nat × List Int × List MV) (fun p => p.2.2 = p.2.1.map I64 ∧ FlOk n p.2.1 ∧ flZ n = flF n p.1 p.2.1 ∧ (2000000 - valU n.cs p.2.1 n.cs.length).toNat < p.1) (fun _ => []) [(1, .ptr 0 0 0 0), (3, .arr 2 0 n.cs.length 0)] (fun p => flH n p.2.2) (fun p => (2000000 - valU n.cs p.2.1 n.cs.length).toNat) (4000000, List.replicate n.cs.length 0, List.replicate n.cs.length (I64 0)) [] (fun _ => rfl) (by ((repeat (refine Hold.cons (by exact rfl) ?_)); exact Hold.nil)) (by ((repeat (refine Hold.cons (by exact rfl) ?_)); exact Hold.nil)) rfl rfl ⟨by simp, fl_zero ok, rfl, by rw [val_zero]; simp⟩ (by rw [val_zero]; simp) ?_
 rintro ⟨f, fl, rs⟩ ⟨hrs, hf, hZ, hm⟩
 try simp only at hrs hf hZ hm ⊢
 have hlr : ∀ j, ltL j rs = true := fun j => by rw [hrs]; exact ltL_I j _
 have hlen := hf.len
 obtain ⟨f, rfl⟩ : ∃ g, f = g + 1 := ⟨f - 1, by omega⟩
 rw [flF] at hZ
 have hout := lg_out (m := n.ls.length) (fs := upL n.ls.length) (show (0 : Int) ≤ 10000 by omega) (fun a ha => (arcsU_ok (fl := fl) n.cs.length (Nat.le_refl _) a ha).okA ok)
 have w2 := fun h v w hv hw => longest_c k n.ls.length l1 l8 (arcsU n.cs fl n.cs.length) 10000 (by omega) (by omega) (fun a ha => (arcsU_ok (fl := fl) n.cs.length (Nat.le_refl _) a ha).okA ok) (arcsU_len16 ok fl) (upL n.ls.length) (upL_mem _) (by rw [upL_len]; omega) h (v := v) (w := w) hv hw
 rcases hout with ⟨hC, -⟩ | ⟨P, c, p, hC, H⟩
 ·have hZ2 : flZ n = fl := by rw [hZ, show flC n fl = [] from hC, if_pos rfl]
  rw [hC] at w2
  repeat (first | apply ef_seq | (apply ef_mv; exact rfl; exact rfl) | (apply ef_len; exact rfl; exact rfl; (assumption)) | (apply ef_ldp; exact rfl; exact rfl; (exact rfl); exact rfl; (exact rfl); (first | exact rd_2 rfl rfl | exact rfl)) | (apply ef_fap; exact rfl; exact rfl) | apply ef_block)
  (apply ef_call; (· exact rfl); (· ((repeat (apply XVs.cons; exact rfl)); exact XVs.nil)); · exact arcs_c (k + 4) n ok fl hlen _ (frz_row (o := ⟨0, false, 1, rs⟩) rfl rfl (by simp [hlen]) (by rw [← hrs]; exact hlr 0) hrs))
  repeat (first | (apply ef_ldp; exact rfl; exact rfl; (exact rfl); exact rfl; (exact rfl); (exact rd_2 rfl rfl)) | (apply ef_call; exact rfl; ((repeat (apply XVs.cons; exact rfl)); exact XVs.nil); (with_reducible exact w1 _)))
  (apply ef_call; (· exact rfl); (· ((repeat (apply XVs.cons; exact rfl)); exact XVs.nil)); · exact w2 _ _ _ (frz_row (o := ⟨0, decide ((arcsU n.cs fl n.cs.length).length = 0), 5, (arcsU n.cs fl n.cs.length).map encA⟩) rfl rfl (by simp) (ltL_A 0 _) rfl) (frz_row (o := ⟨0, decide (n.ls.length = 0), 1, (upL n.ls.length).map I64⟩) rfl rfl (by simp [upL_len]) (ltL_I 0 _) rfl))
  repeat (first | apply ef_seq | (apply ef_mv; exact rfl; exact rfl) | (apply ef_ext; (iterate 3 exact rfl)) | apply ef_nil | apply seqQ.normal)
  refine ef_eqna (ht := by exact rfl) (by exact rfl) (by exact rfl) (by exact rfl) (by exact Nat.le_refl _) ?_
  repeat (first | apply ef_seq | (apply ef_mv; exact rfl; exact rfl) | apply ef_nil | apply seqQ.normal | apply loopQ.ret | apply ef_ret | apply seqQ.ret | apply blockQ.ret | (apply ef_condt; exact rfl; (exact (rfl : true = true))))
  (apply fin_arr; (· exact rfl); (· exact rfl); (· exact rfl); (· exact rfl); (· (show 0 + _ ≤ rs.length; rw [hrs]; simp [hlen])); (· (exact hlr 0)); (· (show (rs.drop 0).take _ = _; rw [hZ2, List.drop_zero, List.take_of_length_le (by rw [hrs]; simp [hlen]), hrs])); (· exact rfl); (· exact rfl); (· rfl))
 ·have hp0 := H.p0
  have hpm := H.pm
  have hCl : (lgC (arcsU n.cs fl n.cs.length) n.ls.length (upL n.ls.length)).length = p := by rw [hC, cycL_len]
  obtain ⟨p, rfl⟩ : ∃ q, p = q + 1 := ⟨p - 1, by omega⟩
  have hCn : flC n fl ≠ [] := fun e => by
   rw [show flC n fl = lgC (arcsU n.cs fl n.cs.length) n.ls.length (upL n.ls.length) from rfl] at e
   rw [e] at hCl; cases hCl
  rw [if_neg hCn] at hZ
  obtain ⟨hf2, hv2⟩ := fl_step ok hf hCn
  have hv3 := fl_val ok hf2
  rw [hCl] at w2
  obtain ⟨C, hCd⟩ : ∃ C, lgC (arcsU n.cs fl n.cs.length) n.ls.length (upL n.ls.length) = C := ⟨_, rfl⟩
  rw [hCd] at w2 hC hCl
  rw [show flC n fl = C from hCd] at hZ hf2 hv2 hv3
  have hlt2 : ∀ j, ltL j ((lgS (arcsU n.cs fl n.cs.length) n.ls.length (upL n.ls.length)).1.L.map I64) = true := fun j => ltL_I j _
  have hAr : ∀ i, i < p + 1 → ArcOk n fl (arcP (arcsU n.cs fl n.cs.length) P (bkN (arcsU n.cs fl n.cs.length) P i c)) := fun i hi => arcsU_ok _ (Nat.le_refl _) _ (H.inn i hi).2.1
  repeat (first | apply ef_seq | (apply ef_mv; exact rfl; exact rfl) | (apply ef_len; exact rfl; exact rfl; (assumption)) | (apply ef_ldp; exact rfl; exact rfl; (exact rfl); exact rfl; (exact rfl); (first | exact rd_2 rfl rfl | exact rfl)) | (apply ef_fap; exact rfl; exact rfl) | apply ef_block)
  (apply ef_call; (· exact rfl); (· ((repeat (apply XVs.cons; exact rfl)); exact XVs.nil)); · exact arcs_c (k + 4) n ok fl hlen _ (frz_row (o := ⟨0, false, 1, rs⟩) rfl rfl (by simp [hlen]) (by rw [← hrs]; exact hlr 0) hrs))
  repeat (first | (apply ef_ldp; exact rfl; exact rfl; (exact rfl); exact rfl; (exact rfl); (exact rd_2 rfl rfl)) | (apply ef_call; exact rfl; ((repeat (apply XVs.cons; exact rfl)); exact XVs.nil); (with_reducible exact w1 _)))
  (apply ef_call; (· exact rfl); (· ((repeat (apply XVs.cons; exact rfl)); exact XVs.nil)); · exact w2 _ _ _ (frz_row (o := ⟨0, decide ((arcsU n.cs fl n.cs.length).length = 0), 5, (arcsU n.cs fl n.cs.length).map encA⟩) rfl rfl (by simp) (ltL_A 0 _) rfl) (frz_row (o := ⟨0, decide (n.ls.length = 0), 1, (upL n.ls.length).map I64⟩) rfl rfl (by simp [upL_len]) (ltL_I 0 _) rfl))
  repeat (first | apply ef_seq | (apply ef_mv; exact rfl; exact rfl) | (apply ef_ext; (iterate 3 exact rfl)) | apply ef_nil | apply seqQ.normal)
  refine ef_eqna (ht := by exact rfl) (by exact rfl) (by exact rfl) (by exact rfl) (by show 0 + (p + 1) ≤ (List.map encA C).length; simp [hCl]) ?_
  repeat (first | apply ef_seq | (apply ef_mv; exact rfl; exact rfl) | (apply ef_len; exact rfl; exact rfl; (exact rfl)) | apply ef_nil | apply seqQ.normal | apply ef_block | apply ef_skip | (apply ef_condf; exact rfl; (exact (rfl : false = false))))
  refine ef_loopf (α := Nat × Int) (fun q => q.1 ≤ p + 1 ∧ q.2 = (cycL (arcsU n.cs fl n.cs.length) P c q.1).foldl (minA n fl) 20) (fun q => [(34, I64 (q.1 : Int)), (6, I64 q.2)]) [(33, I64 ((p + 1 : Nat) : Int)), (32, .arr 6 0 (p + 1) 0), (1, .ptr 0 0 0 0), (3, .arr 2 0 n.cs.length 0), (5, .arr 6 0 (p + 1) 0)] (fun _ => flH2 n fl rs C p) (fun q => p + 1 - q.1) (0, 20) [34, 6] (fun _ => rfl) (by ((repeat (refine Hold.cons (by exact rfl) ?_)); exact Hold.nil)) (by ((repeat (refine Hold.cons (by exact rfl) ?_)); exact Hold.nil)) rfl rfl ⟨by omega, rfl⟩ (by simp; omega) ?_
  rintro ⟨j, b⟩ ⟨hj, hb⟩
  try simp only at hj hb ⊢
  by_cases hlj : j < p + 1
  ·have e1 := cyc_at hC hlj
   have ha := hAr j hlj
   have hmb := min_ok n fl (cycL (arcsU n.cs fl n.cs.length) P c j) 20 (fun a ha => by
    obtain ⟨i, hi, rfl⟩ := List.mem_map.1 ha
    exact hAr i (by have : i < j := by simpa using hi
                    omega)) (by omega) (by omega)
   obtain ⟨mb1, mb2, -⟩ := hmb
   rw [← hb] at mb1 mb2
   have HN := Lib.hid (show (cycL (arcsU n.cs fl n.cs.length) P c (j + 1)).foldl (minA n fl) 20 = min ((cycL (arcsU n.cs fl n.cs.length) P c j).foldl (minA n fl) 20) ((n.cs.getD (arcP (arcsU n.cs fl n.cs.length) P (bkN (arcsU n.cs fl n.cs.length) P j c)).cr.toNat default).wt - (arcP (arcsU n.cs fl n.cs.length) P (bkN (arcsU n.cs fl n.cs.length) P j c)).sg * cAt fl (arcP (arcsU n.cs fl n.cs.length) P (bkN (arcsU n.cs fl n.cs.length) P j c)).cr) by rw [cyc_snoc, min_snoc])
   generalize arcP (arcsU n.cs fl n.cs.length) P (bkN (arcsU n.cs fl n.cs.length) P j c) = a at e1 ha HN
   have a0 := ha.c0
   have a1 := ha.c1
   have e2 := cr_at a0 a1
   have e3 := lit_at hrs hlen a0 a1
   have hx := ok.rg _ (getD_mem a0 a1)
   have hfb := hf.bd a.cr.toNat (by omega)
   rw [show ((a.cr.toNat : Nat) : Int) = a.cr by omega] at hfb
   have hget : n.cs[a.cr.toNat] = n.cs.getD a.cr.toNat default := by rw [List.getD_eq_getElem?_getD, List.getElem?_eq_getElem (show a.cr.toNat < n.cs.length by omega)]; rfl
   rw [hget] at hfb
   have hsg : a.sg = 1 ∨ a.sg = -1 := by rcases ha.dir with ⟨s, -⟩ | ⟨s, -⟩ <;> omega
   generalize n.cs.getD a.cr.toNat default = x at e2 hx HN hfb
   have hw := hx.wt
   generalize cAt fl a.cr = g at e3 HN hfb
   have m1 := mul_w (a := a.sg) (b := g) 1 10 (by omega) (by omega) (by omega) (by omega) (by omega)
   have m2 := mul_bd (a := a.sg) (b := g) (A := 1) (B := 10) (by omega) (by omega) (by omega) (by omega)
   repeat (first | apply ef_seq | (apply ef_mv; exact rfl; exact rfl) | (apply ef_bin; (iterate 3 exact rfl); (first | exact cmp_t rfl (by first | exact rfl | (simp only [cmpP]; omega)) | ((with_reducible refine bin_add (wrap_of ?_ ?_)) <;> omega) | ((with_reducible refine bin_sub (wrap_of ?_ ?_)) <;> omega) | ((with_reducible refine bin_mul (wrap_of ?_ ?_)) <;> omega))) | (apply ef_ldr; exact rfl; exact rfl; (exact rfl)) | (apply ef_ldp; exact rfl; exact rfl; (exact rfl); exact rfl; (first | exact rfl | assumption); (first | exact rd_5 rfl rfl rfl rfl rfl | exact rfl)) | (apply ef_ias; (iterate 3 exact rfl); (omega); assumption; exact rfl) | (apply ef_iaa; (iterate 3 exact rfl); (omega); (omega); (exact rfl)) | (apply ef_fap; exact rfl; exact rfl) | (apply ef_far; exact rfl; exact rfl) | (apply ef_mn; (iterate 3 exact rfl)) | (apply ef_new; exact rfl) | (apply ef_st; (iterate 6 exact rfl); (exact rfl); exact rfl) | apply ef_nil | apply seqQ.normal | apply blockQ.normal | apply ef_block | apply ef_skip | (apply ef_condt; exact rfl; (exact (rfl : true = true))))
   (refine loopQ.normal _ _ ⟨(j + 1, mn b (x.wt - a.sg * g)), ⟨hlj, by rw [HN.out, hb]; exact mn_min _ _⟩, (by first | (simp only; omega) | omega), ⟨by ((repeat (refine Hold.cons (by exact rfl) ?_)); exact Hold.nil), by ((repeat (refine Hold.cons (by exact rfl) ?_)); exact Hold.nil)⟩, .inr ⟨by ((repeat (refine hdl_cons rfl (by first | rfl | (simp [MV.lt, ltL, ltL_A, ltL_I, ltL_Ln, ltL_Cr, hlr, hlt2, splice, MV.cells])) ?_)); exact hdl_nil), by (simp [hltL, ltL, MV.lt, ltL, ltL_A, ltL_I, ltL_Ln, ltL_Cr, hlr, hlt2, splice, MV.cells])⟩, by exact rfl⟩)
  ·obtain rfl : j = p + 1 := by omega
   have hmb := min_ok n fl C 20 (fun a ha => by
    rw [hC] at ha
    obtain ⟨i, hi, rfl⟩ := List.mem_map.1 ha
    exact hAr i (by simpa using hi)) (by omega) (by omega)
   obtain ⟨mb1, mb2, -⟩ := hmb
   rw [← hC] at hb
   rw [← hb] at mb1 mb2
   rw [show minB n fl C = b from hb.symm] at hZ hf2 hv2 hv3
   repeat (first | apply ef_seq | (apply ef_mv; exact rfl; exact rfl) | (apply ef_bin; (iterate 3 exact rfl); (exact cmp_f rfl (by simp only [cmpP]; omega))) | (apply ef_len; exact rfl; exact rfl; (exact rfl)) | apply ef_nil | apply seqQ.normal | apply loopQ.exit | apply ef_exit | apply seqQ.exit | apply blockQ.here | apply ef_block | (apply ef_condf; exact rfl; (exact (rfl : false = false))))
   refine ef_loopf (α := Nat × List Int × List MV) (fun q => q.1 ≤ p + 1 ∧ q.2.1 = chgL b fl (cycL (arcsU n.cs fl n.cs.length) P c q.1) ∧ q.2.2 = q.2.1.map I64) (fun q => [(60, I64 (q.1 : Int))]) [(59, I64 ((p + 1 : Nat) : Int)), (58, .arr 6 0 (p + 1) 0), (3, .arr 2 0 n.cs.length 0), (6, I64 b), (1, .ptr 0 0 0 0)] (fun q => flH2 n fl q.2.2 C p) (fun q => p + 1 - q.1) (0, fl, rs) [60] (fun _ => rfl) (by ((repeat (refine Hold.cons (by exact rfl) ?_)); exact Hold.nil)) (by ((repeat (refine Hold.cons (by exact rfl) ?_)); exact Hold.nil)) rfl rfl ⟨by omega, rfl, hrs⟩ (by simp; omega) ?_
   rintro ⟨i, F, us⟩ ⟨hi, hF, hus⟩
   try simp only at hi hF hus ⊢
   have hFl : F.length = n.cs.length := by rw [hF, chgL_len, hlen]
   have hlu : ∀ j, ltL j us = true := fun j => by rw [hus]; exact ltL_I j _
   by_cases hli : i < p + 1
   ·have e1 := cyc_at hC hli
    have ha := hAr i hli
    obtain ⟨g1, -, -⟩ := chg_ok ok hlen H b i hi
    obtain ⟨d1, -, -⟩ := dlP_ok H (arcP (arcsU n.cs fl n.cs.length) P (bkN (arcsU n.cs fl n.cs.length) P i c)).cr i hi
    have HN := Lib.hid (show chgL b fl (cycL (arcsU n.cs fl n.cs.length) P c (i + 1)) = chgA b (chgL b fl (cycL (arcsU n.cs fl n.cs.length) P c i)) (arcP (arcsU n.cs fl n.cs.length) P (bkN (arcsU n.cs fl n.cs.length) P i c)) by rw [cyc_snoc, chg_snoc])
    rw [← hF] at g1 HN
    generalize arcP (arcsU n.cs fl n.cs.length) P (bkN (arcsU n.cs fl n.cs.length) P i c) = a at e1 ha HN d1
    have a0 := ha.c0
    have a1 := ha.c1
    have e3 := lit_at hus hFl a0 a1
    have g2 := g1 a.cr.toNat (by omega)
    have hx := ok.rg _ (getD_mem a0 a1)
    have hw := hx.wt
    have hfb := hf.bd a.cr.toNat (by omega)
    have hw2 := (ok.rg n.cs[a.cr.toNat] (List.getElem_mem (by omega))).wt
    rw [show ((a.cr.toNat : Nat) : Int) = a.cr by omega] at hfb g2
    have hsg : a.sg = 1 ∨ a.sg = -1 := by rcases ha.dir with ⟨s, -⟩ | ⟨s, -⟩ <;> omega
    have m0 := mul_bd (a := dlP (arcsU n.cs fl n.cs.length) P c a.cr i) (b := b) (A := 1) (B := 20) (by omega) (by omega) (by omega) (by omega)
    have m1 := mul_w (a := a.sg) (b := b) 1 20 (by omega) (by omega) (by omega) (by omega) (by omega)
    have m2 := mul_bd (a := a.sg) (b := b) (A := 1) (B := 20) (by omega) (by omega) (by omega) (by omega)
    have g3 : -40 ≤ cAt F a.cr ∧ cAt F a.cr ≤ 40 := by omega
    clear g1 g2 m0 d1
    have hls : ∀ (j i : Nat) (x : Int), ltL j (us.set i (I64 x)) = true := fun j i x => ltL_set (hlu j) rfl
    repeat (first | apply ef_seq | (apply ef_mv; exact rfl; exact rfl) | (apply ef_bin; (iterate 3 exact rfl); (first | exact cmp_t rfl (by first | exact rfl | (simp only [cmpP]; omega)) | ((with_reducible refine bin_add (wrap_of ?_ ?_)) <;> omega) | ((with_reducible refine bin_mul (wrap_of ?_ ?_)) <;> omega))) | (apply ef_ldp; exact rfl; exact rfl; (exact rfl); exact rfl; (first | exact rfl | assumption); (first | exact rd_5 rfl rfl rfl rfl rfl | exact rfl)) | (apply ef_iaa; (iterate 3 exact rfl); (omega); (omega); (exact rfl)) | (apply ef_fap; exact rfl; exact rfl) | (apply ef_new; exact rfl) | (apply ef_st; (iterate 6 exact rfl); (first | exact rfl | assumption); exact rfl) | apply ef_nil | apply seqQ.normal | apply blockQ.normal | apply ef_block | apply ef_skip | (apply ef_condt; exact rfl; (exact (rfl : true = true))))
    (refine loopQ.normal _ _ ⟨(i + 1, chgA b F a, us.set (0 + a.cr.toNat) (I64 (cAt F a.cr + a.sg * b))), ⟨hli, HN.out.symm, by rw [hus, Nat.zero_add]; unfold chgA; rw [List.map_set]⟩, (by first | (simp only; omega) | omega), ⟨by ((repeat (refine Hold.cons (by exact rfl) ?_)); exact Hold.nil), by ((repeat (refine Hold.cons (by exact rfl) ?_)); exact Hold.nil)⟩, .inr ⟨by ((repeat (refine hdl_cons rfl (by first | rfl | (simp [MV.lt, ltL, ltL_A, ltL_I, ltL_Ln, ltL_Cr, hls, hlt2, splice, MV.cells])) ?_)); exact hdl_nil), by (simp [hltL, ltL, MV.lt, ltL, ltL_A, ltL_I, ltL_Ln, ltL_Cr, hls, hlt2, splice, MV.cells])⟩, by exact rfl⟩)
   ·obtain rfl : i = p + 1 := by omega
    rw [← hC] at hF
    repeat (first | apply ef_seq | (apply ef_bin; (iterate 3 exact rfl); (exact cmp_f rfl (by simp only [cmpP]; omega))) | apply ef_nil | apply seqQ.normal | apply loopQ.exit | apply ef_exit | apply seqQ.exit | apply blockQ.normal | apply blockQ.here | (apply ef_condf; exact rfl; (exact (rfl : false = false))))
    (refine loopQ.normal _ _ ⟨(f, F, us), ⟨hus, by rw [hF]; exact hf2, by rw [hF]; exact hZ, by show (2000000 - valU n.cs F n.cs.length).toNat < f; rw [hF]; omega⟩, (by show (2000000 - valU n.cs F n.cs.length).toNat < (2000000 - valU n.cs fl n.cs.length).toNat; rw [hF]; omega), ⟨by ((repeat (refine Hold.cons (by exact rfl) ?_)); exact Hold.nil), by ((repeat (refine Hold.cons (by exact rfl) ?_)); exact Hold.nil)⟩, .inr ⟨by ((repeat (refine hdl_cons rfl (by first | rfl | (simp [MV.lt, ltL, ltL_A, ltL_I, ltL_Ln, ltL_Cr, hlu, hlt2, splice, MV.cells])) ?_)); exact hdl_nil), by (simp [hltL, ltL, MV.lt, ltL, ltL_A, ltL_I, ltL_Ln, ltL_Cr, hlu, hlt2, splice, MV.cells])⟩, by exact rfl⟩)
theorem flow_c (k : Nat) (n : Nt) (ok : OkN n) (h : MHeap) : orA (k + 6) 88 [encN n] h = some (.arr h.length 0 n.cs.length 0, h ++ [⟨0, false, 1, (flZ n).map I64⟩]) := by
 have := callA (k := k + 5) (h := h) (args := [encN n]) (args' := [encN n]) (frzL_lt (by simp [ltL, MV.lt, ltL_Ln, ltL_Cr])) rfl (flow_z k n ok) rfl (by simp [okH, ltL_I, pureL_I])
 simpa [shV, sh1] using this
end Go.Proofs.YtbdleggmdbihnaaGreat

/- Flows and corrections: no flow has a greater value than corrections cost; the program's flow has that of its potentials. Without a program. -/
namespace Go.Proofs.YtbdleggmdbihnaaGreat
set_option linter.unusedVariables false
set_option linter.unusedSimpArgs false
def sumN (g : Nat → Int) : Nat → Int
 | 0 => 0
 | k + 1 => sumN g k + g k
theorem sumN_zero {g : Nat → Int} : ∀ m, (∀ v, v < m → g v = 0) → sumN g m = 0
 | 0, _ => rfl
 | m + 1, h => by rw [sumN, sumN_zero m (fun v hv => h v (by omega)), h m (by omega)]; rfl
theorem sumN_add {g g' : Nat → Int} : ∀ m, sumN (fun v => g v + g' v) m = sumN g m + sumN g' m
 | 0 => rfl
 | m + 1 => by rw [sumN, sumN, sumN, sumN_add m]; omega
theorem sumN_pick {a : Int} (h0 : 0 ≤ a) (c : Int → Int) (f : Int) : ∀ m : Nat, sumN (fun v => c (v : Int) * (if a = (v : Int) then f else 0)) m = if a < (m : Int) then c a * f else 0
 | 0 => by rw [if_neg (by omega)]; rfl
 | m + 1 => by
  rw [sumN, sumN_pick h0 c f m]
  by_cases h : a = (m : Int)
  ·rw [if_neg (by omega), if_pos h, if_pos (by omega), ← h]; omega
  ·rw [if_neg h, Int.mul_zero]
   by_cases h2 : a < (m : Int)
   ·rw [if_pos h2, if_pos (by omega)]; omega
   ·rw [if_neg h2, if_neg (by omega)]; rfl
def resP (x : Cr) (p : Int → Int) : Int := x.df - p x.ln + p x.ti
def valP (cs : List Cr) (fl : List Int) (p : Int → Int) : Nat → Int
 | 0 => 0
 | i + 1 => valP cs fl p i + cAt fl i * resP (cs.getD i default) p
def absI (z : Int) : Int := if z < 0 then 0 - z else z
def costP (cs : List Cr) (p : Int → Int) : Nat → Int
 | 0 => 0
 | i + 1 => costP cs p i + (cs.getD i default).wt * absI (resP (cs.getD i default) p)
theorem valP_at {n : Nt} (ok : OkN n) (fl : List Int) (p : Int → Int) : ∀ i, i ≤ n.cs.length → valP n.cs fl p i = valU n.cs fl i - sumN (fun v => sgV n (v : Int) * p (v : Int) * sumV n.cs fl (v : Int) i) n.ls.length
 | 0, _ => by
  rw [sumN_zero n.ls.length (fun v _ => by simp [sumV])]; rfl
 | i + 1, hi => by
  have hm := getD_mem (n := n) (i := (i : Int)) (by omega) (by omega)
  rw [Int.toNat_natCast] at hm
  have hx := ok.rg _ hm
  have hk := ok.kd _ hm
  rw [valP, valU, valP_at ok fl p i (by omega)]
  have e : (fun v : Nat => sgV n (v : Int) * p (v : Int) * sumV n.cs fl (v : Int) (i + 1)) = fun v : Nat => (sgV n (v : Int) * p (v : Int) * sumV n.cs fl (v : Int) i) + ((fun u : Int => sgV n u * p u) (v : Int) * (if (n.cs.getD i default).ln = (v : Int) then cAt fl i else 0) + (fun u : Int => sgV n u * p u) (v : Int) * (if (n.cs.getD i default).ti = (v : Int) then cAt fl i else 0)) := by
   funext v
   rw [sumV, att, Int.mul_add, Int.mul_add]
  rw [e, sumN_add, sumN_add, sumN_pick hx.l0 (fun u : Int => sgV n u * p u), sumN_pick hx.t0 (fun u : Int => sgV n u * p u), if_pos hx.l1, if_pos hx.t1]
  generalize n.cs.getD i default = x at *
  have s1 : sgV n x.ln = 1 := by unfold sgV; rw [hk.1]; rfl
  have s2 : sgV n x.ti = -1 := by unfold sgV; rw [hk.2]; rfl
  simp only [s1, s2]
  unfold resP
  generalize cAt fl i = f
  generalize p x.ln = u
  generalize p x.ti = w
  rw [Int.mul_add, Int.mul_sub, Int.one_mul, Int.neg_mul, Int.neg_mul, Int.one_mul, Int.mul_comm u f, Int.mul_comm w f]
  omega
theorem valP_eq {n : Nt} (ok : OkN n) {fl : List Int} (hf : FlOk n fl) (p : Int → Int) : valP n.cs fl p n.cs.length = valU n.cs fl n.cs.length := by
 rw [valP_at ok fl p _ (Nat.le_refl _), sumN_zero n.ls.length (fun v _ => by rw [hf.sum]; simp)]; omega
theorem absI_mul {f w z : Int} (h1 : -w ≤ f) (h2 : f ≤ w) : f * z ≤ w * absI z := by
 unfold absI
 split
 ·have := Int.mul_le_mul_of_nonneg_right (show 0 - f ≤ w by omega) (show 0 ≤ 0 - z by omega)
  rw [Int.sub_mul, Int.zero_mul, Int.mul_sub, Int.mul_zero] at this
  omega
 ·exact Int.mul_le_mul_of_nonneg_right h2 (by omega)
theorem gd_at {n : Nt} {i : Nat} (h : i < n.cs.length) : n.cs.getD i default = n.cs[i] := by rw [List.getD_eq_getElem?_getD, List.getElem?_eq_getElem h]; rfl
theorem weak {n : Nt} (ok : OkN n) {fl : List Int} (hf : FlOk n fl) (p : Int → Int) : valU n.cs fl n.cs.length ≤ costP n.cs p n.cs.length := by
 rw [← valP_eq ok hf p]
 have : ∀ i, i ≤ n.cs.length → valP n.cs fl p i ≤ costP n.cs p i := fun i => by
  induction i with
  | zero => intro _; exact Int.le_refl _
  | succ i ih =>
   intro hi
   rw [valP, costP]
   have h1 := ih (by omega)
   have hb := hf.bd i (by omega)
   rw [← gd_at (by omega)] at hb
   have := absI_mul (z := resP (n.cs.getD i default) p) hb.1 hb.2
   omega
 exact this _ (Nat.le_refl _)
theorem strong {n : Nt} (ok : OkN n) {fl : List Int} (hf : FlOk n fl) {p : Int → Int} (hp : ∀ a ∈ arcsU n.cs fl n.cs.length, p a.fr + a.ln ≤ p a.tv) : valU n.cs fl n.cs.length = costP n.cs p n.cs.length := by
 rw [← valP_eq ok hf p]
 have : ∀ i, i ≤ n.cs.length → valP n.cs fl p i = costP n.cs p i := fun i => by
  induction i with
  | zero => intro _; rfl
  | succ i ih =>
   intro hi
   rw [valP, costP, ih (by omega)]
   have hb := hf.bd i (by omega)
   rw [← gd_at (by omega)] at hb
   obtain ⟨a1, a2⟩ := arcsU_mem (n := n) (fl := fl) (i := i) (j := n.cs.length) (by omega) (Nat.le_refl _)
   have h1 : cAt fl i < (n.cs.getD i default).wt → resP (n.cs.getD i default) p ≤ 0 := fun h => by
    have := hp _ (a1 h)
    simp only at this
    unfold resP; omega
   have h2 : 0 - (n.cs.getD i default).wt < cAt fl i → 0 ≤ resP (n.cs.getD i default) p := fun h => by
    have := hp _ (a2 h)
    simp only at this
    unfold resP; omega
   congr 1
   generalize n.cs.getD i default = x at *
   generalize resP x p = z at *
   generalize cAt fl i = f at *
   unfold absI
   split
   ·rw [show f = 0 - x.wt by omega, Int.sub_mul, Int.zero_mul, Int.mul_sub, Int.mul_zero]
   ·by_cases hz : z = 0
    ·rw [hz]; simp
    ·rw [show f = x.wt by omega]
 exact this _ (Nat.le_refl _)
theorem upL_at : ∀ (m i : Nat) (h : i < (upL m).length), (upL m)[i] = (i : Int)
 | 0, i, h => by simp [upL] at h
 | m + 1, i, h => by
  simp only [upL]
  rw [List.getElem_append]
  split
  ·exact upL_at m i _
  ·rename_i h2
   have := upL_len m
   have h3 : i = m := by simp [upL, upL_len] at h; omega
   simp [h3]
theorem srcL_up (m : Nat) {v : Int} (h0 : 0 ≤ v) (h1 : v < (m : Int)) : cAt (srcL m (upL m)) v = 0 := by
 have hl := upL_len m
 have h := srcU_at m (upL m) (upL_mem m) (upL m).length v.toNat (by omega) (by omega) (Nat.le_refl _)
 rw [upL_at, show ((v.toNat : Nat) : Int) = v by omega] at h
 exact h
theorem flow_pot {n : Nt} (ok : OkN n) {fl : List Int} (hC : flC n fl = []) : ∃ p : Int → Int, ∀ a ∈ arcsU n.cs fl n.cs.length, p a.fr + a.ln ≤ p a.tv := by
 have hO : ∀ a ∈ arcsU n.cs fl n.cs.length, OkA n.ls.length 10000 a := fun a ha => (arcsU_ok (fl := fl) n.cs.length (Nat.le_refl _) a ha).okA ok
 rcases lg_out (m := n.ls.length) (fs := upL n.ls.length) (show (0 : Int) ≤ 10000 by omega) hO with ⟨-, ⟨q, t, -, HI⟩, h⟩ | ⟨P, c, p, h, H⟩
 ·refine ⟨fun v => cAt (lgS (arcsU n.cs fl n.cs.length) n.ls.length (upL n.ls.length)).1.L v, fun a ha => h a ha ?_⟩
  have o := hO a ha
  have := HI.mon a.fr
  rw [srcL_up _ o.f0 o.f1] at this
  omega
 ·have h2 : (flC n fl).length = p := by rw [show flC n fl = _ from h, cycL_len]
  rw [hC] at h2
  have := H.p0
  simp at h2; omega
theorem flZ_max {n : Nt} (ok : OkN n) : (∀ fl, FlOk n fl → valU n.cs fl n.cs.length ≤ valU n.cs (flZ n) n.cs.length) ∧ ∃ p, valU n.cs (flZ n) n.cs.length = costP n.cs p n.cs.length := by
 obtain ⟨h1, h2⟩ := flZ_ok ok
 obtain ⟨p, hp⟩ := flow_pot ok h2
 have hs := strong ok h1 hp
 exact ⟨fun fl hf => by rw [hs]; exact weak ok hf p, p, hs⟩
end Go.Proofs.YtbdleggmdbihnaaGreat

/- Longest paths where there are potentials; the lowest and the greatest best corrections; without a program. -/
namespace Go.Proofs.YtbdleggmdbihnaaGreat
set_option linter.unusedVariables false
set_option linter.unusedSimpArgs false
def Feas (ar : List Ac) (f : Int → Int) : Prop := ∀ a ∈ ar, f a.fr + a.ln ≤ f a.tv
theorem feas_cyc {ar : List Ac} {m p : Nat} {P : List Int} {c : Int} {f : Int → Int} (hf : Feas ar f) (H : CycOk ar m P c p) : False := by
 have key : ∀ i, i ≤ p → sumW ar P (fun i => bkN ar P i c) i ≤ f c - f (bkN ar P i c) := fun i => by
  induction i with
  | zero => intro _; simp [sumW, bkN]
  | succ i ih =>
   intro hi
   obtain ⟨-, h2, h3⟩ := H.inn i (by omega)
   have h4 := hf _ h2
   rw [h3] at h4
   have h5 := ih (by omega)
   have e : bkN ar P (i + 1) c = (arcP ar P (bkN ar P i c)).fr := rfl
   rw [sumW, e]
   omega
 have h1 := key p (Nat.le_refl _)
 have h2 := H.pos
 rw [H.ret] at h1
 omega
structure LgOk (ar : List Ac) (m : Nat) (fs : List Int) (L : List Int) : Prop where
 len : L.length = m
 src : ∀ v ∈ fs, 0 ≤ cAt L v
 far : ∀ v, -1099511627776 ≤ cAt L v
 up : ∀ v, cAt L v ≤ 1000000000
 sat : ∀ a ∈ ar, cAt L a.fr > -549755813888 → cAt L a.fr + a.ln ≤ cAt L a.tv
 low : ∀ f : Int → Int, Feas ar f → (∀ v, 0 ≤ v → v < (m : Int) → cAt (srcL m fs) v ≤ f v) → ∀ v, 0 ≤ v → v < (m : Int) → cAt L v ≤ f v
theorem lg_feas {m : Nat} {ar : List Ac} {B : Int} {fs : List Int} (hB : 0 ≤ B) (hB2 : B ≤ 100000) (hm : m ≤ 8) (hl : ar.length ≤ 64) (hO : ∀ a ∈ ar, OkA m B a) (hfs : ∀ v ∈ fs, 0 ≤ v ∧ v < (m : Int)) {f : Int → Int} (hf : Feas ar f) : lgC ar m fs = [] ∧ LgOk ar m fs (lgS ar m fs).1.L := by
 rcases lg_out (fs := fs) hB hO with ⟨h1, ⟨q, t, hq, HI⟩, h2⟩ | ⟨P, c, p, -, H⟩
 ·refine ⟨h1, HI.lenL, fun v hv => ?_, fun v => (HI.bd v).1, fun v => ?_, h2, fun f hf hs => HI.low f hf hs⟩
  ·obtain ⟨i, hi, rfl⟩ := List.getElem_of_mem hv
   have := srcU_at m fs hfs fs.length i hi hi (Nat.le_refl _)
   have := HI.mon fs[i]
   have e : srcL m fs = srcU m fs fs.length := rfl
   rw [e] at this
   omega
  ·have h3 := (HI.bd v).2
   have h4 : q * ar.length + ar.length ≤ 9 * 64 + 64 := Nat.add_le_add (Nat.mul_le_mul (by omega) hl) hl
   have h5 : B * ((q * ar.length + ar.length : Nat) : Int) ≤ 100000 * 640 := Int.mul_le_mul hB2 (by omega) (by omega) (by omega)
   omega
 ·exact (feas_cyc hf H).elim
theorem srcL_one {m : Nat} {s v : Int} (h0 : 0 ≤ s) (h1 : s < (m : Int)) (hv : 0 ≤ v) : cAt (srcL m [s]) v = if v = s then 0 else if v < (m : Int) then -1099511627776 else 0 := by
 have e : srcL m [s] = (List.replicate m (-1099511627776 : Int)).set s.toNat 0 := rfl
 rw [e, cAt_set h0 (by simpa using h1) hv]
 split
 ·rfl
 ·unfold cAt
  rw [List.getD_eq_getElem?_getD, List.getElem?_replicate]
  by_cases h : v < (m : Int)
  ·rw [if_pos h, if_pos (by omega)]; rfl
  ·rw [if_neg h, if_neg (by omega)]; rfl
def Jn (n : Nt) : Prop := ∀ S : Int → Bool, S 0 = true → (∀ x ∈ n.cs, S x.ln = S x.ti) → ∀ v, 0 ≤ v → v < (n.ls.length : Int) → S v = true
theorem leave_all {n : Nt} (ok : OkN n) (hj : Jn n) {fl : List Int} (hf : FlOk n fl) {s : Int} (hs0 : 0 ≤ s) (hs1 : s < (n.ls.length : Int)) {S : Int → Bool} (h0 : S s = true) (hc : ∀ a ∈ arcsU n.cs fl n.cs.length, S a.fr = true → S a.tv = true) : ∀ v, 0 ≤ v → v < (n.ls.length : Int) → S v = true := by
 have key : ∀ i, i ≤ n.cs.length → sumN (fun v => sgV n (v : Int) * (if S (v : Int) then 1 else 0) * sumV n.cs fl (v : Int) i) n.ls.length ≤ 0 ∧ (sumN (fun v => sgV n (v : Int) * (if S (v : Int) then 1 else 0) * sumV n.cs fl (v : Int) i) n.ls.length = 0 → ∀ j (hj : j < i), j < n.cs.length → S (n.cs.getD j default).ln = S (n.cs.getD j default).ti) := fun i => by
  induction i with
  | zero =>
   intro _
   rw [sumN_zero n.ls.length (fun v _ => by simp [sumV])]
   exact ⟨Int.le_refl _, fun _ j hj => by omega⟩
  | succ i ih =>
   intro hi
   obtain ⟨ih1, ih2⟩ := ih (by omega)
   have hm := getD_mem (n := n) (i := (i : Int)) (by omega) (by omega)
   rw [Int.toNat_natCast] at hm
   have hx := ok.rg _ hm
   have hk := ok.kd _ hm
   have e : (fun v : Nat => sgV n (v : Int) * (if S (v : Int) then 1 else 0) * sumV n.cs fl (v : Int) (i + 1)) = fun v : Nat => (sgV n (v : Int) * (if S (v : Int) then 1 else 0) * sumV n.cs fl (v : Int) i) + ((fun u : Int => sgV n u * (if S u then 1 else 0)) (v : Int) * (if (n.cs.getD i default).ln = (v : Int) then cAt fl i else 0) + (fun u : Int => sgV n u * (if S u then 1 else 0)) (v : Int) * (if (n.cs.getD i default).ti = (v : Int) then cAt fl i else 0)) := by
    funext v
    rw [sumV, att, Int.mul_add, Int.mul_add]
   rw [e, sumN_add, sumN_add, sumN_pick hx.l0 (fun u : Int => sgV n u * (if S u then 1 else 0)), sumN_pick hx.t0 (fun u : Int => sgV n u * (if S u then 1 else 0)), if_pos hx.l1, if_pos hx.t1]
   obtain ⟨a1, a2⟩ := arcsU_mem (n := n) (fl := fl) (i := i) (j := n.cs.length) (by omega) (Nat.le_refl _)
   have hb := hf.bd i (by omega)
   rw [← gd_at (by omega)] at hb
   have s1 : sgV n (n.cs.getD i default).ln = 1 := by unfold sgV; rw [hk.1]; rfl
   have s2 : sgV n (n.cs.getD i default).ti = -1 := by unfold sgV; rw [hk.2]; rfl
   have hw := hx.wt
   have c1 := fun h => hc _ (a1 h)
   have c2 := fun h => hc _ (a2 h)
   simp only at c1 c2
   have hstep : (1 * (if S (n.cs.getD i default).ln then (1 : Int) else 0)) * cAt fl i + (-1 * (if S (n.cs.getD i default).ti then (1 : Int) else 0)) * cAt fl i ≤ 0 ∧ ((1 * (if S (n.cs.getD i default).ln then (1 : Int) else 0)) * cAt fl i + (-1 * (if S (n.cs.getD i default).ti then (1 : Int) else 0)) * cAt fl i = 0 → S (n.cs.getD i default).ln = S (n.cs.getD i default).ti) := by
    generalize n.cs.getD i default = x at *
    generalize cAt fl i = f at *
    cases h1 : S x.ln <;> cases h2 : S x.ti
    ·simp
    ·have : ¬ f < x.wt := fun h => by have := c1 h h2; rw [h1] at this; cases this
     simp; omega
    ·have : ¬ 0 - x.wt < f := fun h => by have := c2 h h1; rw [h2] at this; cases this
     simp; omega
    ·simp; omega
   simp only [s1, s2]
   refine ⟨by omega, fun hz j hj hjl => ?_⟩
   by_cases ej : j = i
   ·subst ej; exact hstep.2 (by omega)
   ·exact ih2 (by omega) j (by omega) hjl
 have hz := sumN_zero n.ls.length (g := fun v => sgV n (v : Int) * (if S (v : Int) then 1 else 0) * sumV n.cs fl (v : Int) n.cs.length) (fun v _ => by rw [hf.sum]; simp)
 have hcl : ∀ x ∈ n.cs, S x.ln = S x.ti := fun x hx => by
  obtain ⟨j, hj, rfl⟩ := List.getElem_of_mem hx
  have := (key _ (Nat.le_refl _)).2 hz j hj hj
  rwa [gd_at hj] at this
 cases hS0 : S 0 with
 | true => exact hj S hS0 hcl
 | false =>
  have := hj (fun v => !S v) (by simp [hS0]) (fun x hx => by rw [hcl x hx]) s hs0 hs1
  rw [h0] at this
  cases this
theorem lg_all {n : Nt} (ok : OkN n) (hj : Jn n) {fl : List Int} (hf : FlOk n fl) {s : Int} (hs0 : 0 ≤ s) (hs1 : s < (n.ls.length : Int)) {p : Int → Int} (hps : 0 ≤ p s) (hpa : ∀ a ∈ arcsU n.cs fl n.cs.length, p a.fr > -549755813888 → p a.fr + a.ln ≤ p a.tv) : ∀ v, 0 ≤ v → v < (n.ls.length : Int) → -80000 ≤ p v := by
 have l8 := ok.l8
 have hO : ∀ a ∈ arcsU n.cs fl n.cs.length, OkA n.ls.length 10000 a := fun a ha => (arcsU_ok (fl := fl) n.cs.length (Nat.le_refl _) a ha).okA ok
 have cnt : ∀ k : Nat, k ≤ 8 → (∀ v, 0 ≤ v → v < (n.ls.length : Int) → -10000 * (k : Int) ≤ p v) ∨ k + 1 ≤ ((List.range n.ls.length).filter fun v : Nat => decide (-10000 * (k : Int) ≤ p (v : Int))).length := fun k => by
  induction k with
  | zero =>
   intro _
   right
   have hm : s.toNat ∈ (List.range n.ls.length).filter fun v : Nat => decide (-10000 * ((0 : Nat) : Int) ≤ p (v : Int)) := by
    rw [List.mem_filter]
    refine ⟨List.mem_range.2 (by omega), ?_⟩
    have := hps
    rw [show ((s.toNat : Nat) : Int) = s by omega]
    simpa using this
   have := List.length_pos_of_mem hm
   omega
  | succ k ih =>
   intro hk
   rcases ih (by omega) with h | h
   ·left
    intro v h0 h1
    have := h v h0 h1
    omega
   ·-- is there a new line?
    by_cases hn : ∃ v, 0 ≤ v ∧ v < (n.ls.length : Int) ∧ -10000 * ((k + 1 : Nat) : Int) ≤ p v ∧ ¬ -10000 * (k : Int) ≤ p v
    ·right
     obtain ⟨v, h0, h1, h2, h3⟩ := hn
     have hsub : ((List.range n.ls.length).filter fun v : Nat => decide (-10000 * (k : Int) ≤ p (v : Int))).length < ((List.range n.ls.length).filter fun v : Nat => decide (-10000 * ((k + 1 : Nat) : Int) ≤ p (v : Int))).length := by
      rw [← List.countP_eq_length_filter, ← List.countP_eq_length_filter]
      have : ∀ l : List Nat, v.toNat ∈ l → l.countP (fun v : Nat => decide (-10000 * (k : Int) ≤ p (v : Int))) < l.countP (fun v : Nat => decide (-10000 * ((k + 1 : Nat) : Int) ≤ p (v : Int))) := fun l => by
       induction l with
       | nil => intro h; cases h
       | cons u l ih2 =>
        intro hm
        have hle : l.countP (fun v : Nat => decide (-10000 * (k : Int) ≤ p (v : Int))) ≤ l.countP (fun v : Nat => decide (-10000 * ((k + 1 : Nat) : Int) ≤ p (v : Int))) := List.countP_mono_left fun w _ hw => by simp only [decide_eq_true_eq] at hw ⊢; omega
        rw [List.countP_cons, List.countP_cons]
        rcases List.mem_cons.1 hm with e | hm
        ·rw [← e, show ((v.toNat : Nat) : Int) = v by omega, if_neg (by simpa using h3), if_pos (by simpa using h2)]
         omega
        ·have := ih2 hm
         by_cases q : -10000 * (k : Int) ≤ p (u : Int)
         ·rw [if_pos (by simpa using q), if_pos (by simp only [decide_eq_true_eq]; omega)]; omega
         ·rw [if_neg (by simpa using q)]; omega
      exact this _ (List.mem_range.2 (by omega))
     omega
    ·left
     have hcl := leave_all ok hj hf hs0 hs1 (S := fun v => decide (-10000 * (k : Int) ≤ p v)) (by have := hps; simp only [decide_eq_true_eq]; omega) (fun a ha hfr => by
      simp only [decide_eq_true_eq] at hfr ⊢
      have o := hO a ha
      have h1 := hpa a ha (by omega)
      have h2 := o.l0
      refine Classical.byContradiction fun hnot => hn ⟨a.tv, o.t0, o.t1, by omega, hnot⟩)
     intro v h0 h1
     have := hcl v h0 h1
     simp only [decide_eq_true_eq] at this
     omega
 rcases cnt 8 (Nat.le_refl _) with h | h
 ·intro v h0 h1
  have := h v h0 h1
  omega
 ·have := List.length_filter_le (fun v => decide (-10000 * ((8 : Nat) : Int) ≤ p ((v : Nat) : Int))) (List.range n.ls.length)
  rw [List.length_range] at this
  omega
end Go.Proofs.YtbdleggmdbihnaaGreat

/- The cost of corrections is convex along sets of lines: where no set of lines can be moved by 1, nothing is cheaper; without a program. -/
namespace Go.Proofs.YtbdleggmdbihnaaGreat
set_option linter.unusedVariables false
set_option linter.unusedSimpArgs false
theorem costP_congr {cs : List Cr} {m : Nat} (hr : ∀ x ∈ cs, (0 ≤ x.ln ∧ x.ln < (m : Int)) ∧ (0 ≤ x.ti ∧ x.ti < (m : Int))) {p q : Int → Int} (h : ∀ v, 0 ≤ v → v < (m : Int) → p v = q v) : ∀ i, i ≤ cs.length → costP cs p i = costP cs q i
 | 0, _ => rfl
 | i + 1, hi => by
  have hx := hr (cs.getD i default) (by rw [List.getD_eq_getElem?_getD, List.getElem?_eq_getElem (by omega)]; exact List.getElem_mem _)
  rw [costP, costP, costP_congr hr h i (by omega)]
  unfold resP
  rw [h _ hx.1.1 hx.1.2, h _ hx.2.1 hx.2.2]
end Go.Proofs.YtbdleggmdbihnaaGreat

/- The lowest and the greatest best corrections of a joined net, by longest paths; without a program. -/
namespace Go.Proofs.YtbdleggmdbihnaaGreat
set_option linter.unusedVariables false
set_option linter.unusedSimpArgs false
abbrev arZ (n : Nt) : List Ac := arcsU n.cs (flZ n) n.cs.length
def minC (n : Nt) : Int := valU n.cs (flZ n) n.cs.length
theorem minC_le {n : Nt} (ok : OkN n) (p : Int → Int) : minC n ≤ costP n.cs p n.cs.length := weak ok (flZ_ok ok).1 p
theorem feas_best {n : Nt} (ok : OkN n) {p : Int → Int} (h : Feas (arZ n) p) : costP n.cs p n.cs.length = minC n := (strong ok (flZ_ok ok).1 h).symm
theorem best_feas {n : Nt} (ok : OkN n) {p : Int → Int} (h : costP n.cs p n.cs.length = minC n) : Feas (arZ n) p := by
 have hf := (flZ_ok ok).1
 have hv := valP_eq ok hf p
 have key : ∀ i, i ≤ n.cs.length → valP n.cs (flZ n) p i ≤ costP n.cs p i ∧ (valP n.cs (flZ n) p i = costP n.cs p i → ∀ j, j < i → cAt (flZ n) (j : Nat) * resP (n.cs.getD j default) p = (n.cs.getD j default).wt * absI (resP (n.cs.getD j default) p)) := fun i => by
  induction i with
  | zero => intro _; exact ⟨Int.le_refl _, fun _ j hj => by omega⟩
  | succ i ih =>
   intro hi
   obtain ⟨h1, h2⟩ := ih (by omega)
   have hb := hf.bd i (by omega)
   rw [← gd_at (by omega)] at hb
   have h3 := absI_mul (z := resP (n.cs.getD i default) p) hb.1 hb.2
   rw [valP, costP]
   refine ⟨by omega, fun he j hj => ?_⟩
   by_cases e : j = i
   ·subst e; omega
   ·exact h2 (by omega) j (by omega)
 have hk := (key _ (Nat.le_refl _)).2 (by rw [hv, h]; rfl)
 intro a ha
 have o := arcsU_ok (fl := flZ n) n.cs.length (Nat.le_refl _) a ha
 have hj : a.cr.toNat < n.cs.length := by have := o.c0; have := o.c1; omega
 have he := hk a.cr.toNat hj
 rw [show ((a.cr.toNat : Nat) : Int) = a.cr by have := o.c0; omega] at he
 have hx := ok.rg _ (List.getElem_mem hj)
 rw [← gd_at hj] at hx
 have hw := hx.wt
 rcases o.dir with ⟨-, e1, e2, e3, e4⟩ | ⟨-, e1, e2, e3, e4⟩
 ·rw [e1, e2, e3]
  generalize n.cs.getD a.cr.toNat default = x at *
  generalize cAt (flZ n) a.cr = f at *
  have : ¬ 0 < resP x p := fun hp => by
   unfold absI at he
   rw [if_neg (by omega)] at he
   have := Int.mul_lt_mul_of_pos_right e4 hp
   omega
  unfold resP at this
  omega
 ·rw [e1, e2, e3]
  generalize n.cs.getD a.cr.toNat default = x at *
  generalize cAt (flZ n) a.cr = f at *
  have : ¬ resP x p < 0 := fun hp => by
   unfold absI at he
   rw [if_pos hp] at he
   have := Int.mul_lt_mul_of_pos_right e4 (show 0 < 0 - resP x p by omega)
   rw [Int.mul_sub, Int.mul_zero] at he
   rw [Int.sub_mul, Int.zero_mul, Int.mul_sub, Int.mul_zero, Int.mul_sub, Int.mul_zero] at this
   omega
  unfold resP at this
  omega
theorem pot0 {n : Nt} (ok : OkN n) : ∃ p : Int → Int, p 0 = 0 ∧ Feas (arZ n) p := by
 obtain ⟨p, hp⟩ := flow_pot ok (flZ_ok ok).2
 exact ⟨fun v => p v - p 0, by simp, fun a ha => by have := hp a ha; simp only; omega⟩
theorem arZ_ok {n : Nt} (ok : OkN n) : ∀ a ∈ arZ n, OkA n.ls.length 10000 a := fun a ha => (arcsU_ok (fl := flZ n) n.cs.length (Nat.le_refl _) a ha).okA ok
abbrev lgZ (n : Nt) (s : Int) : List Int := (lgS (arZ n) n.ls.length [s]).1.L
theorem lgZ_ok {n : Nt} (ok : OkN n) {s : Int} (h0 : 0 ≤ s) (h1 : s < (n.ls.length : Int)) : lgC (arZ n) n.ls.length [s] = [] ∧ LgOk (arZ n) n.ls.length [s] (lgZ n s) := by
 obtain ⟨p, -, hp⟩ := pot0 ok
 exact lg_feas (by omega) (by omega) ok.l8 (arcsU_len16 ok _) (arZ_ok ok) (fun v hv => by rw [List.mem_singleton] at hv; subst hv; exact ⟨h0, h1⟩) hp
theorem lgZ_all {n : Nt} (ok : OkN n) (hj : Jn n) {s : Int} (h0 : 0 ≤ s) (h1 : s < (n.ls.length : Int)) : ∀ v, 0 ≤ v → v < (n.ls.length : Int) → -80000 ≤ cAt (lgZ n s) v := by
 have hL := (lgZ_ok ok h0 h1).2
 exact lg_all ok hj (flZ_ok ok).1 h0 h1 (p := cAt (lgZ n s)) (hL.src s (by simp)) hL.sat
theorem lgZ_feas {n : Nt} (ok : OkN n) (hj : Jn n) {s : Int} (h0 : 0 ≤ s) (h1 : s < (n.ls.length : Int)) : Feas (arZ n) (cAt (lgZ n s)) := fun a ha => by
 have o := arZ_ok ok a ha
 have := lgZ_all ok hj h0 h1 a.fr o.f0 o.f1
 exact (lgZ_ok ok h0 h1).2.sat a ha (by omega)
theorem feas_bd {n : Nt} (ok : OkN n) (hj : Jn n) {q : Int → Int} (hq : Feas (arZ n) q) {s v : Int} (h0 : 0 ≤ s) (h1 : s < (n.ls.length : Int)) (v0 : 0 ≤ v) (v1 : v < (n.ls.length : Int)) : -80000 ≤ q v - q s :=
 lg_all ok hj (flZ_ok ok).1 h0 h1 (p := fun v => q v - q s) (by simp) (fun a ha _ => by have := hq a ha; omega) v v0 v1
theorem lgZ_low {n : Nt} (ok : OkN n) (hj : Jn n) {q : Int → Int} (hq : Feas (arZ n) q) {s v : Int} (h0 : 0 ≤ s) (h1 : s < (n.ls.length : Int)) (v0 : 0 ≤ v) (v1 : v < (n.ls.length : Int)) : cAt (lgZ n s) v ≤ q v - q s := by
 refine (lgZ_ok ok h0 h1).2.low (fun v => q v - q s) (fun a ha => by have := hq a ha; simp only; omega) (fun u u0 u1 => ?_) v v0 v1
 rw [srcL_one h0 h1 u0]
 have := feas_bd ok hj hq h0 h1 u0 u1
 split
 ·rename_i e; subst e; simp
 ·omega
theorem lgZ_self {n : Nt} (ok : OkN n) (hj : Jn n) {s : Int} (h0 : 0 ≤ s) (h1 : s < (n.ls.length : Int)) : cAt (lgZ n s) s = 0 := by
 obtain ⟨p, -, hp⟩ := pot0 ok
 have := lgZ_low ok hj hp h0 h1 h0 h1
 have := (lgZ_ok ok h0 h1).2.src s (by simp)
 omega
def upP (n : Nt) (v : Int) : Int := 0 - cAt (lgZ n v) 0
theorem upP_feas {n : Nt} (ok : OkN n) (hj : Jn n) : Feas (arZ n) (upP n) := fun a ha => by
 have o := arZ_ok ok a ha
 have l1 := ok.l1
 have h1 := lgZ_feas ok hj o.f0 o.f1
 have h2 := lgZ_low ok hj h1 o.t0 o.t1 (v := 0) (by omega) (by omega)
 have h3 := h1 a ha
 have h4 := (lgZ_ok ok o.f0 o.f1).2.src a.fr (by simp)
 unfold upP
 omega
theorem upP_zero {n : Nt} (ok : OkN n) (hj : Jn n) : upP n 0 = 0 := by
 have l1 := ok.l1
 unfold upP
 rw [lgZ_self ok hj (by omega) (by omega)]; rfl
theorem upP_ge {n : Nt} (ok : OkN n) (hj : Jn n) {q : Int → Int} (hq : Feas (arZ n) q) (h0 : q 0 = 0) {v : Int} (v0 : 0 ≤ v) (v1 : v < (n.ls.length : Int)) : q v ≤ upP n v := by
 have l1 := ok.l1
 have := lgZ_low ok hj hq v0 v1 (v := 0) (by omega) (by omega)
 unfold upP
 omega
theorem best_in {n : Nt} (ok : OkN n) (hj : Jn n) {q : Int → Int} (hq : costP n.cs q n.cs.length = minC n) (h0 : q 0 = 0) {v : Int} (v0 : 0 ≤ v) (v1 : v < (n.ls.length : Int)) : cAt (lgZ n 0) v ≤ q v ∧ q v ≤ upP n v ∧ -80000 ≤ q v ∧ q v ≤ 80000 := by
 have l1 := ok.l1
 have hf := best_feas ok hq
 have h1 := lgZ_low ok hj hf (s := 0) (by omega) (by omega) v0 v1
 have h2 := upP_ge ok hj hf h0 v0 v1
 have h3 := feas_bd ok hj hf (s := 0) (by omega) (by omega) v0 v1
 have h4 := feas_bd ok hj hf v0 v1 (v := 0) (by omega) (by omega)
 rw [h0] at h1 h3 h4
 exact ⟨by omega, h2, by omega, by omega⟩
end Go.Proofs.YtbdleggmdbihnaaGreat

/- Contracts: sizes, sums of weights times sizes, clones, other differences. -/
namespace Go.Proofs.YtbdleggmdbihnaaGreat
open Go.RowKit
set_option linter.unusedVariables false
set_option linter.unusedSimpArgs false
theorem mx_abs (z : Int) : mx z (0 - z) = absI z := by unfold mx absI; split <;> split <;> omega
theorem absI_bd {z B : Int} (h1 : -B ≤ z) (h2 : z ≤ B) : 0 ≤ absI z ∧ absI z ≤ B := by unfold absI; split <;> omega
theorem mf_size : MT.mf 117 = some mfW_l117 := mfW_q117
theorem size_c (k : Nat) (z : Int) (h1 : -1000000000000 ≤ z) (h2 : z ≤ 1000000000000) (h : MHeap) : orA (k + 1) 117 [I64 z] h = some (I64 (absI z), h) := by
 refine callL (args' := [I64 z]) (frzL_lt rfl) rfl (runZ_of mf_size (by simp) ?_)
 simp only [argsL]
 repeat (first | apply ef_seq | (apply ef_mv; exact rfl; exact rfl) | (apply ef_neg; exact rfl; exact rfl; exact wrap_of (by omega) (by omega)) | (apply ef_mx; (iterate 3 exact rfl)) | apply ef_nil | apply seqQ.normal | apply ef_ret)
 (refine fin1 rfl (by exact rfl) rfl ?_)
 rw [mx_abs]
theorem mf_bSize : MT.mf 121 = some mfW_l117 := by kernel_rfl
theorem bSize_c (k : Nat) (z : Int) (h1 : -1000000000000 ≤ z) (h2 : z ≤ 1000000000000) (h : MHeap) : orA (k + 1) 121 [I64 z] h = some (I64 (absI z), h) := by
 refine callL (args' := [I64 z]) (frzL_lt rfl) rfl (runZ_of mf_bSize (by simp) ?_)
 simp only [argsL]
 repeat (first | apply ef_seq | (apply ef_mv; exact rfl; exact rfl) | (apply ef_neg; exact rfl; exact rfl; exact wrap_of (by omega) (by omega)) | (apply ef_mx; (iterate 3 exact rfl)) | apply ef_nil | apply seqQ.normal | apply ef_ret)
 (refine fin1 rfl (by exact rfl) rfl ?_)
 rw [mx_abs]
def wsU (cs : List Cr) (ds : List Int) : Nat → Int
 | 0 => 0
 | i + 1 => wsU cs ds i + (cs.getD i default).wt * absI (cAt ds i)
theorem wsU_next {cs : List Cr} {ds : List Int} {i : Nat} {x : Cr} (h : cs[i]? = some x) : wsU cs ds (i + 1) = wsU cs ds i + x.wt * absI (cAt ds i) := by
 rw [wsU, List.getD_eq_getElem?_getD, h]; rfl
theorem wsU_bd {n : Nt} (ok : OkN n) {ds : List Int} (hb : ∀ v, -1000000000000 ≤ cAt ds v ∧ cAt ds v ≤ 1000000000000) : ∀ i, i ≤ n.cs.length → 0 ≤ wsU n.cs ds i ∧ wsU n.cs ds i ≤ 10000000000000 * (i : Int)
 | 0, _ => by simp [wsU]
 | i + 1, hi => by
  have ih := wsU_bd ok hb i (by omega)
  have hx := (ok.rg n.cs[i] (List.getElem_mem (by omega))).wt
  rw [wsU_next (List.getElem?_eq_getElem (by omega))]
  have ha := absI_bd (hb (i : Int)).1 (hb (i : Int)).2
  have := mul_bd (a := n.cs[i].wt) (b := absI (cAt ds i)) (A := 10) (B := 1000000000000) (by omega) (by omega) (by omega) (by omega)
  have := Int.mul_nonneg (show 0 ≤ n.cs[i].wt by omega) ha.1
  omega
theorem mf_cost : MT.mf 78 = some mfW_l78 := mfW_q78
set_option maxHeartbeats 1000000 in
theorem cost_z (k : Nat) (n : Nt) (ok : OkN n) (ds : List Int) (hl : ds.length = n.cs.length) (hb : ∀ v, -1000000000000 ≤ cAt ds v ∧ cAt ds v ≤ 1000000000000) :
  runZ MT (orA (k + 1)) (itA (k + 1)) 4000000 78 [encN n, .sl (ds.map I64)] [] = some (I64 (wsU n.cs ds n.cs.length), []) := by
 have hs2 : (MV.sl (n.cs.map encCr)).slen = some n.cs.length := by simp [MV.slen]
 have c16 := ok.c16
 refine runZ_of mf_cost (by simp) ?_
 simp only [argsL]
 repeat (first | apply ef_seq | (apply ef_mv; exact rfl; exact rfl) | (apply ef_len; exact rfl; exact rfl; (assumption)) | (apply ef_ldp; exact rfl; exact rfl; (exact rfl); exact rfl; (exact rfl); (exact rfl)) | (apply ef_fap; exact rfl; exact rfl) | (apply ef_box; (iterate 4 exact rfl)) | apply ef_nil | apply seqQ.normal | apply ef_block)
 refine ef_loopf (α := Nat × Int) (fun p => p.1 ≤ n.cs.length ∧ p.2 = wsU n.cs ds p.1) (fun p => [(12, I64 (p.1 : Int)), (5, I64 p.2)]) [(11, I64 (n.cs.length : Int)), (10, .sl (n.cs.map encCr)), (1, .sl (ds.map I64))] (fun _ => [⟨0, false, 2, [encN n]⟩]) (fun p => n.cs.length - p.1) (0, 0) [12, 5] (fun _ => rfl) (by ((repeat (refine Hold.cons (by exact rfl) ?_)); exact Hold.nil)) (by ((repeat (refine Hold.cons (by exact rfl) ?_)); exact Hold.nil)) rfl rfl ⟨by omega, rfl⟩ (by simp; omega) ?_
 rintro ⟨i, q⟩ ⟨hi, hq⟩
 try simp only at hi hq ⊢
 by_cases hlt : i < n.cs.length
 ·have e1 := at_map encCr n.cs i hlt
  have hat : n.cs[i]? = some n.cs[i] := List.getElem?_eq_getElem hlt
  have hx := ok.rg n.cs[i] (List.getElem_mem hlt)
  have e2 := cAt_at hl (i := (i : Int)) (by omega) (by omega)
  have hv := wsU_bd ok hb i hi
  have hvn := wsU_bd ok hb (i + 1) hlt
  have hbi := hb (i : Int)
  generalize n.cs[i] = x at e1 hat hx
  have HN := Lib.hid (wsU_next (ds := ds) hat)
  rw [HN.out] at hvn
  have w2 := hx.wt
  rw [← hq] at hv hvn
  generalize cAt ds i = f at e2 HN hvn hbi
  have ha := absI_bd hbi.1 hbi.2
  have w3 := fun h => size_c k f (by omega) (by omega) h
  generalize absI f = g at *
  have m1 := mul_w (a := x.wt) (b := g) 10 1000000000000 (by omega) (by omega) (by omega) (by omega) (by omega)
  repeat (first | apply ef_seq | (apply ef_mv; exact rfl; exact rfl) | (apply ef_bin; (iterate 3 exact rfl); (first | exact cmp_t rfl (by first | exact rfl | (simp only [cmpP]; omega)) | ((with_reducible refine bin_add (wrap_of ?_ ?_)) <;> omega) | ((with_reducible refine bin_mul (wrap_of ?_ ?_)) <;> omega))) | (apply ef_ldr; exact rfl; exact rfl; (first | exact rd_6 rfl rfl rfl rfl rfl rfl | exact rfl)) | (apply ef_ldp; exact rfl; exact rfl; (exact rfl); exact rfl; (exact rfl); (exact rfl)) | (apply ef_ias; (iterate 3 exact rfl); (omega); assumption; exact rfl) | (apply ef_fap; exact rfl; exact rfl) | (apply ef_new; exact rfl) | (apply ef_st; (iterate 6 exact rfl); (exact rfl); exact rfl) | apply ef_nil | apply seqQ.normal | apply blockQ.normal | apply ef_block | apply ef_skip | (apply ef_condt; exact rfl; (exact (rfl : true = true))) | (apply ef_call; exact rfl; ((repeat (apply XVs.cons; exact rfl)); exact XVs.nil); (with_reducible exact w3 _)))
  (refine loopQ.normal _ _ ⟨(i + 1, q + x.wt * g), ⟨hlt, by rw [HN.out, hq]⟩, (by first | (simp only; omega) | omega), ⟨by ((repeat (refine Hold.cons (by exact rfl) ?_)); exact Hold.nil), by ((repeat (refine Hold.cons (by exact rfl) ?_)); exact Hold.nil)⟩, .inr ⟨by ((repeat (refine hdl_cons rfl (by first | rfl | (simp [MV.lt, ltL, ltL_Ln, ltL_Cr, ltL_I, splice, MV.cells])) ?_)); exact hdl_nil), by (simp [hltL, ltL, MV.lt, ltL, ltL_Ln, ltL_Cr, ltL_I, splice, MV.cells])⟩, by exact rfl⟩)
 ·obtain rfl : i = n.cs.length := by omega
  repeat (first | apply ef_seq | (apply ef_mv; exact rfl; exact rfl) | (apply ef_bin; (iterate 3 exact rfl); (exact cmp_f rfl (by simp only [cmpP]; omega))) | apply ef_nil | apply seqQ.normal | apply loopQ.exit | apply ef_ret | apply ef_exit | apply seqQ.exit | apply blockQ.here | (apply ef_condf; exact rfl; (exact (rfl : false = false))))
  (refine fin1 rfl (by exact rfl) rfl ?_)
  rw [hq]
theorem cost_c (k : Nat) (n : Nt) (ok : OkN n) (ds : List Int) (hl : ds.length = n.cs.length) (hb : ∀ v, -1000000000000 ≤ cAt ds v ∧ cAt ds v ≤ 1000000000000) (h : MHeap) {v : MV} (hv : frz 0 [] h 8 v = some (.sl (ds.map I64))) :
  orA (k + 2) 78 [encN n, v] h = some (I64 (wsU n.cs ds n.cs.length), h) :=
 callL (args' := [encN n, .sl (ds.map I64)]) (by simp [List.mapM_cons, hv, frz_lt (ltL_N n 0)]) rfl (cost_z k n ok ds hl hb)
theorem mf_SumOf : MT.mf 86 = some ⟨28, [(.tmp 4)], (.seq (.reg [⟨none, some 2, .box 2 (.s 0)⟩, ⟨none, some 4, .mv (.c (.lit (.int .i64 0)))⟩]) (.seq (.reg [⟨none, some 5, .mv (.c (.lit (.int .i64 0)))⟩]) (.seq (.seq (.reg [⟨none, some 6, .mv (.c (.lit (.int .i64 0)))⟩]) (.block 0 (.loop [6, 1, 5, 2] (.seq (.seq (.reg [⟨none, some 7, .mv (.s 6)⟩, ⟨none, some 8, .mv (.s 1)⟩, ⟨none, some 9, .len (.s 8)⟩, ⟨none, some 10, .bin .lss (.s 7) (.s 9)⟩]) (.cond (.s 10) .skip (.exit 0))) (.seq (.block 1 (.reg [⟨none, some 13, .mv (.s 5)⟩, ⟨none, some 14, .fa 1 (.s 2)⟩, ⟨none, some 15, .ld none (.s 14)⟩, ⟨none, some 16, .mv (.s 6)⟩, ⟨none, some 17, .ia 6 (.s 15) (.s 16)⟩, ⟨none, some 18, .fa 5 (.s 17)⟩, ⟨none, some 19, .ld none (.s 18)⟩, ⟨none, some 20, .mv (.s 1)⟩, ⟨none, some 21, .mv (.s 6)⟩, ⟨none, some 22, .ia 1 (.s 20) (.s 21)⟩, ⟨none, some 23, .ld none (.s 22)⟩, ⟨none, some 24, .call 121 [.s 23]⟩, ⟨none, some 25, .bin .mul (.s 19) (.s 24)⟩, ⟨none, some 26, .bin .add (.s 13) (.s 25)⟩, ⟨none, some 5, .mv (.s 26)⟩])) (.reg [⟨none, some 11, .mv (.s 6)⟩, ⟨none, some 12, .bin .add (.s 11) (.c (.lit (.int .i64 1)))⟩, ⟨none, some 6, .mv (.s 12)⟩])))))) (.seq (.reg [⟨none, some 27, .mv (.s 5)⟩, ⟨none, some 4, .mv (.s 27)⟩]) .ret))))⟩ := by kernel_rfl
set_option maxHeartbeats 1000000 in
theorem SumOf_z (k : Nat) (n : Nt) (ok : OkN n) (ds : List Int) (hl : ds.length = n.cs.length) (hb : ∀ v, -1000000000000 ≤ cAt ds v ∧ cAt ds v ≤ 1000000000000) :
  runZ MT (orA (k + 1)) (itA (k + 1)) 4000000 86 [encN n, .sl (ds.map I64)] [] = some (I64 (wsU n.cs ds n.cs.length), []) := by
 have hs3 : (MV.sl (ds.map I64)).slen = some ds.length := by simp [MV.slen]
 have c16 := ok.c16
 refine runZ_of mf_SumOf (by simp) ?_
 simp only [argsL]
 repeat (first | apply ef_seq | (apply ef_mv; exact rfl; exact rfl) | (apply ef_box; (iterate 4 exact rfl)) | apply ef_nil | apply seqQ.normal | apply ef_block)
 refine ef_loopf (α := Nat × Int) (fun p => p.1 ≤ n.cs.length ∧ p.2 = wsU n.cs ds p.1) (fun p => [(6, I64 (p.1 : Int)), (5, I64 p.2)]) [(1, .sl (ds.map I64)), (2, .ptr 0 0 0 0)] (fun _ => [⟨0, false, 2, [encN n]⟩]) (fun p => n.cs.length - p.1) (0, 0) [6, 5] (fun _ => rfl) (by ((repeat (refine Hold.cons (by exact rfl) ?_)); exact Hold.nil)) (by ((repeat (refine Hold.cons (by exact rfl) ?_)); exact Hold.nil)) rfl rfl ⟨by omega, rfl⟩ (by simp; omega) ?_
 rintro ⟨i, q⟩ ⟨hi, hq⟩
 try simp only at hi hq ⊢
 by_cases hlt : i < n.cs.length
 ·have e1 := at_map encCr n.cs i hlt
  have hat : n.cs[i]? = some n.cs[i] := List.getElem?_eq_getElem hlt
  have hx := ok.rg n.cs[i] (List.getElem_mem hlt)
  have e2 := cAt_at hl (i := (i : Int)) (by omega) (by omega)
  have hv := wsU_bd ok hb i hi
  have hvn := wsU_bd ok hb (i + 1) hlt
  have hbi := hb (i : Int)
  generalize n.cs[i] = x at e1 hat hx
  have HN := Lib.hid (wsU_next (ds := ds) hat)
  rw [HN.out] at hvn
  have w2 := hx.wt
  rw [← hq] at hv hvn
  generalize cAt ds i = f at e2 HN hvn hbi
  have ha := absI_bd hbi.1 hbi.2
  have w3 := fun h => bSize_c k f (by omega) (by omega) h
  generalize absI f = g at *
  have m1 := mul_w (a := x.wt) (b := g) 10 1000000000000 (by omega) (by omega) (by omega) (by omega) (by omega)
  repeat (first | apply ef_seq | (apply ef_mv; exact rfl; exact rfl) | (apply ef_bin; (iterate 3 exact rfl); (first | exact cmp_t rfl (by first | exact rfl | (simp only [cmpP]; omega)) | ((with_reducible refine bin_add (wrap_of ?_ ?_)) <;> omega) | ((with_reducible refine bin_mul (wrap_of ?_ ?_)) <;> omega))) | (apply ef_len; exact rfl; exact rfl; (assumption)) | (apply ef_ldr; exact rfl; exact rfl; (exact rfl)) | (apply ef_ldp; exact rfl; exact rfl; (exact rfl); exact rfl; (exact rfl); (exact rfl)) | (apply ef_ias; (iterate 3 exact rfl); (omega); assumption; exact rfl) | (apply ef_fap; exact rfl; exact rfl) | (apply ef_far; exact rfl; exact rfl) | apply ef_nil | apply seqQ.normal | apply blockQ.normal | apply ef_block | apply ef_skip | (apply ef_condt; exact rfl; (exact (rfl : true = true))) | (apply ef_call; exact rfl; ((repeat (apply XVs.cons; exact rfl)); exact XVs.nil); (with_reducible exact w3 _)))
  (refine loopQ.normal _ _ ⟨(i + 1, q + x.wt * g), ⟨hlt, by rw [HN.out, hq]⟩, (by first | (simp only; omega) | omega), ⟨by ((repeat (refine Hold.cons (by exact rfl) ?_)); exact Hold.nil), by ((repeat (refine Hold.cons (by exact rfl) ?_)); exact Hold.nil)⟩, .inr ⟨by ((repeat (refine hdl_cons rfl (by first | rfl | (simp [MV.lt, ltL, ltL_Ln, ltL_Cr, ltL_I, splice, MV.cells])) ?_)); exact hdl_nil), by (simp [hltL, ltL, MV.lt, ltL, ltL_Ln, ltL_Cr, ltL_I, splice, MV.cells])⟩, by exact rfl⟩)
 ·obtain rfl : i = n.cs.length := by omega
  repeat (first | apply ef_seq | (apply ef_mv; exact rfl; exact rfl) | (apply ef_bin; (iterate 3 exact rfl); (exact cmp_f rfl (by simp only [cmpP]; omega))) | (apply ef_len; exact rfl; exact rfl; (assumption)) | apply ef_nil | apply seqQ.normal | apply loopQ.exit | apply ef_ret | apply ef_exit | apply seqQ.exit | apply blockQ.here | (apply ef_condf; exact rfl; (exact (rfl : false = false))))
  (refine fin1 rfl (by exact rfl) rfl ?_)
  rw [hq]
theorem SumOf_c (k : Nat) (n : Nt) (ok : OkN n) (ds : List Int) (hl : ds.length = n.cs.length) (hb : ∀ v, -1000000000000 ≤ cAt ds v ∧ cAt ds v ≤ 1000000000000) (h : MHeap) {v : MV} (hv : frz 0 [] h 8 v = some (.sl (ds.map I64))) :
  orA (k + 2) 86 [encN n, v] h = some (I64 (wsU n.cs ds n.cs.length), h) :=
 callL (args' := [encN n, .sl (ds.map I64)]) (by simp [List.mapM_cons, hv, frz_lt (ltL_N n 0)]) rfl (SumOf_z k n ok ds hl hb)
end Go.Proofs.YtbdleggmdbihnaaGreat

/- Contracts: clones; a net with other differences. -/
namespace Go.Proofs.YtbdleggmdbihnaaGreat
open Go.RowKit
set_option linter.unusedVariables false
set_option linter.unusedSimpArgs false
end Go.Proofs.YtbdleggmdbihnaaGreat

/- Contracts: a net with other differences. -/
namespace Go.Proofs.YtbdleggmdbihnaaGreat
open Go.RowKit
set_option linter.unusedVariables false
set_option linter.unusedSimpArgs false
end Go.Proofs.YtbdleggmdbihnaaGreat

/- Contracts: the document's net with other differences. -/
namespace Go.Proofs.YtbdleggmdbihnaaGreat
open Go.RowKit
set_option linter.unusedVariables false
set_option linter.unusedSimpArgs false
end Go.Proofs.YtbdleggmdbihnaaGreat

/- Calls whose answer is frozen: what a copy hands back speaks of no memory. -/
namespace Go.Proofs.YtbdleggmdbihnaaGreat
open Go.RowKit
set_option linter.unusedVariables false
def frzRun (run : List MV → Option (MV × MHeap)) (args : List MV) : Option (MV × MHeap) :=
 match run args with
 | some (m, news) => match frz 0 [] news 8 m with
  | some m' => some (m', [])
  | none => none
 | none => none
theorem post_frz {E : Env} {w : World} {m m' : MV} {news : MHeap} {e : Ending} {w' : World} (hr : HRel E [] w) (hf : frz 0 [] news 8 m = some m') (hP : Post E w m news e w') : Post E w m' [] e w' := by
 obtain ⟨v, E', rfl, h1, h2, h3⟩ := hP
 obtain ⟨S0, hS0⟩ : ∃ S0 : Nat → Prop, S0 = fun b => E'.S b ∨ ∃ id, E'.K id ∧ 0 < E'.cp id ∧ E'.ρ id = b := ⟨_, rfl⟩
 have hK : ∀ id, ¬ E.K id := fun id hk => absurd (hr.klt id hk) (by simp)
 have ht : E'.top = 0 := by rw [h3.top]; exact Nat.le_zero.1 hr.top
 refine ⟨v, { E' with K := fun _ => False, S := S0 }, rfl, ?_, ?_, ?_⟩
 ·refine frz_okG (Es := { E' with K := fun _ => False, S := S0 }) h2 (fun m v hv hl => V.env (E := E'.res 0) (E2 := { E' with K := fun _ => False, S := S0 }) ⟨fun b hb => (by rw [hS0]; exact .inl hb : S0 b), fun id hk => absurd hk.2 (by omega), rfl⟩ (hv.res hl)) (fun b hb => ?_) (fun id hk _ _ hc0 => ?_) 8 _ _ _ h1 hf
  ·show S0 b
   rw [hS0]; exact .inl hb
  ·show S0 (E'.ρ id)
   rw [hS0]; exact .inr ⟨id, hk, hc0, rfl⟩
 ·refine ⟨fun _ hk => hk.elim, by rw [show ({ E' with K := fun _ => False, S := S0 } : Env).top = E'.top from rfl, ht]; exact Nat.zero_le _, fun _ hk => hk.elim, fun _ _ hk => hk.elim, fun _ hk => hk.elim, fun b hb => ?_⟩
  have hb : S0 b := hb
  rw [hS0] at hb
  rcases hb with hb | ⟨id, hk, hc, rfl⟩
  ·exact h2.slt b hb
  ·exact h2.lt hk hc
 ·refine ⟨h3.os, h3.tape, h3.output, h3.size, h3.keep, fun b hb => (by rw [hS0]; exact .inl (h3.S b hb) : S0 b), fun id hk => absurd hk (hK id), fun id hk => absurd hk (hK id), fun id hk => absurd hk (hK id), fun id hk => hk.elim, h3.top, fun id hk => hk.elim, h3.yl, fun b hb => ?_⟩
  have hb : S0 b := hb
  rw [hS0] at hb
  rcases hb with hb | ⟨id, hk, hc, rfl⟩
  ·exact h3.srcS b hb
  ·rcases h3.src id hk hc with ⟨q, _⟩ | q
   ·exact absurd q (hK id)
   ·exact .inr (.inr q)
noncomputable def orC (L : List Nat) (k : Nat) : Oracle := fun f args h =>
 if L.contains f then frzCall (frzRun (tabZ MT tA (orA k) (itA k) 4000000 f)) args h else orA (k + 1) f args h
theorem orC_ok (L : List Nat) (k : Nat) : SoundO Tryz.prog (orC L k) ∧ AppO (orC L k) := by
 have hz := fun k => orZ_ok (N := 4000000) (P := Tryz.prog) (by kernel_rfl) (tabOf_ok Tryz.prog) tA_ok tI_ok k
 have hI : SoundI Tryz.prog (itA k) := orI_ok (by kernel_rfl) (tabOf_ok Tryz.prog) tI_ok (hz k).1 (hz k).2
 have hrun : ∀ f args' m news, frzRun (tabZ MT tA (orA k) (itA k) 4000000 f) args' = some (m, news) → hasBody Tryz.prog f = true ∧ ∀ E w vs, HRel E [] w → Vs E w args' vs → Calls Tryz.prog f vs.toArray w (Post E w m news) := fun f args' m news he => by
  unfold frzRun at he
  split at he
  case h_2 => cases he
  rename_i m0 n0 h0
  split at he
  case h_2 => cases he
  rename_i m1 h1
  cases he
  obtain ⟨hb, hc⟩ := tabZ_ok (by kernel_rfl) (tabOf_ok Tryz.prog) tA_ok (hz k).1 (hz k).2 hI h0
  exact ⟨hb, fun E w vs hr hv => (hc E w vs hr hv).mono fun e w' hP => post_frz hr h1 hP⟩
 refine ⟨⟨fun f args h m h' he => ?_, tA_ok.2⟩, fun f args h m h' he => ?_⟩
 ·unfold orC at he
  split at he
  ·have hb : hasBody Tryz.prog f = true := by
    unfold frzCall at he
    split at he
    case h_2 => cases he
    split at he
    case h_2 => cases he
    rename_i hr
    exact (hrun _ _ _ _ hr).1
   exact ⟨hb, fun E w vs hr hv => frzCall_ok (fun args' m news hq => (hrun f args' m news hq).2) he hr hv⟩
  ·exact (hz (k + 1)).1.1 f args h m h' he
 ·unfold orC at he
  split at he
  ·exact frzCall_app he
  ·exact (hz (k + 1)).2 f args h m h' he
theorem orC_of {L : List Nat} {k f : Nat} {args : List MV} {h : MHeap} {r : MV × MHeap} (hf : L.contains f = false) (h1 : orA (k + 1) f args h = some r) : orC L k f args h = some r := by
 unfold orC
 rw [hf]
 exact h1
theorem orC_frz {L : List Nat} {k f : Nat} {args args' : List MV} {h : MHeap} {m m' : MV} {news : MHeap} (hf : L.contains f = true) (h1 : args.mapM (frz 0 [] h 8) = some args') (hT : tA f args' [] = none) (h2 : runZ MT (orA k) (itA k) 4000000 f args' [] = some (m, news))
  (h3 : frz 0 [] news 8 m = some m') (h4 : okV (ltL 0 args) m' = true) (h5 : shV h.length m' = m') : orC L k f args h = some (m', h) := by
 unfold orC
 rw [hf]
 have e : tabZ MT tA (orA k) (itA k) 4000000 f args' = some (m, news) := by unfold tabZ; rw [hT]; exact h2
 simp only [if_true, frzCall, h1, frzRun, e, h3, h4, okH, List.all_nil, Bool.and_self, h5, List.append_nil]
end Go.Proofs.YtbdleggmdbihnaaGreat

/- Small helpers about memory. -/
namespace Go.Proofs.YtbdleggmdbihnaaGreat
open Go.RowKit
set_option linter.unusedVariables false
structure Bx (p : Prop) : Prop where
 out : p
end Go.Proofs.YtbdleggmdbihnaaGreat

/- Copies of nets that are frozen; whether a slice has a number. -/
namespace Go.Proofs.YtbdleggmdbihnaaGreat
open Go.RowKit
set_option linter.unusedVariables false
set_option linter.unusedSimpArgs false
abbrev LZ : List Nat := [11]
theorem frz_cp (ls : List Ln) (cs : List Cr) : frz 0 [] (cpH ls cs) 8 (cpV 0 ls cs) = some (encN ⟨ls, cs⟩) := by
 cases ls with
 | nil =>
  cases cs with
  | nil => rfl
  | cons c cs => exact frzF_agg2 rfl (frzF_lt rfl) (frzF_arr (o := ⟨0, false, 6, (c :: cs).map encCr⟩) rfl rfl (by simp) (ltL_Cr 0 _) rfl)
 | cons l ls =>
  cases cs with
  | nil => exact frzF_agg2 rfl (frzF_arr (o := ⟨0, false, 2, (l :: ls).map encLn⟩) rfl rfl (by simp) (ltL_Ln 0 _) rfl) (frzF_lt rfl)
  | cons c cs => exact frzF_agg2 rfl (frzF_arr (o := ⟨0, false, 2, (l :: ls).map encLn⟩) rfl rfl (by simp) (ltL_Ln 0 _) rfl) (frzF_arr (o := ⟨0, false, 6, (c :: cs).map encCr⟩) rfl rfl (by simp) (ltL_Cr 0 _) rfl)
theorem Copy_cc (k : Nat) (n : Nt) (hb : BdN n) (h : MHeap) : orC LZ k 11 [encN n] h = some (encN n, h) :=
 orC_frz (args' := [encN n]) rfl (frzL_lt (by simp [ltL, MV.lt, ltL_Ln, ltL_Cr])) rfl (Copy_z k n hb) (frz_cp n.ls n.cs) (by simp [okV, ok1, MV.lt, ltL, ltL_Ln, ltL_Cr]) rfl
theorem mf_bHas : MT.mf 95 = some ⟨18, [(.tmp 4)], (.seq (.reg [⟨none, some 4, .mv (.c (.lit (.bool false)))⟩]) (.seq (.seq (.reg [⟨none, some 5, .mv (.c (.lit (.int .i64 0)))⟩]) (.block 0 (.loop [5, 0, 1] (.seq (.seq (.reg [⟨none, some 6, .mv (.s 5)⟩, ⟨none, some 7, .mv (.s 0)⟩, ⟨none, some 8, .len (.s 7)⟩, ⟨none, some 9, .bin .lss (.s 6) (.s 8)⟩]) (.cond (.s 9) .skip (.exit 0))) (.seq (.block 1 (.seq (.reg [⟨none, some 12, .mv (.s 0)⟩, ⟨none, some 13, .mv (.s 5)⟩, ⟨none, some 14, .ia 1 (.s 12) (.s 13)⟩, ⟨none, some 15, .ld none (.s 14)⟩, ⟨none, some 16, .mv (.s 1)⟩, ⟨none, some 17, .bin .eql (.s 15) (.s 16)⟩]) (.cond (.s 17) (.seq (.reg [⟨none, some 4, .mv (.c (.lit (.bool true)))⟩]) .ret) .skip))) (.reg [⟨none, some 10, .mv (.s 5)⟩, ⟨none, some 11, .bin .add (.s 10) (.c (.lit (.int .i64 1)))⟩, ⟨none, some 5, .mv (.s 11)⟩])))))) (.seq (.reg [⟨none, some 4, .mv (.c (.lit (.bool false)))⟩]) .ret)))⟩ := by kernel_rfl
theorem bHas_z (k : Nat) (xs : List Int) (z : Int) (hx : xs.length ≤ 1000) : runZ MT (orA k) (itA k) 4000000 95 [.sl (xs.map I64), I64 z] [] = some (Bo (xs.any (· == z)), []) := by
 have hl : (MV.sl (xs.map I64)).slen = some xs.length := by simp [MV.slen]
 refine runZ_of mf_bHas (by simp) ?_
 simp only [argsL]
 repeat (first | apply ef_seq | (apply ef_mv; exact rfl; exact rfl) | apply ef_nil | apply seqQ.normal | apply ef_block)
 refine ef_loop (α := Nat) (fun i => i ≤ xs.length ∧ xs.any (· == z) = (xs.drop i).any (· == z)) (fun i => [(5, I64 (i : Int)), (0, .sl (xs.map I64)), (1, I64 z)]) (fun _ => []) (fun i => xs.length - i) 0 [5, 0, 1] (fun _ => rfl) rfl ⟨by omega, rfl⟩ (by simp; omega) (by ((repeat (refine Hold.cons (by exact rfl) ?_)); exact Hold.nil)) rfl ?_
 rintro i ⟨hi, hz⟩
 by_cases hlt : i < xs.length
 ·have e1 := at_map I64 xs i hlt
  have HS := Lib.hid (drop_at xs i hlt)
  have HZ := Lib.hid hz
  clear hz
  generalize xs[i] = y at e1 HS
  by_cases h3 : y = z
  ·repeat (first | apply ef_seq | (apply ef_mv; exact rfl; exact rfl) | (apply ef_bin; (iterate 3 exact rfl); (exact cmp_t rfl (by first | exact rfl | (simp only [cmpP]; omega)))) | (apply ef_len; exact rfl; exact rfl; (assumption)) | (apply ef_ldr; exact rfl; exact rfl; (exact rfl)) | (apply ef_ias; (iterate 3 exact rfl); (omega); assumption; exact rfl) | apply ef_nil | apply seqQ.normal | apply loopQ.ret | apply ef_ret | apply seqQ.ret | apply blockQ.ret | apply ef_block | apply ef_skip | (apply ef_condt; exact rfl; (exact (rfl : true = true))))
   (refine fin1 rfl (by exact rfl) rfl ?_)
   rw [HZ.out, HS.out, List.any_cons, h3]; simp
  ·repeat (first | apply ef_seq | (apply ef_mv; exact rfl; exact rfl) | (apply ef_bin; (iterate 3 exact rfl); (first | exact cmp_t rfl (by first | exact rfl | (simp only [cmpP]; omega)) | exact cmp_f rfl (by simp only [cmpP]; omega) | ((with_reducible refine bin_add (wrap_of ?_ ?_)) <;> omega))) | (apply ef_len; exact rfl; exact rfl; (assumption)) | (apply ef_ldr; exact rfl; exact rfl; (exact rfl)) | (apply ef_ias; (iterate 3 exact rfl); (omega); assumption; exact rfl) | apply ef_nil | apply seqQ.normal | apply blockQ.normal | apply ef_block | apply ef_skip | (apply ef_condt; exact rfl; (exact (rfl : true = true))) | (apply ef_condf; exact rfl; (exact (rfl : false = false))))
   (refine loopQ.normal _ _ ⟨i + 1, ⟨hlt, by rw [HZ.out, HS.out, List.any_cons, show (y == z) = false by simpa using h3]; rfl⟩, (by first | (simp only; omega) | omega), by ((repeat (refine Hold.cons (by exact rfl) ?_)); exact Hold.nil), .inl (Nat.le_refl _), (by first | exact List.take_length | exact rfl)⟩)
 ·repeat (first | apply ef_seq | (apply ef_mv; exact rfl; exact rfl) | (apply ef_bin; (iterate 3 exact rfl); (exact cmp_f rfl (by simp only [cmpP]; omega))) | (apply ef_len; exact rfl; exact rfl; (assumption)) | apply ef_nil | apply seqQ.normal | apply loopQ.exit | apply ef_ret | apply ef_exit | apply seqQ.exit | apply blockQ.here | (apply ef_condf; exact rfl; (exact (rfl : false = false))))
  (refine fin1 rfl (by exact rfl) rfl ?_)
  rw [hz, List.drop_eq_nil_of_le (by omega)]; rfl
theorem bHas_c (k : Nat) (xs : List Int) (z : Int) (hx : xs.length ≤ 1000) (h : MHeap) {v : MV} (hv : frz 0 [] h 8 v = some (.sl (xs.map I64))) {t : Bool} (ht : xs.any (· == z) = t) : orA (k + 1) 95 [v, I64 z] h = some (Bo t, h) :=
 callL (args' := [.sl (xs.map I64), I64 z]) (by simp [List.mapM_cons, hv, frz_lt (m := I64 z) rfl]) rfl (by rw [← ht]; exact bHas_z k xs z hx)
end Go.Proofs.YtbdleggmdbihnaaGreat

/- Contracts of the document: residuals and the cost; corrections of which a set of lines is moved. -/
namespace Go.Proofs.YtbdleggmdbihnaaGreat
open Go.RowKit
set_option linter.unusedVariables false
set_option linter.unusedSimpArgs false
structure OkB (m : Nat) (c : List Int) : Prop where
 len : c.length = m
 bd : ∀ v, -40000000000 ≤ cAt c v ∧ cAt c v ≤ 40000000000
theorem resL_bd {n : Nt} (ok : OkN n) {c : List Int} (hc : OkB n.ls.length c) (v : Int) : -1000000000000 ≤ cAt (resL n c) v ∧ cAt (resL n c) v ≤ 1000000000000 := by
 unfold cAt resL
 rw [List.getD_eq_getElem?_getD, List.getElem?_map]
 cases hh : n.cs[v.toNat]? with
 | none => simp
 | some x =>
  have hx := (ok.rg x (List.mem_of_getElem? hh)).df
  have h1 := hc.bd x.ln
  have h2 := hc.bd x.ti
  simp only [Option.map_some, Option.getD_some, resI]
  omega
def costL (n : Nt) (c : List Int) : Int := wsU n.cs (resL n c) n.cs.length
theorem costL_P (n : Nt) (c : List Int) : costL n c = costP n.cs (cAt c) n.cs.length := by
 have : ∀ i, i ≤ n.cs.length → wsU n.cs (resL n c) i = costP n.cs (cAt c) i := fun i => by
  induction i with
  | zero => intro _; rfl
  | succ i ih =>
   intro hi
   have e : cAt (resL n c) i = resP (n.cs.getD i default) (cAt c) := by
    show (List.map _ n.cs).getD ((i : Nat) : Int).toNat 0 = _
    rw [List.getD_eq_getElem?_getD, Int.toNat_natCast, List.getElem?_map, List.getElem?_eq_getElem (by omega), List.getD_eq_getElem?_getD, List.getElem?_eq_getElem (by omega)]; rfl
   rw [wsU, costP, ih (by omega), e]
 exact this _ (Nat.le_refl _)
theorem mf_rRes : MT.mf 33 = some ⟨38, [(.tmp 4)], (.seq (.reg [⟨none, some 2, .box 2 (.s 0)⟩, ⟨none, some 4, .nil0 1⟩]) (.seq (.reg [⟨none, some 5, .nil0 1⟩]) (.seq (.seq (.reg [⟨none, some 6, .mv (.c (.lit (.int .i64 0)))⟩]) (.block 0 (.loop [6, 2, 5, 1] (.seq (.seq (.reg [⟨none, some 8, .mv (.s 6)⟩, ⟨none, some 9, .fa 1 (.s 2)⟩, ⟨none, some 10, .ld none (.s 9)⟩, ⟨none, some 11, .len (.s 10)⟩, ⟨none, some 12, .bin .lss (.s 8) (.s 11)⟩]) (.cond (.s 12) .skip (.exit 0))) (.seq (.block 1 (.seq (.reg [⟨none, some 15, .fa 1 (.s 2)⟩, ⟨none, some 16, .ld none (.s 15)⟩, ⟨none, some 17, .mv (.s 6)⟩, ⟨none, some 18, .ia 6 (.s 16) (.s 17)⟩, ⟨none, some 19, .ld (some 6) (.s 18)⟩, ⟨none, some 7, .new (.agg [(.lit (.int .i64 0)), (.lit (.int .i64 0)), (.lit (.int .i64 0)), (.lit (.int .i64 0)), (.lit (.int .i64 0)), (.lit (.int .i64 0))])⟩, ⟨none, none, .st 6 (.s 7) (.s 19)⟩]) (.reg [⟨none, some 20, .mv (.s 5)⟩, ⟨none, some 21, .fa 4 (.s 7)⟩, ⟨none, some 22, .ld none (.s 21)⟩, ⟨none, some 23, .mv (.s 1)⟩, ⟨none, some 24, .fa 0 (.s 7)⟩, ⟨none, some 25, .ld none (.s 24)⟩, ⟨none, some 26, .ia 1 (.s 23) (.s 25)⟩, ⟨none, some 27, .ld none (.s 26)⟩, ⟨none, some 28, .bin .sub (.s 22) (.s 27)⟩, ⟨none, some 29, .mv (.s 1)⟩, ⟨none, some 30, .fa 1 (.s 7)⟩, ⟨none, some 31, .ld none (.s 30)⟩, ⟨none, some 32, .ia 1 (.s 29) (.s 31)⟩, ⟨none, some 33, .ld none (.s 32)⟩, ⟨none, some 34, .bin .add (.s 28) (.s 33)⟩, ⟨none, some 35, .bsl (.lit (.int .i64 0)) 1 1 [(0, (.s 34))]⟩, ⟨none, some 36, .app 1 (.s 20) (.s 35)⟩, ⟨none, some 5, .mv (.s 36)⟩]))) (.reg [⟨none, some 13, .mv (.s 6)⟩, ⟨none, some 14, .bin .add (.s 13) (.c (.lit (.int .i64 1)))⟩, ⟨none, some 6, .mv (.s 14)⟩])))))) (.seq (.reg [⟨none, some 37, .mv (.s 5)⟩, ⟨none, some 4, .mv (.s 37)⟩]) .ret))))⟩ := by kernel_rfl
set_option maxHeartbeats 1000000 in
theorem rRes_z (k : Nat) (n : Nt) (ok : OkN n) (c : List Int) (hc : OkB n.ls.length c) :
  runZ MT (orA k) (itA k) 4000000 33 [encN n, .sl (c.map I64)] [] = some (.arr 0 0 n.cs.length 0, [⟨0, decide (n.cs.length = 0), 1, (resL n c).map I64⟩]) := by
 have hs2 : (MV.sl (n.cs.map encCr)).slen = some n.cs.length := by simp [MV.slen]
 have hrl : (resL n c).length = n.cs.length := by simp [resL]
 have c16 := ok.c16
 refine runZ_of mf_rRes (by simp) ?_
 simp only [argsL]
 repeat (first | apply ef_seq | (apply ef_mv; exact rfl; exact rfl) | (apply ef_box; (iterate 4 exact rfl)) | (apply ef_nil0; exact rfl) | apply ef_nil | apply seqQ.normal | apply ef_block)
 refine ef_loopf (α := Nat) (fun i => i ≤ n.cs.length) (fun i => [(6, I64 (i : Int)), (5, .arr 2 0 i i)]) [(2, .ptr 0 0 0 0), (1, .sl (c.map I64))] (fun i => [⟨0, false, 2, [encN n]⟩, ⟨0, true, 1, []⟩, rowO (resL n c) i]) (fun i => n.cs.length - i) 0 [6, 5] (fun _ => rfl) (by ((repeat (refine Hold.cons (by exact rfl) ?_)); exact Hold.nil)) (by ((repeat (refine Hold.cons (by exact rfl) ?_)); exact Hold.nil)) rfl rfl (by omega) (by simp; omega) ?_
 intro i hi
 try simp only at hi ⊢
 by_cases hlt : i < n.cs.length
 ·have e1 := at_map encCr n.cs i hlt
  have hxx := ok.rg n.cs[i] (List.getElem_mem hlt)
  have HT := row_next (xs := resL n c) (i := i) (z := resI c n.cs[i]) (by simp [resL, hlt])
  have hri : resI c n.cs[i] = n.cs[i].df - cAt c n.cs[i].ln + cAt c n.cs[i].ti := rfl
  generalize n.cs[i] = x at e1 hxx HT hri
  have f1 := cAt_at hc.len hxx.l0 hxx.l1
  have f2 := cAt_at hc.len hxx.t0 hxx.t1
  have g1 := hc.bd x.ln
  have g2 := hc.bd x.ti
  have g3 := hxx.df
  have g4 := hxx.l0
  have g5 := hxx.t0
  have g6 := hxx.l1
  have g7 := hxx.t1
  have hcl := hc.len
  generalize cAt c x.ln = u at *
  generalize cAt c x.ti = w at *
  rw [hri] at HT
  repeat (first | apply ef_seq | (apply ef_mv; exact rfl; exact rfl) | (apply ef_bin; (iterate 3 exact rfl); (first | exact cmp_t rfl (by first | exact rfl | (simp only [cmpP]; omega)) | ((with_reducible refine bin_add (wrap_of ?_ ?_)) <;> omega) | ((with_reducible refine bin_sub (wrap_of ?_ ?_)) <;> omega))) | (apply ef_len; exact rfl; exact rfl; (assumption)) | (apply ef_ldr; exact rfl; exact rfl; (first | exact rd_6 rfl rfl rfl rfl rfl rfl | exact rfl)) | (apply ef_ldp; exact rfl; exact rfl; (exact rfl); exact rfl; (exact rfl); (exact rfl)) | (apply ef_ias; (iterate 3 exact rfl); (omega); assumption; exact rfl) | (apply ef_fap; exact rfl; exact rfl) | (apply ef_new; exact rfl) | (apply ef_bsl; exact rfl; (repeat (apply XVs.cons; exact rfl)); exact XVs.nil; exact rfl) | (apply ef_st; (iterate 6 exact rfl); (exact rfl); exact rfl) | apply ef_nil | apply seqQ.normal | apply ef_block | apply ef_skip | (apply ef_condt; exact rfl; (exact (rfl : true = true))))
  (apply ef_app; (· exact rfl); (· exact rfl); (· exact rfl); (· exact rfl); (· exact rfl); (· exact rfl); (· (simp [rowL_len (xs := resL n c) (i := i) (by omega)])); (· exact rfl); (· (simp [rowL_len (xs := resL n c) (i := i) (by omega)]; omega)); (· (simp [MV.sOk, MV.cells, MV.one, Value.oneCell'])); (· exact rfl))
  repeat (first | (apply ef_mv; exact rfl; exact rfl) | (apply ef_bin; (iterate 3 exact rfl); (((with_reducible refine bin_add (wrap_of ?_ ?_)) <;> omega))) | apply ef_nil | apply seqQ.normal | apply blockQ.normal)
  (refine loopQ.normal _ _ ⟨i + 1, hlt, (by first | (simp only; omega) | omega), ⟨by ((repeat (refine Hold.cons (by exact rfl) ?_)); exact Hold.nil), by ((repeat (refine Hold.cons (by exact rfl) ?_)); exact Hold.nil)⟩, .inr ⟨by ((repeat (refine hdl_cons rfl (by first | rfl | (simp [MV.lt, ltL, ltL_Ln, ltL_Cr, ltL_I, ltL_row, ltL_app2])) ?_)); exact hdl_nil), by (simp [hltL, ltL, MV.lt, ltL, ltL_Ln, ltL_Cr, ltL_I, ltL_row, ltL_app2])⟩, by (show _ = ([⟨0, false, 2, [encN n]⟩, ⟨0, true, 1, []⟩, (⟨i + 1, decide (i + 1 = 0), 1, rowL (resL n c) (i + 1)⟩ : MObj)] : MHeap); rw [HT]; exact rfl)⟩)
 ·obtain rfl : i = n.cs.length := by omega
  have hra := row_all (resL n c)
  rw [hrl] at hra
  repeat (first | apply ef_seq | (apply ef_mv; exact rfl; exact rfl) | (apply ef_bin; (iterate 3 exact rfl); (exact cmp_f rfl (by simp only [cmpP]; omega))) | (apply ef_len; exact rfl; exact rfl; (assumption)) | (apply ef_ldp; exact rfl; exact rfl; (exact rfl); exact rfl; (exact rfl); (exact rfl)) | (apply ef_fap; exact rfl; exact rfl) | apply ef_nil | apply seqQ.normal | apply loopQ.exit | apply ef_ret | apply ef_exit | apply seqQ.exit | apply blockQ.here | (apply ef_condf; exact rfl; (exact (rfl : false = false))))
  (apply fin_arr; (· exact rfl); (· exact rfl); (· exact rfl); (· exact rfl); (· (show 0 + n.cs.length ≤ (rowL (resL n c) n.cs.length).length; rw [hra]; simp [hrl])); (· (exact ltL_row 0 _ _)); (· (show ((rowL (resL n c) n.cs.length).drop 0).take n.cs.length = _; rw [hra, List.drop_zero, List.take_of_length_le (by simp [hrl])])); (· exact rfl); (· exact rfl); (· rfl))
theorem rRes_c (k : Nat) (n : Nt) (ok : OkN n) (c : List Int) (hc : OkB n.ls.length c) (h : MHeap) {v : MV} (hv : frz 0 [] h 8 v = some (.sl (c.map I64))) :
  orA (k + 1) 33 [encN n, v] h = some (.arr h.length 0 n.cs.length 0, h ++ [⟨0, decide (n.cs.length = 0), 1, (resL n c).map I64⟩]) := by
 have := callA (k := k) (h := h) (args := [encN n, v]) (args' := [encN n, .sl (c.map I64)]) (by simp [List.mapM_cons, hv, frz_lt (ltL_N n 0)]) rfl (rRes_z k n ok c hc) rfl (by simp [okH, ltL_I, pureL_I])
 simpa [shV, sh1] using this
theorem mf_rCost : MT.mf 34 = some ⟨10, [(.tmp 4)], (.seq (.reg [⟨none, some 2, .box 2 (.s 0)⟩, ⟨none, some 4, .mv (.c (.lit (.int .i64 0)))⟩]) (.seq (.reg [⟨none, some 5, .ld (some 2) (.s 2)⟩, ⟨none, some 6, .ld (some 2) (.s 2)⟩, ⟨none, some 7, .mv (.s 1)⟩, ⟨none, some 8, .call 33 [.s 6, .s 7]⟩, ⟨none, some 9, .call 86 [.s 5, .s 8]⟩, ⟨none, some 4, .mv (.s 9)⟩]) .ret))⟩ := by kernel_rfl
theorem rCost_c (k : Nat) (n : Nt) (ok : OkN n) (c : List Int) (hc : OkB n.ls.length c) (h : MHeap) {v : MV} (hv : frz 0 [] h 8 v = some (.sl (c.map I64))) :
  orA (k + 3) 34 [encN n, v] h = some (I64 (costL n c), h) := by
 refine callL (args' := [encN n, .sl (c.map I64)]) (by simp [List.mapM_cons, hv, frz_lt (ltL_N n 0)]) rfl (runZ_of mf_rCost (by simp) ?_)
 simp only [argsL]
 have hrl : (resL n c).length = n.cs.length := by simp [resL]
 have w1 := fun h => rRes_c (k + 1) n ok c hc h (v := .sl (c.map I64)) (frz_sl (ltL_I 0 c))
 have w2 := fun h v hv => SumOf_c k n ok (resL n c) hrl (resL_bd ok hc) h (v := v) hv
 unfold costL
 generalize wsU n.cs (resL n c) n.cs.length = ws at *
 repeat (first | apply ef_seq | (apply ef_mv; exact rfl; exact rfl) | (apply ef_ldp; exact rfl; exact rfl; (exact rfl); exact rfl; (exact rfl); (exact rd_2 rfl rfl)) | (apply ef_box; (iterate 4 exact rfl)) | apply ef_nil | apply seqQ.normal | (apply ef_call; exact rfl; ((repeat (apply XVs.cons; exact rfl)); exact XVs.nil); (with_reducible exact w1 _)))
 (apply ef_call; (· exact rfl); (· ((repeat (apply XVs.cons; exact rfl)); exact XVs.nil)); · exact w2 _ _ (frz_row (o := ⟨0, decide (n.cs.length = 0), 1, (resL n c).map I64⟩) rfl rfl (by simp [hrl]) (ltL_I 0 _) rfl))
 repeat (first | (apply ef_mv; exact rfl; exact rfl) | apply ef_nil | apply seqQ.normal | apply ef_ret)
 (refine fin1 rfl (by exact rfl) rfl ?_)
 rfl
end Go.Proofs.YtbdleggmdbihnaaGreat

/- Contracts: nets that must be joined; the lowest best corrections; the ranges; the program. -/
namespace Go.Proofs.YtbdleggmdbihnaaGreat
open Go.RowKit
set_option linter.unusedVariables false
set_option linter.unusedSimpArgs false
def minU (L : List Int) : Nat → Int
 | 0 => cAt L 0
 | i + 1 => mn (minU L i) (cAt L (i + 1))
theorem minU_far {L : List Int} : ∀ i, (∀ v : Nat, v ≤ i → -1099511627776 ≤ cAt L v) → (minU L i = -1099511627776 ↔ ∃ v : Nat, v ≤ i ∧ cAt L v = -1099511627776) ∧ -1099511627776 ≤ minU L i
 | 0, h => ⟨⟨fun e => ⟨0, Nat.le_refl _, e⟩, fun ⟨v, h1, h2⟩ => (by have e : v = 0 := (by omega); subst e; exact h2)⟩, h 0 (Nat.le_refl _)⟩
 | i + 1, h => by
  obtain ⟨h1, h2⟩ := minU_far i (fun v hv => h v (by omega))
  have h3 := h (i + 1) (Nat.le_refl _)
  have e : ((i + 1 : Nat) : Int) = (i : Int) + 1 := by omega
  rw [e] at h3
  rw [minU]
  unfold mn
  refine ⟨⟨fun hm => ?_, fun ⟨v, hv, he⟩ => ?_⟩, by split <;> omega⟩
  ·split at hm
   ·exact ⟨i + 1, Nat.le_refl _, by rw [e]; exact hm⟩
   ·obtain ⟨v, hv, he⟩ := h1.1 hm
    exact ⟨v, by omega, he⟩
  ·by_cases ev : v = i + 1
   ·subst ev
    rw [e] at he
    split <;> omega
   ·have := h1.2 ⟨v, by omega, he⟩
    split <;> omega
theorem mf_Min : MT.mf 92 = some mfW_l92 := mfW_q92
theorem Min_z (k : Nat) (L : List Int) (h1 : 0 < L.length) (h8 : L.length ≤ 1000) : runZ MT (orA k) (itA k) 4000000 92 [.sl (L.map I64)] [] = some (I64 (minU L (L.length - 1)), []) := by
 have hl : (MV.sl (L.map I64)).slen = some L.length := by simp [MV.slen]
 have e0 : (L.map I64)[(0 : Int).toNat]? = some (I64 (cAt L 0)) := cAt_at rfl (by omega) (by omega)
 refine runZ_of mf_Min (by simp) ?_
 simp only [argsL]
 repeat (first | apply ef_seq | (apply ef_mv; exact rfl; exact rfl) | (apply ef_bin; (iterate 3 exact rfl); (exact cmp_f rfl (by simp only [cmpP]; omega))) | (apply ef_len; exact rfl; exact rfl; (assumption)) | (apply ef_ldr; exact rfl; exact rfl; (exact rfl)) | (apply ef_ias; (iterate 3 exact rfl); (omega); assumption; exact rfl) | apply ef_nil | apply seqQ.normal | apply ef_block | apply ef_skip | (apply ef_condf; exact rfl; (exact (rfl : false = false))))
 refine ef_loopf (α := Nat) (fun i => i < L.length) (fun i => [(4, I64 ((i : Int) + 1)), (3, I64 (minU L i))]) [(0, .sl (L.map I64))] (fun _ => []) (fun i => L.length - i) 0 [4, 3] (fun _ => rfl) (by ((repeat (refine Hold.cons (by exact rfl) ?_)); exact Hold.nil)) (by ((repeat (refine Hold.cons (by exact rfl) ?_)); exact Hold.nil)) rfl rfl h1 (by show L.length - 0 < 4000000; omega) ?_
 intro i hi
 try simp only at hi ⊢
 by_cases hlt : i + 1 < L.length
 ·have e1 : (L.map I64)[((i : Int) + 1).toNat]? = some (I64 (cAt L ((i : Int) + 1))) := cAt_at rfl (by omega) (by omega)
  have HN := Bx.mk (show minU L (i + 1) = mn (minU L i) (cAt L ((i : Int) + 1)) from rfl)
  generalize cAt L ((i : Int) + 1) = z at e1 HN
  generalize minU L i = w at *
  repeat (first | apply ef_seq | (apply ef_mv; exact rfl; exact rfl) | (apply ef_bin; (iterate 3 exact rfl); (first | exact cmp_t rfl (by first | exact rfl | (simp only [cmpP]; omega)) | ((with_reducible refine bin_add (wrap_of ?_ ?_)) <;> omega))) | (apply ef_len; exact rfl; exact rfl; (assumption)) | (apply ef_ldr; exact rfl; exact rfl; (exact rfl)) | (apply ef_ias; (iterate 3 exact rfl); (omega); assumption; exact rfl) | (apply ef_mn; (iterate 3 exact rfl)) | apply ef_nil | apply seqQ.normal | apply blockQ.normal | apply ef_block | apply ef_skip | (apply ef_condt; exact rfl; (exact (rfl : true = true))))
  refine loopQ.normal _ _ ⟨i + 1, hlt, by (show L.length - (i + 1) < L.length - i; omega), ⟨?_, by ((repeat (refine Hold.cons (by exact rfl) ?_)); exact Hold.nil)⟩, .inl (Nat.le_refl _), by exact rfl⟩
  rw [HN.out, show ((i + 1 : Nat) : Int) = (i : Int) + 1 by omega]
  ((repeat (refine Hold.cons (by exact rfl) ?_)); exact Hold.nil)
 ·have e : L.length - 1 = i := by omega
  rw [e]
  repeat (first | apply ef_seq | (apply ef_mv; exact rfl; exact rfl) | (apply ef_bin; (iterate 3 exact rfl); (exact cmp_f rfl (by simp only [cmpP]; omega))) | (apply ef_len; exact rfl; exact rfl; (assumption)) | apply ef_nil | apply seqQ.normal | apply loopQ.exit | apply ef_ret | apply ef_exit | apply seqQ.exit | apply blockQ.here | (apply ef_condf; exact rfl; (exact (rfl : false = false))))
  (refine fin1 rfl (by exact rfl) rfl ?_)
  rfl
theorem Min_c (k : Nat) (L : List Int) (h1 : 0 < L.length) (h8 : L.length ≤ 1000) (h : MHeap) {v : MV} (hv : frz 0 [] h 8 v = some (.sl (L.map I64))) : orA (k + 1) 92 [v] h = some (I64 (minU L (L.length - 1)), h) :=
 callL (args' := [.sl (L.map I64)]) (by simp [List.mapM_cons, hv]) rfl (Min_z k L h1 h8)
def wayA (x : Cr) : List Ac := [⟨x.ln, x.ti, 0, 0, 0⟩, ⟨x.ti, x.ln, 0, 0, 0⟩]
def waysU (cs : List Cr) : Nat → List Ac
 | 0 => []
 | i + 1 => waysU cs i ++ wayA (cs.getD i default)
theorem waysU_len (cs : List Cr) : ∀ i, (waysU cs i).length = 2 * i
 | 0 => rfl
 | i + 1 => by rw [waysU, List.length_append, waysU_len cs i]; simp [wayA]; omega
theorem waysU_next {cs : List Cr} {i : Nat} {x : Cr} (h : cs[i]? = some x) : waysU cs (i + 1) = waysU cs i ++ wayA x := by
 rw [waysU, List.getD_eq_getElem?_getD, h]; rfl
theorem waysU_mem {n : Nt} : ∀ i, i ≤ n.cs.length → ∀ a, a ∈ waysU n.cs i ↔ ∃ j, j < i ∧ ∃ h : j < n.cs.length, a ∈ wayA n.cs[j]
 | 0, _, a => by simp [waysU]
 | i + 1, hi, a => by
  have ih := waysU_mem (n := n) i (by omega) a
  rw [waysU_next (List.getElem?_eq_getElem (show i < n.cs.length by omega)), List.mem_append, ih]
  constructor
  ·rintro (⟨j, h1, h2, h3⟩ | h)
   ·exact ⟨j, by omega, h2, h3⟩
   ·exact ⟨i, by omega, by omega, h⟩
  ·rintro ⟨j, h1, h2, h3⟩
   by_cases e : j = i
   ·subst e; exact .inr h3
   ·exact .inl ⟨j, by omega, h2, h3⟩
theorem ways_ok {n : Nt} (ok : OkN n) : ∀ a ∈ waysU n.cs n.cs.length, OkA n.ls.length 0 a := fun a ha => by
 obtain ⟨j, -, hj, hm⟩ := (waysU_mem _ (Nat.le_refl _) a).1 ha
 have o := ok.rg _ (List.getElem_mem hj)
 have k := ok.kd _ (List.getElem_mem hj)
 have hne : n.cs[j].ln ≠ n.cs[j].ti := fun e => by rw [e] at k; rw [k.1] at k; exact absurd k.2 (by simp)
 simp only [wayA, List.mem_cons, List.not_mem_nil, or_false] at hm
 rcases hm with rfl | rfl
 ·exact ⟨o.l0, o.l1, o.t0, o.t1, by simp, by simp, hne⟩
 ·exact ⟨o.t0, o.t1, o.l0, o.l1, by simp, by simp, hne.symm⟩
abbrev lgW (n : Nt) : List Int := (lgS (waysU n.cs n.cs.length) n.ls.length [0]).1.L
theorem lgW_ok {n : Nt} (ok : OkN n) : lgC (waysU n.cs n.cs.length) n.ls.length [0] = [] ∧ LgOk (waysU n.cs n.cs.length) n.ls.length [0] (lgW n) := by
 have l1 := ok.l1
 have c16 := ok.c16
 refine lg_feas (f := fun _ => 0) (B := 0) (by omega) (by omega) ok.l8 (by rw [waysU_len]; omega) (ways_ok ok) (fun v hv => by rw [List.mem_singleton] at hv; subst hv; omega) (fun a ha => ?_)
 have o := ways_ok ok a ha
 have := o.l1
 simp only; omega
def jnB (n : Nt) : Bool := decide (minU (lgW n) (n.ls.length - 1) ≠ -1099511627776)
theorem jnB_iff {n : Nt} (ok : OkN n) : jnB n = true ↔ Jn n := by
 have l1 := ok.l1
 obtain ⟨-, hL⟩ := lgW_ok ok
 have hm := (minU_far (L := lgW n) (n.ls.length - 1) (fun v _ => hL.far v)).1
 unfold jnB
 rw [decide_eq_true_eq]
 constructor
 ·intro hne S h0 hc v v0 v1
  refine Classical.byContradiction fun hS => ?_
  have hlow := hL.low (fun v => if S v then 0 else -1099511627776) (fun a ha => by
   obtain ⟨j, -, hj, hmem⟩ := (waysU_mem _ (Nat.le_refl _) a).1 ha
   have e := hc _ (List.getElem_mem hj)
   simp only [wayA, List.mem_cons, List.not_mem_nil, or_false] at hmem
   rcases hmem with rfl | rfl
   ·simp only; rw [e]; omega
   ·simp only; rw [e]; omega) (fun u u0 u1 => by
   rw [srcL_one (by omega) (by omega) u0]
   split
   ·rename_i e; subst e; simp [h0]
   ·(repeat' split) <;> omega) v v0 v1
  try simp only at hlow
  rw [if_neg hS] at hlow
  have := hL.far v
  refine hne (hm.2 ⟨v.toNat, by omega, ?_⟩)
  rw [show ((v.toNat : Nat) : Int) = v by omega]
  omega
 ·intro hj he
  obtain ⟨v, hv, hf⟩ := hm.1 he
  have := hj (fun v => decide (cAt (lgW n) v > -549755813888)) (by have := hL.src 0 (by simp); simp only [decide_eq_true_eq]; omega) (fun x hx => by
   obtain ⟨j, hj2, rfl⟩ := List.getElem_of_mem hx
   have m1 := (waysU_mem (n := n) _ (Nat.le_refl _) ⟨n.cs[j].ln, n.cs[j].ti, 0, 0, 0⟩).2 ⟨j, hj2, hj2, by simp [wayA]⟩
   have m2 := (waysU_mem (n := n) _ (Nat.le_refl _) ⟨n.cs[j].ti, n.cs[j].ln, 0, 0, 0⟩).2 ⟨j, hj2, hj2, by simp [wayA]⟩
   have s1 := hL.sat _ m1
   have s2 := hL.sat _ m2
   simp only at s1 s2
   by_cases c1 : cAt (lgW n) n.cs[j].ln > -549755813888
   ·have := s1 c1
    rw [decide_eq_true c1, decide_eq_true (by omega)]
   ·by_cases c2 : cAt (lgW n) n.cs[j].ti > -549755813888
    ·have := s2 c2; omega
    ·rw [decide_eq_false c1, decide_eq_false c2]) v (by omega) (by omega)
  simp only [decide_eq_true_eq] at this
  omega
end Go.Proofs.YtbdleggmdbihnaaGreat

/- Contracts: nets that must be joined; the lowest best corrections; the program. -/
namespace Go.Proofs.YtbdleggmdbihnaaGreat
open Go.RowKit
set_option linter.unusedVariables false
set_option linter.unusedSimpArgs false
def joE (n : Nt) : Int := if (netF n).2 = 0 then (if jnB n then 0 else 21) else (netF n).2
theorem joE_ok {n : Nt} (h : joE n = 0) : (netF n).2 = 0 ∧ OkN n ∧ Jn n := by
 unfold joE at h
 split at h
 ·rename_i h0
  split at h
  ·rename_i hj; exact ⟨h0, net_ok h0, (jnB_iff (net_ok h0)).1 hj⟩
  ·cases h
 ·rename_i h0; exact absurd h h0
abbrev opH (n : Nt) (i : Nat) (rs : List MV) : MHeap := [⟨0, false, 2, [encN n]⟩, ⟨0, false, 2, [.agg [.lit (.slice none 0 0), .lit (.slice none 0 0)]]⟩, ⟨0, true, 5, []⟩, ⟨0, false, 2, [encN n]⟩, ⟨i, decide (i = 0), 5, rs⟩]
theorem fin_op {x : MX2} {A : Sl} {h : MHeap} {r : MRes} {t u w id k g : Nat} {o : MObj} {es : List MV} {nl : Bool} {sz : Nat} {m : MV} {a b : Value} (hx : outX x = true) (hr : ResV A h r m) (hm : m.lt 0 = true) (hna : impIds 0 [m] = []) (hv : look A t = some (.arr id 0 k g)) (ha : look A u = some (.lit a)) (hb : look A w = some (.lit b)) (ho : h[id]? = some o) (hg : o.g = g) (hk : k = es.length) (hl : ltL 0 es = true) (he : o.es = es) (hz : o.sz = sz) (hn : o.nl = nl) (hex : expL 0 [id] h [m, .arr id 0 k g, .lit a, .lit b] 0 = some ([m, .arr 0 0 k 0, .lit a, .lit b], [⟨0, nl, sz, es⟩])) (hi : impIds 0 [m, .arr id 0 k g, .lit a, .lit b] = [id]) :
  FinF [r, .tmp t, .tmp u, .tmp w] (.tup [m, .arr 0 0 k 0, .lit a, .lit b]) [⟨0, nl, sz, es⟩] x A h := by
 refine ⟨hx, [m, .arr id 0 k g, .lit a, .lit b], [m, .arr 0 0 k 0, .lit a, .lit b], ⟨_, _, rfl, hr, _, _, rfl, hv, _, _, rfl, ha, _, [], rfl, hb, rfl⟩, ?_, ?_, rfl⟩
 ·rw [hi]; simp
 ·rw [hi]; exact hex
theorem fin_opN {x : MX2} {A : Sl} {h : MHeap} {r : MRes} {t u w id k g : Nat} {o : MObj} {es : List MV} {nl : Bool} {sz : Nat} {n : Nt} {a b : Value} (hx : outX x = true) (hr : ResV A h r (encN n)) (hv : look A t = some (.arr id 0 k g)) (ha : look A u = some (.lit a)) (hb : look A w = some (.lit b)) (ho : h[id]? = some o) (hg : o.g = g) (hk : k = es.length) (hl : ltL 0 es = true) (he : o.es = es) (hz : o.sz = sz) (hn : o.nl = nl) :
  FinF [r, .tmp t, .tmp u, .tmp w] (.tup [encN n, .arr 0 0 k 0, .lit a, .lit b]) [⟨0, nl, sz, es⟩] x A h := by
 subst hz hn he hk
 refine fin_op hx hr (ltL_N n 0) (by simp [impIds]) hv ha hb ho hg rfl hl rfl rfl rfl ?_ (by simp [impIds])
 simp [expL, ho, hg, hl, frz, MV.lt, ltL, ltL_Ln, ltL_Cr]
theorem mf_openJoined : MT.mf 44 = some mfW_l44 := mfW_q44
set_option maxHeartbeats 4000000 in
theorem openJoined_z (k : Nat) (n : Nt) (hb : BdN n) (h0 : (netF n).2 = 0) :
  runZ MT (orA (k + 6)) (itA (k + 6)) 4000000 44 [encN n] [] = some (if jnB n then (.tup [encN n, .arr 0 0 (arZ n).length 0, I64 (minC n), I64 0], [⟨0, decide ((arZ n).length = 0), 5, (arZ n).map encA⟩]) else (.tup [encN n, .arr 0 0 0 0, I64 0, I64 21], [⟨0, true, 5, []⟩])) := by
 have ok := net_ok h0
 have c16 := ok.c16
 have l1 := ok.l1
 have l8 := ok.l8
 have hs1 : (MV.sl (n.ls.map encLn)).slen = some n.ls.length := by simp [MV.slen]
 have hs2 : (MV.sl (n.cs.map encCr)).slen = some n.cs.length := by simp [MV.slen]
 have w1 := fun h => open_c k n hb h
 rw [h0] at w1
 have w2 := fun h v w hv hw => longest_c (k + 1) n.ls.length l1 l8 (waysU n.cs n.cs.length) 0 (by omega) (by omega) (ways_ok ok) (by rw [waysU_len]; omega) [0] (fun v hv => by rw [List.mem_singleton] at hv; subst hv; omega) (by simp) h (v := v) (w := w) hv hw
 have w4 := fun h => flow_c k n ok h
 have hz := (flZ_ok ok).1
 have w5 := fun h v hv => arcs_c (k + 5) n ok (flZ n) hz.len h (v := v) hv
 have w6 := fun h v hv => value_c (k + 5) n ok (flZ n) hz.len (hz.bd10 ok) h (v := v) hv
 obtain ⟨hgC, hgL⟩ := lgW_ok ok
 have w3 := fun h v hv => Min_c (k + 5) (lgW n) (by rw [hgL.len]; omega) (by rw [hgL.len]; omega) h (v := v) hv
 rw [hgC] at w2
 rw [hgL.len] at w3
 have hwl := hgL.len
 have HJ := Bx.mk (show jnB n = decide (minU (lgW n) (n.ls.length - 1) ≠ -1099511627776) from rfl)
 have hzl := hz.len
 have hwy := waysU_len n.cs n.cs.length
 unfold minC
 refine runZ_of mf_openJoined (by simp) ?_
 simp only [argsL]
 repeat (first | apply ef_seq | (apply ef_mv; exact rfl; exact rfl) | (apply ef_bin; (iterate 3 exact rfl); (exact cmp_f rfl (by simp only [cmpP]; omega))) | (apply ef_len; exact rfl; exact rfl; (assumption)) | (apply ef_ldp; exact rfl; exact rfl; (exact rfl); exact rfl; (exact rfl); (first | exact rd_2 rfl rfl | exact rfl)) | (apply ef_fap; exact rfl; exact rfl) | (apply ef_ext; (iterate 3 exact rfl)) | (apply ef_box; (iterate 4 exact rfl)) | (apply ef_new; exact rfl) | (apply ef_nil0; exact rfl) | (apply ef_st; (iterate 6 exact rfl); (exact rfl); exact rfl) | apply ef_nil | apply seqQ.normal | apply ef_block | apply ef_skip | (apply ef_condf; exact rfl; (exact (rfl : false = false))) | (apply ef_call; exact rfl; ((repeat (apply XVs.cons; exact rfl)); exact XVs.nil); (with_reducible exact w1 _)))
 refine ef_loopf (α := Nat × List MV) (fun p => p.1 ≤ n.cs.length ∧ p.2 = (waysU n.cs p.1).map encA) (fun p => [(26, I64 (p.1 : Int)), (8, .arr 4 0 (2 * p.1) p.1)]) [(25, I64 (n.cs.length : Int)), (24, .sl (n.cs.map encCr)), (1, .ptr 0 0 0 0), (6, .ptr 3 0 0 0), (2, .ptr 1 0 0 0)] (fun p => opH n p.1 p.2) (fun p => n.cs.length - p.1) (0, []) [26, 8] (fun _ => rfl) (by ((repeat (refine Hold.cons (by exact rfl) ?_)); exact Hold.nil)) (by ((repeat (refine Hold.cons (by exact rfl) ?_)); exact Hold.nil)) rfl rfl ⟨by omega, rfl⟩ (by show n.cs.length - 0 < 4000000; omega) ?_
 rintro ⟨i, rs⟩ ⟨hi, hrs⟩
 try simp only at hi hrs ⊢
 have hrl : rs.length = 2 * i := by rw [hrs, List.length_map, waysU_len]
 have hlr : ∀ j, ltL j rs = true := fun j => by rw [hrs]; exact ltL_A j _
 by_cases hlt : i < n.cs.length
 ·have e1 := at_map encCr n.cs i hlt
  have hat : n.cs[i]? = some n.cs[i] := List.getElem?_eq_getElem hlt
  have HN := Bx.mk (waysU_next hat)
  generalize n.cs[i] = x at e1 HN
  clear hat
  repeat (first | apply ef_seq | (apply ef_mv; exact rfl; exact rfl) | (apply ef_bin; (iterate 3 exact rfl); (exact cmp_t rfl (by first | exact rfl | (simp only [cmpP]; omega)))) | (apply ef_ldr; exact rfl; exact rfl; (exact rd_6 rfl rfl rfl rfl rfl rfl)) | (apply ef_ldp; exact rfl; exact rfl; (exact rfl); exact rfl; (exact rfl); (exact rfl)) | (apply ef_ias; (iterate 3 exact rfl); (omega); assumption; exact rfl) | (apply ef_fap; exact rfl; exact rfl) | (apply ef_new; exact rfl) | (apply ef_build; exact rfl; (repeat (apply XVs.cons; exact rfl)); exact XVs.nil; exact rfl; exact rfl) | (apply ef_bsl; exact rfl; (repeat (apply XVs.cons; exact rfl)); exact XVs.nil; exact rfl) | (apply ef_st; (iterate 6 exact rfl); (exact rfl); exact rfl) | apply ef_nil | apply seqQ.normal | apply ef_block | apply ef_skip | (apply ef_condt; exact rfl; (exact (rfl : true = true))))
  (apply ef_app; (· exact rfl); (· exact rfl); (· exact rfl); (· exact rfl); (· exact rfl); (· exact rfl); (· (simp [hrl])); (· exact rfl); (· (simp [hrl]; omega)); (· (exact rfl)); (· exact rfl))
  repeat (first | (apply ef_mv; exact rfl; exact rfl) | (apply ef_bin; (iterate 3 exact rfl); (((with_reducible refine bin_add (wrap_of ?_ ?_)) <;> omega))) | apply ef_nil | apply seqQ.normal | apply blockQ.normal)
  (refine loopQ.normal _ _ ⟨(i + 1, rs ++ [encA ⟨x.ln, x.ti, 0, 0, 0⟩, encA ⟨x.ti, x.ln, 0, 0, 0⟩]), ⟨hlt, by rw [HN.out, hrs]; simp [wayA]⟩, (by first | (simp only; omega) | omega), ⟨by ((repeat (refine Hold.cons (by exact rfl) ?_)); exact Hold.nil), by ((repeat (refine Hold.cons (by exact rfl) ?_)); exact Hold.nil)⟩, .inr ⟨by ((repeat (refine hdl_cons rfl (by first | rfl | (simp [MV.lt, ltL, ltL_Ln, ltL_Cr, ltL_I, hlr, ltL_app2, splice, MV.cells])) ?_)); exact hdl_nil), by (simp [hltL, ltL, MV.lt, ltL, ltL_Ln, ltL_Cr, ltL_I, hlr, ltL_app2, splice, MV.cells])⟩, by exact rfl⟩)
 ·obtain rfl : i = n.cs.length := by omega
  repeat (first | apply ef_seq | (apply ef_mv; exact rfl; exact rfl) | (apply ef_bin; (iterate 3 exact rfl); (exact cmp_f rfl (by simp only [cmpP]; omega))) | (apply ef_len; exact rfl; exact rfl; (assumption)) | (apply ef_ldp; exact rfl; exact rfl; (exact rfl); exact rfl; (exact rfl); (exact rfl)) | (apply ef_fap; exact rfl; exact rfl) | (apply ef_bsl; exact rfl; (repeat (apply XVs.cons; exact rfl)); exact XVs.nil; exact rfl) | apply ef_nil | apply seqQ.normal | apply loopQ.exit | apply ef_exit | apply seqQ.exit | apply blockQ.here | (apply ef_condf; exact rfl; (exact (rfl : false = false))))
  (apply ef_call; (· exact rfl); (· ((repeat (apply XVs.cons; exact rfl)); exact XVs.nil)); · exact w2 _ _ _ (frz_row (o := ⟨n.cs.length, decide (n.cs.length = 0), 5, rs⟩) rfl rfl (by simp [hwy]) (ltL_A 0 _) hrs) (frz_row (o := ⟨0, false, 1, [I64 0]⟩) rfl rfl rfl rfl rfl))
  repeat (first | apply ef_seq | (apply ef_mv; exact rfl; exact rfl) | (apply ef_ext; (iterate 3 exact rfl)) | apply ef_nil | apply seqQ.normal)
  (apply ef_call; (· exact rfl); (· ((repeat (apply XVs.cons; exact rfl)); exact XVs.nil)); · exact w3 _ _ (frz_row (o := ⟨0, false, 1, (lgW n).map I64⟩) rfl rfl (by simp [hwl]) (ltL_I 0 _) rfl))
  cases hj : jnB n
  ·have hmf : minU (lgW n) (n.ls.length - 1) = -1099511627776 := by rw [HJ.out] at hj; simpa using hj
   rw [hmf]
   repeat (first | apply ef_seq | (apply ef_mv; exact rfl; exact rfl) | (apply ef_bin; (iterate 3 exact rfl); (exact cmp_t rfl (by first | exact rfl | (simp only [cmpP]; omega)))) | (apply ef_ldp; exact rfl; exact rfl; (exact rfl); exact rfl; (exact rfl); (exact rd_2 rfl rfl)) | (apply ef_nil0; exact rfl) | (apply ef_st; (iterate 6 exact rfl); (exact rfl); exact rfl) | apply ef_nil | apply seqQ.normal | apply ef_ret | apply seqQ.ret | (apply ef_condt; exact rfl; (exact (rfl : true = true))))
   show FinF _ (.tup [encN n, .arr 0 0 0 0, I64 0, I64 21]) [⟨0, true, 5, []⟩] _ _ _
   (apply fin_opN; (· exact rfl); (· exact ⟨1, 0, 0, 0, _, _, by exact rfl, by exact rfl, rfl, rfl, rd_2 rfl rfl⟩); (· exact rfl); (· exact rfl); (· exact rfl); (· exact rfl); (· exact rfl); (· exact rfl); (· exact rfl); (· exact rfl); (· exact rfl); (· exact rfl))
  ·have hmf : (minU (lgW n) (n.ls.length - 1) == -1099511627776) = false := by rw [HJ.out] at hj; simpa using hj
   generalize minU (lgW n) (n.ls.length - 1) = mm at *
   clear HJ
   repeat (first | apply ef_seq | (apply ef_mv; exact rfl; exact rfl) | (apply ef_bin; (iterate 3 exact rfl); (exact rfl)) | (apply ef_ldp; exact rfl; exact rfl; (exact rfl); exact rfl; (exact rfl); (exact rd_2 rfl rfl)) | apply ef_nil | apply seqQ.normal | apply ef_skip | (apply ef_condf; exact rfl; (assumption)) | (apply ef_call; exact rfl; ((repeat (apply XVs.cons; exact rfl)); exact XVs.nil); (with_reducible exact w4 _)))
   (apply ef_call; (· exact rfl); (· ((repeat (apply XVs.cons; exact rfl)); exact XVs.nil)); · exact w5 _ _ (frz_row (o := ⟨0, false, 1, (flZ n).map I64⟩) rfl rfl (by simp [hzl]) (ltL_I 0 _) rfl))
   repeat (first | (apply ef_mv; exact rfl; exact rfl) | (apply ef_ldp; exact rfl; exact rfl; (exact rfl); exact rfl; (exact rfl); (exact rd_2 rfl rfl)))
   (apply ef_call; (· exact rfl); (· ((repeat (apply XVs.cons; exact rfl)); exact XVs.nil)); · exact w6 _ _ (frz_row (o := ⟨0, false, 1, (flZ n).map I64⟩) rfl rfl (by simp [hzl]) (ltL_I 0 _) rfl))
   repeat (first | (apply ef_mv; exact rfl; exact rfl) | (apply ef_st; (iterate 6 exact rfl); (exact rfl); exact rfl) | apply ef_nil | apply seqQ.normal | apply ef_ret)
   show FinF _ (.tup [encN n, .arr 0 0 (arZ n).length 0, I64 (valU n.cs (flZ n) n.cs.length), I64 0]) [⟨0, decide ((arZ n).length = 0), 5, (arZ n).map encA⟩] _ _ _
   (apply fin_opN; (· exact rfl); (· exact ⟨1, 0, 0, 0, _, _, by exact rfl, by exact rfl, rfl, rfl, rd_2 rfl rfl⟩); (· exact rfl); (· exact rfl); (· exact rfl); (· exact rfl); (· exact rfl); (· simp); (· exact ltL_A 0 _); (· exact rfl); (· exact rfl); (· exact rfl))
theorem openJoined_c (k : Nat) (n : Nt) (hb : BdN n) (h0 : joE n = 0) (h : MHeap) :
  orA (k + 7) 44 [encN n] h = some (.tup [encN n, .arr h.length 0 (arZ n).length 0, I64 (minC n), I64 0], h ++ [⟨0, decide ((arZ n).length = 0), 5, (arZ n).map encA⟩]) := by
 obtain ⟨hn, ok, hj⟩ := joE_ok h0
 have hz := openJoined_z k n hb hn
 rw [if_pos ((jnB_iff ok).2 hj)] at hz
 have := callA (k := k + 6) (h := h) (args := [encN n]) (args' := [encN n]) (frzL_lt (by simp [ltL, MV.lt, ltL_Ln, ltL_Cr])) rfl hz (by simp [okV, ok1, MV.lt, ltL, ltL_Ln, ltL_Cr, MV.pure]) (by simp [okH, ltL_A, pureL_A])
 simpa [shV, sh1] using this
theorem fin_all {x : MX2} {A : Sl} {h : MHeap} {t u w id k g : Nat} {o : MObj} {es : List MV} {sz : Nat} {nl : Bool} {a b : Value} (hx : outX x = true) (hv : look A t = some (.arr id 0 k g)) (ha : look A u = some (.lit a)) (hb : look A w = some (.lit b)) (ho : h[id]? = some o) (hg : o.g = g) (hk : k = es.length) (hl : ltL 0 es = true) (he : o.es = es) (hz : o.sz = sz) (hn : o.nl = nl) :
  FinF [.tmp t, .tmp u, .tmp w] (.tup [.arr 0 0 k 0, .lit a, .lit b]) [⟨0, nl, sz, es⟩] x A h := by
 subst hz hn he hk
 refine ⟨hx, [.arr id 0 o.es.length g, .lit a, .lit b], [.arr 0 0 o.es.length 0, .lit a, .lit b], ⟨_, _, rfl, hv, _, _, rfl, ha, _, [], rfl, hb, rfl⟩, ?_, ?_, rfl⟩
 ·simp [impIds]
 ·simp [impIds, expL, ho, hg, hl, frz, MV.lt]
theorem mf_BestOf : MT.mf 10 = some mfW_l10 := mfW_q10
theorem BestOf_c (k : Nat) (n : Nt) (hb : BdN n) (h0 : joE n = 0) (h : MHeap) :
  orA (k + 8) 10 [encN n] h = some (.tup [.arr h.length 0 n.ls.length 0, I64 (minC n), I64 0], h ++ [⟨0, false, 1, (lgZ n 0).map I64⟩]) := by
 obtain ⟨hn, ok, hj⟩ := joE_ok h0
 have l1 := ok.l1
 have l8 := ok.l8
 have hs1 : (MV.sl (n.ls.map encLn)).slen = some n.ls.length := by simp [MV.slen]
 have w1 := fun h => openJoined_c k n hb h0 h
 have w2 := fun h v w hv hw => longest_c (k + 2) n.ls.length l1 l8 (arZ n) 10000 (by omega) (by omega) (arZ_ok ok) (arcsU_len16 ok _) [0] (fun v hv => by rw [List.mem_singleton] at hv; subst hv; omega) (by simp) h (v := v) (w := w) hv hw
 obtain ⟨hgC, hgL⟩ := lgZ_ok ok (s := 0) (by omega) (by omega)
 rw [hgC] at w2
 have hwl := hgL.len
 have hz : runZ MT (orA (k + 7)) (itA (k + 7)) 4000000 10 [encN n] [] = some (.tup [.arr 0 0 n.ls.length 0, I64 (minC n), I64 0], [⟨0, false, 1, (lgZ n 0).map I64⟩]) := by
  refine runZ_of mf_BestOf (by simp) ?_
  simp only [argsL]
  generalize minC n = mc at *
  repeat (first | apply ef_seq | (apply ef_mv; exact rfl; exact rfl) | (apply ef_bin; (iterate 3 exact rfl); (exact cmp_f rfl (by simp only [cmpP]; omega))) | (apply ef_len; exact rfl; exact rfl; (assumption)) | (apply ef_ldp; exact rfl; exact rfl; (exact rfl); exact rfl; (exact rfl); (first | exact rd_2 rfl rfl | exact rfl)) | (apply ef_fap; exact rfl; exact rfl) | (apply ef_ext; (iterate 3 exact rfl)) | (apply ef_box; (iterate 4 exact rfl)) | (apply ef_new; exact rfl) | (apply ef_nil0; exact rfl) | (apply ef_bsl; exact rfl; (repeat (apply XVs.cons; exact rfl)); exact XVs.nil; exact rfl) | (apply ef_st; (iterate 6 exact rfl); (exact rfl); exact rfl) | apply ef_nil | apply seqQ.normal | apply ef_skip | (apply ef_condf; exact rfl; (exact (rfl : false = false))) | (apply ef_call; exact rfl; ((repeat (apply XVs.cons; exact rfl)); exact XVs.nil); (with_reducible exact w1 _)))
  (apply ef_call; (· exact rfl); (· ((repeat (apply XVs.cons; exact rfl)); exact XVs.nil)); · exact w2 _ _ _ (frz_row (o := ⟨0, decide ((arZ n).length = 0), 5, (arZ n).map encA⟩) rfl rfl (by simp) (ltL_A 0 _) rfl) (frz_row (o := ⟨0, false, 1, [I64 0]⟩) rfl rfl rfl rfl rfl))
  repeat (first | apply ef_seq | (apply ef_mv; exact rfl; exact rfl) | (apply ef_ext; (iterate 3 exact rfl)) | apply ef_nil | apply seqQ.normal | apply ef_ret)
  (apply fin_all; (· exact rfl); (· exact rfl); (· exact rfl); (· exact rfl); (· exact rfl); (· exact rfl); (· simp [hwl]); (· exact ltL_I 0 _); (· exact rfl); (· exact rfl); (· exact rfl))
 have := callA (k := k + 7) (h := h) (args := [encN n]) (args' := [encN n]) (frzL_lt (by simp [ltL, MV.lt, ltL_Ln, ltL_Cr])) rfl hz (by simp [okV, ok1, MV.lt, MV.pure]) (by simp [okH, ltL_I, pureL_I])
 simpa [shV, sh1] using this
end Go.Proofs.YtbdleggmdbihnaaGreat

/- Contracts: the ranges of the best corrections; the program. -/
namespace Go.Proofs.YtbdleggmdbihnaaGreat
open Go.RowKit
set_option linter.unusedVariables false
set_option linter.unusedSimpArgs false
def rgL (n : Nt) : List (Int × Int) := (List.range n.ls.length).map fun i => (cAt (lgZ n 0) (i : Nat), upP n (i : Nat))
theorem rgL_len (n : Nt) : (rgL n).length = n.ls.length := by simp [rgL]
theorem rgL_next (n : Nt) {i : Nat} (h : i < n.ls.length) : ((rgL n).take (i + 1)).map encR = ((rgL n).take i).map encR ++ [.agg [I64 (cAt (lgZ n 0) (i : Nat)), I64 (upP n (i : Nat))]] := by
 have e : (rgL n)[i]? = some (cAt (lgZ n 0) (i : Nat), upP n (i : Nat)) := by simp [rgL, h]
 rw [List.take_add_one, e]; simp [encR]
abbrev rgH (n : Nt) (i : Nat) (rs : List MV) : MHeap := [⟨0, false, 2, [encN n]⟩, ⟨0, true, 2, []⟩, ⟨0, decide ((arZ n).length = 0), 5, (arZ n).map encA⟩, ⟨0, false, 2, [encN n]⟩, ⟨0, false, 1, [I64 0]⟩, ⟨0, false, 1, (lgZ n 0).map I64⟩, ⟨0, true, 5, []⟩, ⟨i, decide (i = 0), 2, rs⟩]
theorem mf_RangesOf : MT.mf 12 = some mfW_l12 := mfW_q12
set_option maxHeartbeats 4000000 in
theorem RangesOf_z (k : Nat) (n : Nt) (hb : BdN n) (h0 : joE n = 0) :
  runZ MT (orA (k + 7)) (itA (k + 7)) 4000000 12 [encN n] [] = some (.tup [.arr 0 0 n.ls.length 0, I64 0], [⟨0, decide (n.ls.length = 0), 2, (rgL n).map encR⟩]) := by
 obtain ⟨hn, ok, hj⟩ := joE_ok h0
 have l1 := ok.l1
 have l8 := ok.l8
 have hs1 : (MV.sl (n.ls.map encLn)).slen = some n.ls.length := by simp [MV.slen]
 have w1 := fun h => openJoined_c k n hb h0 h
 have w2 := fun (s : Int) (hs0 : 0 ≤ s) (hs1 : s < (n.ls.length : Int)) h v w hv hw => longest_c (k + 2) n.ls.length l1 l8 (arZ n) 10000 (by omega) (by omega) (arZ_ok ok) (arcsU_len16 ok _) [s] (fun v hv => by rw [List.mem_singleton] at hv; subst hv; exact ⟨hs0, hs1⟩) (by simp) h (v := v) (w := w) hv hw
 obtain ⟨hgC, hgL⟩ := lgZ_ok ok (s := 0) (by omega) (by omega)
 have w20 := w2 0 (by omega) (by omega)
 rw [hgC] at w20
 have hwl := hgL.len
 clear hgC hgL
 refine runZ_of mf_RangesOf (by simp) ?_
 simp only [argsL]
 generalize minC n = mc at *
 repeat (first | apply ef_seq | (apply ef_mv; exact rfl; exact rfl) | (apply ef_bin; (iterate 3 exact rfl); (exact cmp_f rfl (by simp only [cmpP]; omega))) | (apply ef_len; exact rfl; exact rfl; (assumption)) | (apply ef_ldp; exact rfl; exact rfl; (exact rfl); exact rfl; (exact rfl); (first | exact rd_2 rfl rfl | exact rfl)) | (apply ef_fap; exact rfl; exact rfl) | (apply ef_ext; (iterate 3 exact rfl)) | (apply ef_box; (iterate 4 exact rfl)) | (apply ef_new; exact rfl) | (apply ef_nil0; exact rfl) | (apply ef_bsl; exact rfl; (repeat (apply XVs.cons; exact rfl)); exact XVs.nil; exact rfl) | (apply ef_st; (iterate 6 exact rfl); (exact rfl); exact rfl) | apply ef_nil | apply seqQ.normal | apply ef_skip | (apply ef_condf; exact rfl; (exact (rfl : false = false))) | (apply ef_call; exact rfl; ((repeat (apply XVs.cons; exact rfl)); exact XVs.nil); (with_reducible exact w1 _)))
 (apply ef_call; (· exact rfl); (· ((repeat (apply XVs.cons; exact rfl)); exact XVs.nil)); · exact w20 _ _ _ (frz_row (o := ⟨0, decide ((arZ n).length = 0), 5, (arZ n).map encA⟩) rfl rfl (by simp) (ltL_A 0 _) rfl) (frz_row (o := ⟨0, false, 1, [I64 0]⟩) rfl rfl rfl rfl rfl))
 repeat (first | apply ef_seq | (apply ef_mv; exact rfl; exact rfl) | (apply ef_len; exact rfl; exact rfl; (exact rfl)) | (apply ef_ext; (iterate 3 exact rfl)) | (apply ef_nil0; exact rfl) | apply ef_nil | apply seqQ.normal | apply ef_block)
 refine ef_loopf (α := Nat × List MV) (fun p => p.1 ≤ n.ls.length ∧ p.2 = ((rgL n).take p.1).map encR) (fun p => [(37, I64 (p.1 : Int)), (10, .arr 7 0 p.1 p.1)]) [(36, I64 (n.ls.length : Int)), (35, .arr 5 0 n.ls.length 0), (4, .ptr 3 0 0 0), (5, .arr 2 0 (arZ n).length 0)] (fun p => rgH n p.1 p.2) (fun p => n.ls.length - p.1) (0, []) [37, 10] (fun _ => rfl) (by ((repeat (refine Hold.cons (by exact rfl) ?_)); exact Hold.nil)) (by ((repeat (refine Hold.cons (by exact rfl) ?_)); exact Hold.nil)) rfl rfl ⟨by omega, rfl⟩ (by show n.ls.length - 0 < 4000000; omega) ?_
 rintro ⟨i, rs⟩ ⟨hi, hrs⟩
 try simp only at hi hrs ⊢
 have hrl : rs.length = i := by rw [hrs, List.length_map, List.length_take, rgL_len]; omega
 have hlr : ∀ j, ltL j rs = true := fun j => by rw [hrs]; exact ltL_R j _
 by_cases hlt : i < n.ls.length
 ·obtain ⟨hgC, hgL⟩ := lgZ_ok ok (s := (i : Int)) (by omega) (by omega)
  have w2i := w2 (i : Int) (by omega) (by omega)
  rw [hgC] at w2i
  have hil := hgL.len
  have hup := hgL.up 0
  have hlo := lgZ_all ok hj (s := (i : Int)) (by omega) (by omega) 0 (by omega) (by omega)
  have HN := Bx.mk (rgL_next n hlt)
  have HU := Bx.mk (show upP n (i : Nat) = 0 - cAt (lgZ n (i : Int)) 0 from rfl)
  have e1 : ((lgZ n 0).map I64)[0 + ((i : Nat) : Int).toNat]? = some (I64 (cAt (lgZ n 0) (i : Nat))) := by rw [Nat.zero_add]; exact cAt_at hwl (by omega) (by omega)
  have e2 : ((lgZ n (i : Int)).map I64)[0 + (0 : Int).toNat]? = some (I64 (cAt (lgZ n (i : Int)) 0)) := by rw [Nat.zero_add]; exact cAt_at hil (by omega) (by omega)
  clear hgC hgL w2
  generalize cAt (lgZ n 0) (i : Nat) = lo at *
  generalize hz : cAt (lgZ n (i : Int)) 0 = z at *
  repeat (first | apply ef_seq | (apply ef_mv; exact rfl; exact rfl) | (apply ef_bin; (iterate 3 exact rfl); (exact cmp_t rfl (by first | exact rfl | (simp only [cmpP]; omega)))) | (apply ef_len; exact rfl; exact rfl; (assumption)) | (apply ef_ldp; exact rfl; exact rfl; (exact rfl); exact rfl; (first | exact rfl | assumption); (exact rfl)) | (apply ef_iaa; (iterate 3 exact rfl); (omega); (omega); (exact rfl)) | (apply ef_fap; exact rfl; exact rfl) | (apply ef_bsl; exact rfl; (repeat (apply XVs.cons; exact rfl)); exact XVs.nil; exact rfl) | apply ef_nil | apply seqQ.normal | apply ef_block | apply ef_skip | (apply ef_condt; exact rfl; (exact (rfl : true = true))))
  (apply ef_call; (· exact rfl); (· ((repeat (apply XVs.cons; exact rfl)); exact XVs.nil)); · exact w2i _ _ _ (frz_row (o := ⟨0, decide ((arZ n).length = 0), 5, (arZ n).map encA⟩) rfl rfl (by simp) (ltL_A 0 _) rfl) (frz_row (o := ⟨0, false, 1, [I64 (i : Int)]⟩) rfl rfl rfl rfl rfl))
  repeat (first | (apply ef_mv; exact rfl; exact rfl) | (apply ef_ldp; exact rfl; exact rfl; (exact rfl); exact rfl; (assumption); (exact rfl)) | (apply ef_iaa; (iterate 3 exact rfl); (omega); (omega); (exact rfl)) | (apply ef_neg; exact rfl; exact rfl; exact wrap_of (by omega) (by omega)) | (apply ef_ext; (iterate 3 exact rfl)) | (apply ef_build; exact rfl; (repeat (apply XVs.cons; exact rfl)); exact XVs.nil; exact rfl; exact rfl) | (apply ef_bsl; exact rfl; (repeat (apply XVs.cons; exact rfl)); exact XVs.nil; exact rfl) | apply ef_nil | apply seqQ.normal)
  (apply ef_app; (· exact rfl); (· exact rfl); (· exact rfl); (· exact rfl); (· exact rfl); (· exact rfl); (· (simp [hrl])); (· exact rfl); (· (simp [hrl]; omega)); (· (exact rfl)); (· exact rfl))
  repeat (first | (apply ef_mv; exact rfl; exact rfl) | (apply ef_bin; (iterate 3 exact rfl); (((with_reducible refine bin_add (wrap_of ?_ ?_)) <;> omega))) | apply ef_nil | apply seqQ.normal | apply blockQ.normal)
  (refine loopQ.normal _ _ ⟨(i + 1, rs ++ [.agg [I64 lo, I64 (0 - z)]]), ⟨hlt, by rw [HN.out, HU.out, hrs]⟩, (by first | (simp only; omega) | omega), ⟨by ((repeat (refine Hold.cons (by exact rfl) ?_)); exact Hold.nil), by ((repeat (refine Hold.cons (by exact rfl) ?_)); exact Hold.nil)⟩, .inr ⟨by ((repeat (refine hdl_cons rfl (by first | rfl | (simp [MV.lt, ltL, ltL_Ln, ltL_Cr, ltL_I, ltL_A, hlr, ltL_app2, splice, MV.cells])) ?_)); exact hdl_nil), by (simp [hltL, ltL, MV.lt, ltL, ltL_Ln, ltL_Cr, ltL_I, ltL_A, hlr, ltL_app2, splice, MV.cells])⟩, by exact rfl⟩)
 ·obtain rfl : i = n.ls.length := by omega
  have hra : rs = (rgL n).map encR := by rw [hrs, List.take_of_length_le (by rw [rgL_len]; exact Nat.le_refl _)]
  repeat (first | apply ef_seq | (apply ef_mv; exact rfl; exact rfl) | (apply ef_bin; (iterate 3 exact rfl); (exact cmp_f rfl (by simp only [cmpP]; omega))) | apply ef_nil | apply seqQ.normal | apply loopQ.exit | apply ef_ret | apply ef_exit | apply seqQ.exit | apply blockQ.here | (apply ef_condf; exact rfl; (exact (rfl : false = false))))
  (apply fin_al; (· exact rfl); (· exact rfl); (· exact rfl); (· exact rfl); (· exact rfl); (· simp [rgL_len]); (· exact ltL_R 0 _); (· exact hra); (· exact rfl); (· exact rfl))
theorem RangesOf_c (k : Nat) (n : Nt) (hb : BdN n) (h0 : joE n = 0) (h : MHeap) :
  orA (k + 8) 12 [encN n] h = some (.tup [.arr h.length 0 n.ls.length 0, I64 0], h ++ [⟨0, decide (n.ls.length = 0), 2, (rgL n).map encR⟩]) := by
 have := callA (k := k + 7) (h := h) (args := [encN n]) (args' := [encN n]) (frzL_lt (by simp [ltL, MV.lt, ltL_Ln, ltL_Cr])) rfl (RangesOf_z k n hb h0) (by simp [okV, ok1, MV.lt, MV.pure]) (by simp [okH, ltL_R, pureL_R])
 simpa [shV, sh1] using this
end Go.Proofs.YtbdleggmdbihnaaGreat

/- Best corrections (plain): upper ends of ranges are best corrections, too; one more is not. -/
namespace Go.Proofs.YtbdleggmdbihnaaGreat
open Go.RowKit
set_option linter.unusedVariables false
set_option linter.unusedSimpArgs false
structure Bst (n : Nt) (c : List Int) : Prop where
 len : c.length = n.ls.length
 z0 : cAt c 0 = 0
 bd : ∀ v, -80000 ≤ cAt c v ∧ cAt c v ≤ 80000
 cost : costL n c = minC n
 cor : corrE n.ls.length c = 0
theorem cAt_far {c : List Int} {v : Int} (h : (c.length : Int) ≤ v) : cAt c v = 0 := by
 unfold cAt
 rw [List.getD_eq_getElem?_getD, List.getElem?_eq_none (by omega)]; rfl
theorem cAt_neg {c : List Int} {v : Int} (h : v < 0) : cAt c v = cAt c 0 := by
 unfold cAt
 rw [show v.toNat = (0 : Int).toNat by omega]
theorem bst_of {n : Nt} (ok : OkN n) (hj : Jn n) {c : List Int} (hl : c.length = n.ls.length) (h0 : cAt c 0 = 0) (hc : costL n c = minC n) : Bst n c := by
 have l1 := ok.l1
 have hb : ∀ v, -80000 ≤ cAt c v ∧ cAt c v ≤ 80000 := fun v => by
  by_cases h1 : v < 0
  ·rw [cAt_neg h1, h0]; omega
  ·by_cases h2 : (c.length : Int) ≤ v
   ·rw [cAt_far h2]; omega
   ·have := best_in ok hj (q := cAt c) (by rw [← costL_P]; exact hc) h0 (v := v) (by omega) (by omega)
    omega
 refine ⟨hl, h0, hb, hc, ?_⟩
 unfold corrE
 rw [if_pos hl, if_neg, if_pos]
 ·exact h0
 ·rw [Bool.not_eq_true, List.any_eq_false]
  intro z hz
  obtain ⟨i, hi, rfl⟩ := List.getElem_of_mem hz
  have := hb (i : Int)
  have e : cAt c (i : Int) = c[i] := by unfold cAt; rw [Int.toNat_natCast, List.getD_eq_getElem?_getD, List.getElem?_eq_getElem hi]; rfl
  rw [e] at this
  have hin : inB c[i] (-1000000) 1000000 = true := inB_iff.2 ⟨by omega, by omega⟩
  unfold strB
  rw [hin]; simp
theorem bst_low {n : Nt} (ok : OkN n) (hj : Jn n) : Bst n (lgZ n 0) := by
 have l1 := ok.l1
 obtain ⟨-, hL⟩ := lgZ_ok ok (s := 0) (by omega) (by omega)
 refine bst_of ok hj hL.len (lgZ_self ok hj (by omega) (by omega)) ?_
 rw [costL_P]
 exact feas_best ok (lgZ_feas ok hj (by omega) (by omega))
def upQ (n : Nt) : List Int := (List.range n.ls.length).map fun i => upP n (i : Nat)
theorem upQ_len (n : Nt) : (upQ n).length = n.ls.length := by simp [upQ]
theorem upQ_at (n : Nt) {i : Nat} (h : i < n.ls.length) : cAt (upQ n) (i : Int) = upP n (i : Nat) := by
 unfold cAt upQ
 rw [Int.toNat_natCast, List.getD_eq_getElem?_getD, List.getElem?_map, List.getElem?_range h]; rfl
theorem upQ_next (n : Nt) {i : Nat} (h : i < n.ls.length) : ((upQ n).take (i + 1)).map I64 = ((upQ n).take i).map I64 ++ [I64 (upP n (i : Nat))] := by
 have e : (upQ n)[i]? = some (upP n (i : Nat)) := by simp [upQ, h]
 rw [List.take_add_one, e]; simp
theorem bst_up {n : Nt} (ok : OkN n) (hj : Jn n) : Bst n (upQ n) := by
 have l1 := ok.l1
 refine bst_of ok hj (upQ_len n) ?_ ?_
 ·have := upQ_at n l1
  rw [show ((0 : Nat) : Int) = 0 from rfl] at this
  rw [this]; exact upP_zero ok hj
 ·rw [costL_P]
  rw [costP_congr (m := n.ls.length) (q := upP n) (fun x hx => by have o := ok.rg x hx; exact ⟨⟨o.l0, o.l1⟩, o.t0, o.t1⟩) (fun v h1 h2 => by
   have := upQ_at n (i := v.toNat) (by omega)
   rw [show ((v.toNat : Nat) : Int) = v by omega] at this
   exact this) _ (Nat.le_refl _)]
  exact feas_best ok (upP_feas ok hj)
theorem minL_le {n : Nt} (ok : OkN n) (c : List Int) : minC n ≤ costL n c := by rw [costL_P]; exact minC_le ok _
theorem more_cost {n : Nt} (ok : OkN n) (hj : Jn n) {i : Nat} (h1 : 1 ≤ i) (h2 : i < n.ls.length) : minC n < costL n ((upQ n).set i (upP n (i : Nat) + 1)) := by
 have hl := upQ_len n
 refine Classical.byContradiction fun h => ?_
 have he : costL n ((upQ n).set i (upP n (i : Nat) + 1)) = minC n := by have := minL_le ok ((upQ n).set i (upP n (i : Nat) + 1)); omega
 have ha : ∀ j : Nat, cAt ((upQ n).set i (upP n (i : Nat) + 1)) (j : Int) = if j = i then upP n (i : Nat) + 1 else cAt (upQ n) j := fun j => cAt_setN (by omega)
 have hz : cAt ((upQ n).set i (upP n (i : Nat) + 1)) 0 = 0 := by
  have := ha 0
  rw [if_neg (by omega)] at this
  exact this.trans (bst_up ok hj).z0
 rw [costL_P] at he
 have := upP_ge ok hj (best_feas ok he) hz (v := (i : Int)) (by omega) (by omega)
 rw [ha i, if_pos rfl] at this
 omega
theorem more_ok {n : Nt} (ok : OkN n) (hj : Jn n) {i : Nat} (h2 : i < n.ls.length) : OkB n.ls.length ((upQ n).set i (upP n (i : Nat) + 1)) := by
 have hu := bst_up ok hj
 have hl := upQ_len n
 have hi := upQ_at n h2
 refine ⟨by simp [hl], fun v => ?_⟩
 have e : cAt ((upQ n).set i (upP n (i : Nat) + 1)) v = cAt ((upQ n).set i (upP n (i : Nat) + 1)) ((v.toNat : Nat) : Int) := by unfold cAt; rw [Int.toNat_natCast]
 rw [e, cAt_setN (by omega), ← hi]
 have b1 := hu.bd (i : Int)
 have b2 := hu.bd ((v.toNat : Nat) : Int)
 split <;> omega
theorem up_in {n : Nt} (ok : OkN n) (hj : Jn n) {i : Nat} (h2 : i < n.ls.length) : inB (upP n (i : Nat)) (cAt (lgZ n 0) (i : Nat)) 1000000 = true := by
 have hu := bst_up ok hj
 have := best_in ok hj (q := cAt (upQ n)) (by rw [← costL_P]; exact hu.cost) hu.z0 (v := (i : Int)) (by omega) (by omega)
 rw [upQ_at n h2] at this
 rw [inB_iff]
 omega
end Go.Proofs.YtbdleggmdbihnaaGreat

/- Contracts of the document: whether a net is joined. -/
namespace Go.Proofs.YtbdleggmdbihnaaGreat
open Go.RowKit
set_option linter.unusedVariables false
set_option linter.unusedSimpArgs false
structure JI (n : Nt) (R : List Int) : Prop where
 nd : R.Nodup
 rg : ∀ v ∈ R, 0 ≤ v ∧ v < (n.ls.length : Int)
 z : (0 : Int) ∈ R
 cl : ∀ S : Int → Bool, S 0 = true → (∀ x ∈ n.cs, S x.ln = S x.ti) → ∀ v ∈ R, S v = true
theorem nodup_le {m : Nat} {R : List Int} (nd : R.Nodup) (rg : ∀ v ∈ R, 0 ≤ v ∧ v < (m : Int)) : R.length ≤ m := by
 refine Classical.byContradiction fun h => ?_
 obtain ⟨i, j, hij, hj, e⟩ := pigeon m (fun i => R.getD i 0) (fun i hi => by
  have : i < R.length := by omega
  simp only [List.getD_eq_getElem?_getD, List.getElem?_eq_getElem this, Option.getD_some]
  exact rg _ (List.getElem_mem _))
 have h1 : i < R.length := by omega
 have h2 : j < R.length := by omega
 simp only [List.getD_eq_getElem?_getD, List.getElem?_eq_getElem h1, List.getElem?_eq_getElem h2, Option.getD_some] at e
 exact List.pairwise_iff_getElem.1 nd i j h1 h2 hij e
theorem JI.len {n : Nt} {R : List Int} (h : JI n R) : R.length ≤ n.ls.length := nodup_le h.nd h.rg
theorem JI.start {n : Nt} (h : 0 < n.ls.length) : JI n [0] := ⟨by simp, fun v hv => by rw [List.mem_singleton] at hv; subst hv; omega, by simp, fun S h0 _ v hv => by rw [List.mem_singleton] at hv; subst hv; exact h0⟩
theorem JI.add {n : Nt} (ok : OkN n) {R : List Int} (h : JI n R) {x : Cr} (hx : x ∈ n.cs) {a b : Int} (hab : (a = x.ln ∧ b = x.ti) ∨ (a = x.ti ∧ b = x.ln)) (ha : a ∈ R) (hb : ¬ b ∈ R) : JI n (R ++ [b]) := by
 have o := ok.rg x hx
 refine ⟨?_, fun v hv => ?_, by simp [h.z], fun S h0 hc v hv => ?_⟩
 ·rw [List.nodup_append]
  exact ⟨h.nd, by simp, fun u hu w hw => by rw [List.mem_singleton] at hw; subst hw; exact fun e => hb (e ▸ hu)⟩
 ·rcases List.mem_append.1 hv with hv | hv
  ·exact h.rg v hv
  ·rw [List.mem_singleton] at hv
   subst hv
   rcases hab with ⟨-, rfl⟩ | ⟨-, rfl⟩
   ·exact ⟨o.t0, o.t1⟩
   ·exact ⟨o.l0, o.l1⟩
 ·rcases List.mem_append.1 hv with hv | hv
  ·exact h.cl S h0 hc v hv
  ·rw [List.mem_singleton] at hv
   subst hv
   have h1 := h.cl S h0 hc a ha
   have h2 := hc x hx
   rcases hab with ⟨rfl, rfl⟩ | ⟨rfl, rfl⟩
   ·rw [← h2]; exact h1
   ·rw [h2]; exact h1
theorem JI.done {n : Nt} (ok : OkN n) {R : List Int} (h : JI n R) (hc : ∀ (j : Nat) (hj : j < n.cs.length), n.cs[j].ln ∈ R ↔ n.cs[j].ti ∈ R) : decide (R.length = n.ls.length) = jnB n := by
 have hl := h.len
 rw [Bool.eq_iff_iff, decide_eq_true_eq, jnB_iff ok]
 constructor
 ·intro he S h0 hcl v v0 v1
  refine h.cl S h0 hcl v (Classical.byContradiction fun hv => ?_)
  have := nodup_le (m := n.ls.length) (R := v :: R) (List.nodup_cons.2 ⟨hv, h.nd⟩) (fun u hu => by
   rcases List.mem_cons.1 hu with rfl | hu
   ·exact ⟨v0, v1⟩
   ·exact h.rg u hu)
  simp at this; omega
 ·intro hj
  have hall : ∀ v : Int, 0 ≤ v → v < (n.ls.length : Int) → v ∈ R := fun v v0 v1 => by
   have := hj (fun v => decide (v ∈ R)) (by simp [h.z]) (fun x hx => by
    obtain ⟨j, hj2, rfl⟩ := List.getElem_of_mem hx
    have := hc j hj2
    simp only [decide_eq_decide]
    exact this) v v0 v1
   simpa using this
  refine Classical.byContradiction fun hne => ?_
  have hlt : R.length < n.ls.length := by omega
  obtain ⟨i, j, hij, hj2, e⟩ := pigeon R.length (fun i => ((R.idxOf (i : Int) : Nat) : Int)) (fun i hi => by
   have := List.idxOf_lt_length_iff.2 (hall (i : Int) (by omega) (by omega))
   exact ⟨by omega, by omega⟩)
  have h1 := List.idxOf_lt_length_iff.2 (hall (i : Int) (by omega) (by omega))
  have h2 := List.idxOf_lt_length_iff.2 (hall (j : Int) (by omega) (by omega))
  have e1 := List.getElem_idxOf h1
  have e2 := List.getElem_idxOf h2
  have e3 : R.idxOf (i : Int) = R.idxOf (j : Int) := by omega
  have : (i : Int) = (j : Int) := by rw [← e1, ← e2]; simp only [e3]
  omega
end Go.Proofs.YtbdleggmdbihnaaGreat

/- Contracts of the document: whether a net is joined (walk). -/
namespace Go.Proofs.YtbdleggmdbihnaaGreat
open Go.RowKit
set_option linter.unusedVariables false
set_option linter.unusedSimpArgs false
abbrev ijH (n : Nt) (rs : List MV) (g : Nat) : MHeap := [⟨0, false, 2, [encN n]⟩, ⟨g, false, 1, rs⟩]
def clI (n : Nt) (R : List Int) (i : Nat) : Prop := ∀ (j : Nat) (hj : j < n.cs.length), j < i → (n.cs[j].ln ∈ R ↔ n.cs[j].ti ∈ R)
structure IJ (n : Nt) (m : Nat) (p : Nat × List Int × Nat × Bool) : Prop where
 i : p.1 ≤ n.cs.length
 ji : JI n p.2.1
 le : m ≤ p.2.1.length
 fl : p.2.2.2 = true → m < p.2.1.length
 cl : p.2.2.2 = false → clI n p.2.1 p.1
theorem IJ.skip {n : Nt} {m i g : Nat} {R : List Int} {f : Bool} (h : IJ n m (i, R, g, f)) (hlt : i < n.cs.length) (he : n.cs[i].ln ∈ R ↔ n.cs[i].ti ∈ R) : IJ n m (i + 1, R, g, f) :=
 ⟨hlt, h.ji, h.le, h.fl, fun hf j hj hji => by
  by_cases e : j = i
  ·subst e; exact he
  ·exact h.cl hf j hj (by show j < i; omega)⟩
theorem IJ.add {n : Nt} (ok : OkN n) {m i g : Nat} {R : List Int} {f : Bool} (h : IJ n m (i, R, g, f)) (hlt : i < n.cs.length) {a b : Int} (hab : (a = n.cs[i].ln ∧ b = n.cs[i].ti) ∨ (a = n.cs[i].ti ∧ b = n.cs[i].ln)) (ha : a ∈ R) (hb : ¬ b ∈ R) (g' : Nat) : IJ n m (i + 1, R ++ [b], g', true) := by
 have h1 := h.ji.add ok (List.getElem_mem hlt) hab ha hb
 have h2 := h.le
 exact ⟨hlt, h1, by simp at h2 ⊢; omega, fun _ => by simp at h2 ⊢; omega, fun hf => by cases hf⟩
theorem mf_IsJoined : MT.mf 46 = some ⟨61, [(.tmp 2)], (.seq (.reg [⟨none, some 1, .box 2 (.s 0)⟩, ⟨none, some 2, .mv (.c (.lit (.bool false)))⟩]) (.seq (.reg [⟨none, some 8, .bsl (.lit (.int .i64 0)) 1 1 [(0, (.c (.lit (.int .i64 0))))]⟩, ⟨none, some 3, .mv (.s 8)⟩]) (.seq (.seq (.reg [⟨none, some 4, .mv (.c (.lit (.bool true)))⟩]) (.block 0 (.loop [4, 1, 3] (.seq (.seq (.reg [⟨none, some 9, .mv (.s 4)⟩]) (.cond (.s 9) .skip (.exit 0))) (.block 1 (.seq (.reg [⟨none, some 4, .mv (.c (.lit (.bool false)))⟩]) (.seq (.reg [⟨none, some 5, .mv (.c (.lit (.int .i64 0)))⟩]) (.block 2 (.loop [5, 1, 3, 4] (.seq (.seq (.reg [⟨none, some 10, .mv (.s 5)⟩, ⟨none, some 11, .fa 1 (.s 1)⟩, ⟨none, some 12, .ld none (.s 11)⟩, ⟨none, some 13, .len (.s 12)⟩, ⟨none, some 14, .bin .lss (.s 10) (.s 13)⟩]) (.cond (.s 14) .skip (.exit 2))) (.seq (.block 3 (.seq (.reg [⟨none, some 17, .fa 1 (.s 1)⟩, ⟨none, some 18, .ld none (.s 17)⟩, ⟨none, some 19, .mv (.s 5)⟩, ⟨none, some 20, .ia 6 (.s 18) (.s 19)⟩, ⟨none, some 21, .fa 0 (.s 20)⟩, ⟨none, some 22, .ld none (.s 21)⟩, ⟨none, some 23, .fa 1 (.s 1)⟩, ⟨none, some 24, .ld none (.s 23)⟩, ⟨none, some 25, .mv (.s 5)⟩, ⟨none, some 26, .ia 6 (.s 24) (.s 25)⟩, ⟨none, some 27, .fa 1 (.s 26)⟩, ⟨none, some 28, .ld none (.s 27)⟩, ⟨none, some 6, .mv (.s 22)⟩, ⟨none, some 7, .mv (.s 28)⟩]) (.seq (.seq (.reg [⟨none, some 29, .mv (.s 3)⟩, ⟨none, some 30, .mv (.s 6)⟩, ⟨none, some 31, .call 95 [.s 29, .s 30]⟩, ⟨none, some 32, .mv (.s 31)⟩, ⟨some (32, true), some 33, .mv (.s 3)⟩, ⟨some (32, true), some 34, .mv (.s 7)⟩, ⟨some (32, true), some 35, .call 95 [.s 33, .s 34]⟩, ⟨some (32, true), some 36, .un .not (.s 35)⟩, ⟨none, some 37, .pick (.s 32) (.s 36) (.c (.lit (.bool false)))⟩]) (.cond (.s 37) (.reg [⟨none, some 38, .mv (.s 3)⟩, ⟨none, some 39, .mv (.s 7)⟩, ⟨none, some 40, .bsl (.lit (.int .i64 0)) 1 1 [(0, (.s 39))]⟩, ⟨none, some 41, .app 1 (.s 38) (.s 40)⟩, ⟨none, some 3, .mv (.s 41)⟩, ⟨none, some 4, .mv (.c (.lit (.bool true)))⟩]) .skip)) (.seq (.reg [⟨none, some 42, .mv (.s 3)⟩, ⟨none, some 43, .mv (.s 7)⟩, ⟨none, some 44, .call 95 [.s 42, .s 43]⟩, ⟨none, some 45, .mv (.s 44)⟩, ⟨some (45, true), some 46, .mv (.s 3)⟩, ⟨some (45, true), some 47, .mv (.s 6)⟩, ⟨some (45, true), some 48, .call 95 [.s 46, .s 47]⟩, ⟨some (45, true), some 49, .un .not (.s 48)⟩, ⟨none, some 50, .pick (.s 45) (.s 49) (.c (.lit (.bool false)))⟩]) (.cond (.s 50) (.reg [⟨none, some 51, .mv (.s 3)⟩, ⟨none, some 52, .mv (.s 6)⟩, ⟨none, some 53, .bsl (.lit (.int .i64 0)) 1 1 [(0, (.s 52))]⟩, ⟨none, some 54, .app 1 (.s 51) (.s 53)⟩, ⟨none, some 3, .mv (.s 54)⟩, ⟨none, some 4, .mv (.c (.lit (.bool true)))⟩]) .skip))))) (.reg [⟨none, some 15, .mv (.s 5)⟩, ⟨none, some 16, .bin .add (.s 15) (.c (.lit (.int .i64 1)))⟩, ⟨none, some 5, .mv (.s 16)⟩])))))))))))) (.seq (.reg [⟨none, some 55, .mv (.s 3)⟩, ⟨none, some 56, .len (.s 55)⟩, ⟨none, some 57, .fa 0 (.s 1)⟩, ⟨none, some 58, .ld none (.s 57)⟩, ⟨none, some 59, .len (.s 58)⟩, ⟨none, some 60, .bin .eql (.s 56) (.s 59)⟩, ⟨none, some 2, .mv (.s 60)⟩]) .ret))))⟩ := by kernel_rfl
set_option maxHeartbeats 4000000 in
theorem IsJoined_z (k : Nat) (n : Nt) (ok : OkN n) : runZ MT (orA (k + 1)) (itA (k + 1)) 4000000 46 [encN n] [] = some (Bo (jnB n), []) := by
 have l1 := ok.l1
 have l8 := ok.l8
 have c16 := ok.c16
 have hs1 : (MV.sl (n.ls.map encLn)).slen = some n.ls.length := by simp [MV.slen]
 have hs2 : (MV.sl (n.cs.map encCr)).slen = some n.cs.length := by simp [MV.slen]
 refine runZ_of mf_IsJoined (by simp) ?_
 simp only [argsL]
 repeat (first | apply ef_seq | (apply ef_mv; exact rfl; exact rfl) | (apply ef_box; (iterate 4 exact rfl)) | (apply ef_bsl; exact rfl; (repeat (apply XVs.cons; exact rfl)); exact XVs.nil; exact rfl) | apply ef_nil | apply seqQ.normal | apply ef_block)
 refine ef_loopf (α := (List Int × Nat × List MV) × Nat × Bool) (fun p => (JI n p.1.1 ∧ (p.2.2 = false → clI n p.1.1 n.cs.length)) ∧ p.1.2.1 = p.1.1.length ∧ p.1.2.2 = p.1.1.map I64) (fun p => [(4, Bo p.2.2), (3, .arr 1 0 p.1.2.1 p.2.1)]) [(1, .ptr 0 0 0 0)] (fun p => ijH n p.1.2.2 p.2.1) (fun p => 2 * (n.ls.length - p.1.2.1) + (if p.2.2 then 1 else 0)) (([0], 1, [I64 0]), 0, true) [4, 3] (fun _ => rfl) (by ((repeat (refine Hold.cons (by exact rfl) ?_)); exact Hold.nil)) (by ((repeat (refine Hold.cons (by exact rfl) ?_)); exact Hold.nil)) rfl rfl ⟨⟨.start l1, fun h => by cases h⟩, rfl, rfl⟩ (by show 2 * (n.ls.length - 1) + 1 < 4000000; omega) ?_
 rintro ⟨⟨R, K, rs⟩, g, f⟩ ⟨⟨hji, hcl⟩, hK, hrs⟩
 try simp only at hji hcl hK hrs ⊢
 have hle := hji.len
 have HJ := Bx.mk hji
 have HC := Bx.mk hcl
 clear hji hcl
 cases f
 ·repeat (first | apply ef_seq | (apply ef_mv; exact rfl; exact rfl) | (apply ef_bin; (iterate 3 exact rfl); (exact rfl)) | (apply ef_len; exact rfl; exact rfl; (first | assumption | exact rfl)) | (apply ef_ldp; exact rfl; exact rfl; (exact rfl); exact rfl; (exact rfl); (exact rfl)) | (apply ef_fap; exact rfl; exact rfl) | apply ef_nil | apply seqQ.normal | apply loopQ.exit | apply ef_ret | apply ef_exit | apply seqQ.exit | apply blockQ.here | (apply ef_condf; exact rfl; (exact (rfl : false = false))))
  (refine fin1 rfl (by exact rfl) rfl ?_)
  rw [← HJ.out.done ok (fun j hj => HC.out rfl j hj hj)]
  rw [hK]; congr 2; rw [Bool.eq_iff_iff]; simp; omega
 ·repeat (first | apply ef_seq | (apply ef_mv; exact rfl; exact rfl) | apply ef_nil | apply seqQ.normal | apply ef_block | apply ef_skip | (apply ef_condt; exact rfl; (exact (rfl : true = true))))
  refine ef_loopf (α := Nat × (List Int × Nat × List MV) × Nat × Bool) (fun p => IJ n K (p.1, p.2.1.1, p.2.2) ∧ p.2.1.2.1 = p.2.1.1.length ∧ p.2.1.2.2 = p.2.1.1.map I64) (fun p => [(5, I64 (p.1 : Int)), (4, Bo p.2.2.2), (3, .arr 1 0 p.2.1.2.1 p.2.2.1)]) [(1, .ptr 0 0 0 0)] (fun p => ijH n p.2.1.2.2 p.2.2.1) (fun p => n.cs.length - p.1) (0, (R, K, rs), g, false) [5, 4, 3] (fun _ => rfl) (by ((repeat (refine Hold.cons (by exact rfl) ?_)); exact Hold.nil)) (by ((repeat (refine Hold.cons (by exact rfl) ?_)); exact Hold.nil)) rfl rfl ⟨⟨by simp, HJ.out, by rw [hK]; exact Nat.le_refl _, (fun h => by cases h), (fun _ j hj hj0 => by cases hj0)⟩, hK, hrs⟩ (by show n.cs.length - 0 < 4000000; omega) ?_
  rintro ⟨i, ⟨Q, L, qs⟩, q, f⟩ ⟨hI, hL, hqs⟩
  try simp only at hI hL hqs
  have hQl := hI.ji.len
  have hi := hI.i
  have hQ0 := hI.le
  have hf1 := hI.fl
  have HI := Bx.mk hI
  clear hI
  try simp only at hQl hi hQ0 hf1 ⊢
  have hlr : ∀ j, ltL j qs = true := fun j => by rw [hqs]; exact ltL_I j _
  have hql : qs.length = L := by rw [hqs, hL]; simp
  by_cases hlt : i < n.cs.length
  ·have e1 := at_map encCr n.cs i hlt
   have HA := Bx.mk (fun {a b : Int} (hab : (a = n.cs[i].ln ∧ b = n.cs[i].ti) ∨ (a = n.cs[i].ti ∧ b = n.cs[i].ln)) (ha : a ∈ Q) (hb : ¬ b ∈ Q) (g' : Nat) => HI.out.add ok hlt hab ha hb g')
   have HS := Bx.mk (fun (he : n.cs[i].ln ∈ Q ↔ n.cs[i].ti ∈ Q) => HI.out.skip hlt he)
   generalize n.cs[i] = x at e1 HA HS
   have wq := fun (z : Int) (t : Bool) (ht : Q.any (· == z) = t) h v hv => bHas_c k Q z (by omega) h (v := v) hv ht
   have hany : ∀ z : Int, z ∈ Q → Q.any (· == z) = true := fun z hz => by simp [hz]
   have hnan : ∀ z : Int, ¬ z ∈ Q → Q.any (· == z) = false := fun z hz => by
    cases h : Q.any (· == z)
    ·rfl
    ·exact absurd (by simpa using h) hz
   by_cases ha : x.ln ∈ Q
   ·have wa := wq _ _ (hany _ ha)
    by_cases hb : x.ti ∈ Q
    ·have wb := wq _ _ (hany _ hb)
     repeat (first | apply ef_seq | (apply ef_mv; exact rfl; exact rfl) | (apply ef_bin; (iterate 3 exact rfl); (exact cmp_t rfl (by first | exact rfl | (simp only [cmpP]; omega)))) | (apply ef_len; exact rfl; exact rfl; (assumption)) | (apply ef_ldr; exact rfl; exact rfl; (exact rfl)) | (apply ef_ldp; exact rfl; exact rfl; (exact rfl); exact rfl; (exact rfl); (exact rfl)) | (apply ef_ias; (iterate 3 exact rfl); (omega); assumption; exact rfl) | (apply ef_fap; exact rfl; exact rfl) | (apply ef_far; exact rfl; exact rfl) | apply ef_nil | apply seqQ.normal | apply ef_block | apply ef_skip | (apply ef_condt; exact rfl; (exact (rfl : true = true))))
     (apply ef_call; (· exact rfl); (· ((repeat (apply XVs.cons; exact rfl)); exact XVs.nil)); · exact wa _ _ (frz_row (o := ⟨q, false, 1, qs⟩) rfl rfl (by simp [hL]) (ltL_I 0 _) hqs))
     repeat (first | (apply ef_mv; exact rfl; exact rfl) | (apply ef_gy; exact rfl; (exact (rfl : true = true))))
     (apply ef_call; (· exact rfl); (· ((repeat (apply XVs.cons; exact rfl)); exact XVs.nil)); · exact wb _ _ (frz_row (o := ⟨q, false, 1, qs⟩) rfl rfl (by simp [hL]) (ltL_I 0 _) hqs))
     repeat (first | apply ef_seq | (apply ef_mv; exact rfl; exact rfl) | (apply ef_gy; exact rfl; (exact (rfl : true = true))) | (apply ef_pick; (iterate 3 exact rfl)) | (apply ef_notT; exact rfl; exact rfl) | apply ef_nil | apply seqQ.normal | apply ef_skip | (apply ef_condf; exact rfl; (exact (rfl : false = false))))
     (apply ef_call; (· exact rfl); (· ((repeat (apply XVs.cons; exact rfl)); exact XVs.nil)); · exact wb _ _ (frz_row (o := ⟨q, false, 1, qs⟩) rfl rfl (by simp [hL]) (ltL_I 0 _) hqs))
     repeat (first | (apply ef_mv; exact rfl; exact rfl) | (apply ef_gy; exact rfl; (exact (rfl : true = true))))
     (apply ef_call; (· exact rfl); (· ((repeat (apply XVs.cons; exact rfl)); exact XVs.nil)); · exact wa _ _ (frz_row (o := ⟨q, false, 1, qs⟩) rfl rfl (by simp [hL]) (ltL_I 0 _) hqs))
     repeat (first | (apply ef_mv; exact rfl; exact rfl) | (apply ef_bin; (iterate 3 exact rfl); (((with_reducible refine bin_add (wrap_of ?_ ?_)) <;> omega))) | (apply ef_gy; exact rfl; (exact (rfl : true = true))) | (apply ef_pick; (iterate 3 exact rfl)) | (apply ef_notT; exact rfl; exact rfl) | apply ef_nil | apply seqQ.normal | apply blockQ.normal | apply ef_skip | (apply ef_condf; exact rfl; (exact (rfl : false = false))))
     (refine loopQ.normal _ _ ⟨(i + 1, (Q, L, qs), q, f), ⟨HS.out ⟨fun _ => hb, fun _ => ha⟩, hL, hqs⟩, (by first | (simp only; omega) | omega), ⟨by ((repeat (refine Hold.cons (by exact rfl) ?_)); exact Hold.nil), by ((repeat (refine Hold.cons (by exact rfl) ?_)); exact Hold.nil)⟩, .inr ⟨by ((repeat (refine hdl_cons rfl (by first | rfl | (simp [MV.lt, ltL, ltL_Ln, ltL_Cr, ltL_I, hlr])) ?_)); exact hdl_nil), by first | rfl | (simp [hltL, ltL, MV.lt, ltL, ltL_Ln, ltL_Cr, ltL_I, hlr])⟩, by first | exact rfl | (simp only [List.map_append, List.map_set]; exact rfl)⟩)
    ·have wb := wq _ _ (hnan _ hb)
     have wc := fun (z : Int) (t : Bool) (ht : (Q ++ [x.ti]).any (· == z) = t) h v hv => bHas_c k (Q ++ [x.ti]) z (by simp; omega) h (v := v) hv ht
     have wca := wc x.ln true (by simp [ha])
     have wcb := wc x.ti true (by simp)
     repeat (first | apply ef_seq | (apply ef_mv; exact rfl; exact rfl) | (apply ef_bin; (iterate 3 exact rfl); (exact cmp_t rfl (by first | exact rfl | (simp only [cmpP]; omega)))) | (apply ef_len; exact rfl; exact rfl; (assumption)) | (apply ef_ldr; exact rfl; exact rfl; (exact rfl)) | (apply ef_ldp; exact rfl; exact rfl; (exact rfl); exact rfl; (exact rfl); (exact rfl)) | (apply ef_ias; (iterate 3 exact rfl); (omega); assumption; exact rfl) | (apply ef_fap; exact rfl; exact rfl) | (apply ef_far; exact rfl; exact rfl) | apply ef_nil | apply seqQ.normal | apply ef_block | apply ef_skip | (apply ef_condt; exact rfl; (exact (rfl : true = true))))
     (apply ef_call; (· exact rfl); (· ((repeat (apply XVs.cons; exact rfl)); exact XVs.nil)); · exact wa _ _ (frz_row (o := ⟨q, false, 1, qs⟩) rfl rfl (by simp [hL]) (ltL_I 0 _) hqs))
     repeat (first | (apply ef_mv; exact rfl; exact rfl) | (apply ef_gy; exact rfl; (exact (rfl : true = true))))
     (apply ef_call; (· exact rfl); (· ((repeat (apply XVs.cons; exact rfl)); exact XVs.nil)); · exact wb _ _ (frz_row (o := ⟨q, false, 1, qs⟩) rfl rfl (by simp [hL]) (ltL_I 0 _) hqs))
     repeat (first | (apply ef_mv; exact rfl; exact rfl) | (apply ef_gy; exact rfl; (exact (rfl : true = true))) | (apply ef_pick; (iterate 3 exact rfl)) | (apply ef_notF; exact rfl; exact rfl) | (apply ef_bsl; exact rfl; (repeat (apply XVs.cons; exact rfl)); exact XVs.nil; exact rfl) | apply ef_nil | apply seqQ.normal | (apply ef_condt; exact rfl; (exact (rfl : true = true))))
     (apply ef_app; (· exact rfl); (· exact rfl); (· exact rfl); (· exact rfl); (· exact rfl); (· exact rfl); (· (simp [hql])); (· exact rfl); (· (simp [hql]; omega)); (· (exact rfl)); (· exact rfl))
     repeat (first | apply ef_seq | (apply ef_mv; exact rfl; exact rfl) | apply ef_nil | apply seqQ.normal)
     (apply ef_call; (· exact rfl); (· ((repeat (apply XVs.cons; exact rfl)); exact XVs.nil)); · exact wcb _ _ (frz_row (o := ⟨q + 1, false, 1, qs ++ [I64 x.ti]⟩) rfl rfl (by simp [hL]) (ltL_I 0 _) (by simp [hqs])))
     repeat (first | (apply ef_mv; exact rfl; exact rfl) | (apply ef_gy; exact rfl; (exact (rfl : true = true))))
     (apply ef_call; (· exact rfl); (· ((repeat (apply XVs.cons; exact rfl)); exact XVs.nil)); · exact wca _ _ (frz_row (o := ⟨q + 1, false, 1, qs ++ [I64 x.ti]⟩) rfl rfl (by simp [hL]) (ltL_I 0 _) (by simp [hqs])))
     repeat (first | (apply ef_mv; exact rfl; exact rfl) | (apply ef_bin; (iterate 3 exact rfl); (((with_reducible refine bin_add (wrap_of ?_ ?_)) <;> omega))) | (apply ef_gy; exact rfl; (exact (rfl : true = true))) | (apply ef_pick; (iterate 3 exact rfl)) | (apply ef_notT; exact rfl; exact rfl) | apply ef_nil | apply seqQ.normal | apply blockQ.normal | apply ef_skip | (apply ef_condf; exact rfl; (exact (rfl : false = false))))
     (refine loopQ.normal _ _ ⟨(i + 1, (Q ++ [x.ti], L + 1, qs ++ [I64 x.ti]), q + 1, true), ⟨HA.out (.inl ⟨rfl, rfl⟩) ha hb _, (by simp [hL]), (by simp [hqs])⟩, (by first | (simp only; omega) | omega), ⟨by ((repeat (refine Hold.cons (by exact rfl) ?_)); exact Hold.nil), by ((repeat (refine Hold.cons (by exact rfl) ?_)); exact Hold.nil)⟩, .inr ⟨by ((repeat (refine hdl_cons rfl (by first | rfl | (simp [MV.lt, ltL, ltL_Ln, ltL_Cr, ltL_I, hlr, ltL_app2, splice, MV.cells])) ?_)); exact hdl_nil), by (simp [hltL, ltL, MV.lt, ltL, ltL_Ln, ltL_Cr, ltL_I, hlr, ltL_app2, splice, MV.cells])⟩, by exact rfl⟩)
   ·have wa := wq _ _ (hnan _ ha)
    by_cases hb : x.ti ∈ Q
    ·have wb := wq _ _ (hany _ hb)
     repeat (first | apply ef_seq | (apply ef_mv; exact rfl; exact rfl) | (apply ef_bin; (iterate 3 exact rfl); (exact cmp_t rfl (by first | exact rfl | (simp only [cmpP]; omega)))) | (apply ef_len; exact rfl; exact rfl; (assumption)) | (apply ef_ldr; exact rfl; exact rfl; (exact rfl)) | (apply ef_ldp; exact rfl; exact rfl; (exact rfl); exact rfl; (exact rfl); (exact rfl)) | (apply ef_ias; (iterate 3 exact rfl); (omega); assumption; exact rfl) | (apply ef_fap; exact rfl; exact rfl) | (apply ef_far; exact rfl; exact rfl) | apply ef_nil | apply seqQ.normal | apply ef_block | apply ef_skip | (apply ef_condt; exact rfl; (exact (rfl : true = true))))
     (apply ef_call; (· exact rfl); (· ((repeat (apply XVs.cons; exact rfl)); exact XVs.nil)); · exact wa _ _ (frz_row (o := ⟨q, false, 1, qs⟩) rfl rfl (by simp [hL]) (ltL_I 0 _) hqs))
     repeat (first | apply ef_seq | (apply ef_mv; exact rfl; exact rfl) | (apply ef_gn; exact rfl; (exact (rfl : false = false)); exact rfl) | (apply ef_pick; (iterate 3 exact rfl)) | apply ef_nil | apply seqQ.normal | apply ef_skip | (apply ef_condf; exact rfl; (exact (rfl : false = false))))
     (apply ef_call; (· exact rfl); (· ((repeat (apply XVs.cons; exact rfl)); exact XVs.nil)); · exact wb _ _ (frz_row (o := ⟨q, false, 1, qs⟩) rfl rfl (by simp [hL]) (ltL_I 0 _) hqs))
     repeat (first | (apply ef_mv; exact rfl; exact rfl) | (apply ef_gy; exact rfl; (exact (rfl : true = true))))
     (apply ef_call; (· exact rfl); (· ((repeat (apply XVs.cons; exact rfl)); exact XVs.nil)); · exact wa _ _ (frz_row (o := ⟨q, false, 1, qs⟩) rfl rfl (by simp [hL]) (ltL_I 0 _) hqs))
     repeat (first | (apply ef_mv; exact rfl; exact rfl) | (apply ef_gy; exact rfl; (exact (rfl : true = true))) | (apply ef_pick; (iterate 3 exact rfl)) | (apply ef_notF; exact rfl; exact rfl) | (apply ef_bsl; exact rfl; (repeat (apply XVs.cons; exact rfl)); exact XVs.nil; exact rfl) | apply ef_nil | apply seqQ.normal | (apply ef_condt; exact rfl; (exact (rfl : true = true))))
     (apply ef_app; (· exact rfl); (· exact rfl); (· exact rfl); (· exact rfl); (· exact rfl); (· exact rfl); (· (simp [hql])); (· exact rfl); (· (simp [hql]; omega)); (· (exact rfl)); (· exact rfl))
     repeat (first | (apply ef_mv; exact rfl; exact rfl) | (apply ef_bin; (iterate 3 exact rfl); (((with_reducible refine bin_add (wrap_of ?_ ?_)) <;> omega))) | apply ef_nil | apply seqQ.normal | apply blockQ.normal)
     (refine loopQ.normal _ _ ⟨(i + 1, (Q ++ [x.ln], L + 1, qs ++ [I64 x.ln]), q + 1, true), ⟨HA.out (.inr ⟨rfl, rfl⟩) hb ha _, (by simp [hL]), (by simp [hqs])⟩, (by first | (simp only; omega) | omega), ⟨by ((repeat (refine Hold.cons (by exact rfl) ?_)); exact Hold.nil), by ((repeat (refine Hold.cons (by exact rfl) ?_)); exact Hold.nil)⟩, .inr ⟨by ((repeat (refine hdl_cons rfl (by first | rfl | (simp [MV.lt, ltL, ltL_Ln, ltL_Cr, ltL_I, hlr, ltL_app2, splice, MV.cells])) ?_)); exact hdl_nil), by (simp [hltL, ltL, MV.lt, ltL, ltL_Ln, ltL_Cr, ltL_I, hlr, ltL_app2, splice, MV.cells])⟩, by exact rfl⟩)
    ·have wb := wq _ _ (hnan _ hb)
     repeat (first | apply ef_seq | (apply ef_mv; exact rfl; exact rfl) | (apply ef_bin; (iterate 3 exact rfl); (exact cmp_t rfl (by first | exact rfl | (simp only [cmpP]; omega)))) | (apply ef_len; exact rfl; exact rfl; (assumption)) | (apply ef_ldr; exact rfl; exact rfl; (exact rfl)) | (apply ef_ldp; exact rfl; exact rfl; (exact rfl); exact rfl; (exact rfl); (exact rfl)) | (apply ef_ias; (iterate 3 exact rfl); (omega); assumption; exact rfl) | (apply ef_fap; exact rfl; exact rfl) | (apply ef_far; exact rfl; exact rfl) | apply ef_nil | apply seqQ.normal | apply ef_block | apply ef_skip | (apply ef_condt; exact rfl; (exact (rfl : true = true))))
     (apply ef_call; (· exact rfl); (· ((repeat (apply XVs.cons; exact rfl)); exact XVs.nil)); · exact wa _ _ (frz_row (o := ⟨q, false, 1, qs⟩) rfl rfl (by simp [hL]) (ltL_I 0 _) hqs))
     repeat (first | apply ef_seq | (apply ef_mv; exact rfl; exact rfl) | (apply ef_gn; exact rfl; (exact (rfl : false = false)); exact rfl) | (apply ef_pick; (iterate 3 exact rfl)) | apply ef_nil | apply seqQ.normal | apply ef_skip | (apply ef_condf; exact rfl; (exact (rfl : false = false))))
     (apply ef_call; (· exact rfl); (· ((repeat (apply XVs.cons; exact rfl)); exact XVs.nil)); · exact wb _ _ (frz_row (o := ⟨q, false, 1, qs⟩) rfl rfl (by simp [hL]) (ltL_I 0 _) hqs))
     repeat (first | (apply ef_mv; exact rfl; exact rfl) | (apply ef_bin; (iterate 3 exact rfl); (((with_reducible refine bin_add (wrap_of ?_ ?_)) <;> omega))) | (apply ef_gn; exact rfl; (exact (rfl : false = false)); exact rfl) | (apply ef_pick; (iterate 3 exact rfl)) | apply ef_nil | apply seqQ.normal | apply blockQ.normal | apply ef_skip | (apply ef_condf; exact rfl; (exact (rfl : false = false))))
     (refine loopQ.normal _ _ ⟨(i + 1, (Q, L, qs), q, f), ⟨HS.out ⟨fun h => absurd h ha, fun h => absurd h hb⟩, hL, hqs⟩, (by first | (simp only; omega) | omega), ⟨by ((repeat (refine Hold.cons (by exact rfl) ?_)); exact Hold.nil), by ((repeat (refine Hold.cons (by exact rfl) ?_)); exact Hold.nil)⟩, .inr ⟨by ((repeat (refine hdl_cons rfl (by first | rfl | (simp [MV.lt, ltL, ltL_Ln, ltL_Cr, ltL_I, hlr])) ?_)); exact hdl_nil), by first | rfl | (simp [hltL, ltL, MV.lt, ltL, ltL_Ln, ltL_Cr, ltL_I, hlr])⟩, by first | exact rfl | (simp only [List.map_append, List.map_set]; exact rfl)⟩)
  ·obtain rfl : i = n.cs.length := by omega
   repeat (first | apply ef_seq | (apply ef_mv; exact rfl; exact rfl) | (apply ef_bin; (iterate 3 exact rfl); (exact cmp_f rfl (by simp only [cmpP]; omega))) | (apply ef_len; exact rfl; exact rfl; (assumption)) | (apply ef_ldp; exact rfl; exact rfl; (exact rfl); exact rfl; (exact rfl); (exact rfl)) | (apply ef_fap; exact rfl; exact rfl) | apply ef_nil | apply seqQ.normal | apply loopQ.exit | apply ef_exit | apply seqQ.exit | apply blockQ.normal | apply blockQ.here | (apply ef_condf; exact rfl; (exact (rfl : false = false))))
   (refine loopQ.normal _ _ ⟨((Q, L, qs), q, f), ⟨⟨HI.out.ji, HI.out.cl⟩, hL, hqs⟩, (by cases f <;> simp at hf1 ⊢ <;> omega), ⟨by ((repeat (refine Hold.cons (by exact rfl) ?_)); exact Hold.nil), by ((repeat (refine Hold.cons (by exact rfl) ?_)); exact Hold.nil)⟩, .inr ⟨by ((repeat (refine hdl_cons rfl (by first | rfl | (simp [MV.lt, ltL, ltL_Ln, ltL_Cr, ltL_I, hlr])) ?_)); exact hdl_nil), by first | rfl | (simp [hltL, ltL, MV.lt, ltL, ltL_Ln, ltL_Cr, ltL_I, hlr])⟩, by first | exact rfl | (simp only [List.map_append, List.map_set]; exact rfl)⟩)
theorem IsJoined_c (k : Nat) (n : Nt) (ok : OkN n) (h : MHeap) : orA (k + 2) 46 [encN n] h = some (Bo (jnB n), h) :=
 callL (args' := [encN n]) (frzL_lt (by simp [ltL, MV.lt, ltL_Ln, ltL_Cr])) rfl (IsJoined_z k n ok)
theorem mf_JoinedErr : MT.mf 13 = some ⟨12, [(.tmp 2)], (.seq (.reg [⟨none, some 1, .box 2 (.s 0)⟩, ⟨none, some 2, .mv (.c (.lit (.int .i64 0)))⟩]) (.seq (.seq (.reg [⟨none, some 4, .ld (some 2) (.s 1)⟩, ⟨none, some 5, .call 43 [.s 4]⟩, ⟨none, some 3, .mv (.s 5)⟩]) (.seq (.reg [⟨none, some 6, .mv (.s 3)⟩, ⟨none, some 7, .bin .neq (.s 6) (.c (.lit (.int .i64 0)))⟩]) (.cond (.s 7) (.seq (.reg [⟨none, some 8, .mv (.s 3)⟩, ⟨none, some 2, .mv (.s 8)⟩]) .ret) .skip))) (.seq (.seq (.reg [⟨none, some 9, .ld (some 2) (.s 1)⟩, ⟨none, some 10, .call 46 [.s 9]⟩, ⟨none, some 11, .un .not (.s 10)⟩]) (.cond (.s 11) (.seq (.reg [⟨none, some 2, .mv (.c (.lit (.int .i64 21)))⟩]) .ret) .skip)) (.seq (.reg [⟨none, some 2, .mv (.c (.lit (.int .i64 0)))⟩]) .ret))))⟩ := by kernel_rfl
theorem JoinedErr_c (k : Nat) (n : Nt) (hb : BdN n) (h : MHeap) : orA (k + 5) 13 [encN n] h = some (I64 (joE n), h) := by
 refine callL (args' := [encN n]) (frzL_lt (by simp [ltL, MV.lt, ltL_Ln, ltL_Cr])) rfl (runZ_of mf_JoinedErr (by simp) ?_)
 simp only [argsL]
 have w1 := fun h => NetErr_c k n hb h
 by_cases h0 : (netF n).2 = 0
 ·have w2 := fun h => IsJoined_c (k + 2) n (net_ok h0) h
  have HJ := Bx.mk (show joE n = (if jnB n then 0 else 21) by unfold joE; rw [if_pos h0])
  rw [h0] at w1
  cases hj : jnB n
  all_goals rw [hj] at w2 HJ
  all_goals repeat (first | apply ef_seq | (apply ef_mv; exact rfl; exact rfl) | (apply ef_bin; (iterate 3 exact rfl); (exact cmp_f rfl (by simp only [cmpP]; omega))) | (apply ef_ldp; exact rfl; exact rfl; (exact rfl); exact rfl; (exact rfl); (exact rd_2 rfl rfl)) | (apply ef_notT; exact rfl; exact rfl) | (apply ef_notF; exact rfl; exact rfl) | (apply ef_box; (iterate 4 exact rfl)) | apply ef_nil | apply seqQ.normal | apply ef_ret | apply seqQ.ret | apply ef_skip | (apply ef_condt; exact rfl; (exact (rfl : true = true))) | (apply ef_condf; exact rfl; (exact (rfl : false = false))) | (apply ef_call; exact rfl; ((repeat (apply XVs.cons; exact rfl)); exact XVs.nil); (with_reducible first | exact w1 _ | exact w2 _)))
  all_goals (refine fin1 rfl (by exact rfl) rfl ?_)
  all_goals (rw [HJ.out]; rfl)
 ·have HJ := Bx.mk (show joE n = (netF n).2 by unfold joE; rw [if_neg h0])
  generalize (netF n).2 = e at *
  repeat (first | apply ef_seq | (apply ef_mv; exact rfl; exact rfl) | (apply ef_bin; (iterate 3 exact rfl); (exact cmp_t rfl (by first | exact rfl | (simp only [cmpP]; omega)))) | (apply ef_ldp; exact rfl; exact rfl; (exact rfl); exact rfl; (exact rfl); (exact rd_2 rfl rfl)) | (apply ef_box; (iterate 4 exact rfl)) | apply ef_nil | apply seqQ.normal | apply ef_ret | apply seqQ.ret | (apply ef_condt; exact rfl; (exact (rfl : true = true))) | (apply ef_call; exact rfl; ((repeat (apply XVs.cons; exact rfl)); exact XVs.nil); (with_reducible exact w1 _)))
  (refine fin1 rfl (by exact rfl) rfl ?_)
  rw [HJ.out]
end Go.Proofs.YtbdleggmdbihnaaGreat

/- Contracts: which flows are accepted, and their values; the program, and the document. -/
namespace Go.Proofs.YtbdleggmdbihnaaGreat
open Go.RowKit
set_option linter.unusedVariables false
set_option linter.unusedSimpArgs false
def okU (cs : List Cr) (fl : List Int) : Nat → Bool
 | 0 => true
 | i + 1 => okU cs fl i && inB (cAt fl i) (-(cs.getD i default).wt) (cs.getD i default).wt
def sumsU (m : Nat) (cs : List Cr) (fl : List Int) : Nat → List Int
 | 0 => List.replicate m 0
 | i + 1 => ((sumsU m cs fl i).set (cs.getD i default).ln.toNat (cAt (sumsU m cs fl i) (cs.getD i default).ln + cAt fl i)).set (cs.getD i default).ti.toNat (cAt ((sumsU m cs fl i).set (cs.getD i default).ln.toNat (cAt (sumsU m cs fl i) (cs.getD i default).ln + cAt fl i)) (cs.getD i default).ti + cAt fl i)
def nzB (z : Int) : Bool := z != 0
def flE (n : Nt) (fl : List Int) : Int := if fl.length = n.cs.length then (if okU n.cs fl n.cs.length = true then (if (sumsU n.ls.length n.cs fl n.cs.length).any nzB then 19 else 0) else 2) else 10
theorem sumsU_len (m : Nat) (cs : List Cr) (fl : List Int) : ∀ i, (sumsU m cs fl i).length = m
 | 0 => by simp [sumsU]
 | i + 1 => by rw [sumsU, List.length_set, List.length_set]; exact sumsU_len m cs fl i
theorem okU_at {cs : List Cr} {fl : List Int} : ∀ {i : Nat}, okU cs fl i = true → ∀ j, j < i → inB (cAt fl j) (-(cs.getD j default).wt) (cs.getD j default).wt = true
 | 0, _, j, hj => by omega
 | i + 1, h, j, hj => by
  rw [okU, Bool.and_eq_true] at h
  by_cases e : j = i
  ·subst e; exact h.2
  ·exact okU_at h.1 j (by omega)
theorem okU_no {cs : List Cr} {fl : List Int} {i : Nat} (h : inB (cAt fl i) (-(cs.getD i default).wt) (cs.getD i default).wt = false) {N : Nat} (hi : i < N) : okU cs fl N = false := by
 cases hN : okU cs fl N
 ·rfl
 ·rw [okU_at hN i hi] at h; cases h
theorem okU_next {cs : List Cr} {fl : List Int} {i : Nat} (h : okU cs fl i = true) (h2 : inB (cAt fl i) (-(cs.getD i default).wt) (cs.getD i default).wt = true) : okU cs fl (i + 1) = true := by rw [okU, h, h2]; rfl
theorem sumsU_bd {n : Nt} (ok : OkN n) {fl : List Int} : ∀ i, i ≤ n.cs.length → okU n.cs fl i = true → ∀ v, -(20 * (i : Int)) ≤ cAt (sumsU n.ls.length n.cs fl i) v ∧ cAt (sumsU n.ls.length n.cs fl i) v ≤ 20 * (i : Int)
 | 0, _, _, v => by rw [sumsU, cAt_zer]; simp
 | i + 1, hi, h, v => by
  rw [okU, Bool.and_eq_true] at h
  have ih := sumsU_bd ok i (by omega) h.1
  have hb := inB_iff.1 h.2
  have hx := (ok.rg _ (getD_mem (n := n) (i := (i : Int)) (by omega) (by omega))).wt
  rw [Int.toNat_natCast] at hx
  rw [sumsU]
  have i1 := ih (n.cs.getD i default).ln
  rw [cAt_put]
  split
  ·rw [cAt_put]
   have i2 := ih (n.cs.getD i default).ti
   split <;> omega
  ·rw [cAt_put]
   have i2 := ih v
   split <;> omega
theorem sumsU_sum {n : Nt} (ok : OkN n) {fl : List Int} : ∀ i, i ≤ n.cs.length → ∀ v, 0 ≤ v → v < (n.ls.length : Int) → cAt (sumsU n.ls.length n.cs fl i) v = sumV n.cs fl v i
 | 0, _, v, _, _ => by rw [sumsU, cAt_zer]; rfl
 | i + 1, hi, v, v0, v1 => by
  have ih := sumsU_sum ok (fl := fl) i (by omega)
  have hm := getD_mem (n := n) (i := (i : Int)) (by omega) (by omega)
  rw [Int.toNat_natCast] at hm
  have hx := ok.rg _ hm
  have hk := ok.kd _ hm
  have hne : (n.cs.getD i default).ln ≠ (n.cs.getD i default).ti := fun e => by
   rw [e, hk.2] at hk
   exact absurd hk.1 (by simp)
  have x1 := hx.l0
  have x2 := hx.l1
  have x3 := hx.t0
  have x4 := hx.t1
  have hl := sumsU_len n.ls.length n.cs fl i
  rw [sumsU, sumV, cAt_set x3 (by rw [List.length_set]; omega) v0, cAt_set x1 (by omega) x3, cAt_set x1 (by omega) v0, ← ih v v0 v1]
  unfold att
  have hne2 : ¬ (n.cs.getD i default).ti = (n.cs.getD i default).ln := fun e => hne e.symm
  by_cases e1 : v = (n.cs.getD i default).ti
  ·subst e1
   rw [if_pos rfl, if_neg hne2, if_neg hne, if_pos rfl]; omega
  ·by_cases e2 : v = (n.cs.getD i default).ln
   ·subst e2
    rw [if_neg hne, if_pos rfl, if_pos rfl, if_neg hne2]; omega
   ·rw [if_neg e1, if_neg e2, if_neg (fun e => e2 e.symm), if_neg (fun e => e1 e.symm)]; omega
theorem sumV_off {n : Nt} (ok : OkN n) {fl : List Int} {v : Int} (hv : ¬ (0 ≤ v ∧ v < (n.ls.length : Int))) : ∀ i, i ≤ n.cs.length → sumV n.cs fl v i = 0
 | 0, _ => rfl
 | i + 1, hi => by
  have hm := getD_mem (n := n) (i := (i : Int)) (by omega) (by omega)
  rw [Int.toNat_natCast] at hm
  have hx := ok.rg _ hm
  have x1 := hx.l0
  have x2 := hx.l1
  have x3 := hx.t0
  have x4 := hx.t1
  rw [sumV, sumV_off ok hv i (by omega)]
  unfold att
  rw [if_neg (by omega), if_neg (by omega)]; rfl
theorem flE_ok {n : Nt} (ok : OkN n) {fl : List Int} : flE n fl = 0 ↔ FlOk n fl := by
 have hgd : ∀ (i : Nat) (h : i < n.cs.length), n.cs.getD i default = n.cs[i] := fun i h => by rw [List.getD_eq_getElem?_getD, List.getElem?_eq_getElem h]; rfl
 unfold flE
 constructor
 ·intro h
  split at h
  case isFalse => cases h
  rename_i hl
  split at h
  case isFalse => cases h
  rename_i ho
  split at h
  case isTrue => cases h
  rename_i hs
  refine ⟨hl, fun i hi => ?_, fun v => ?_⟩
  ·have := inB_iff.1 (okU_at ho i hi)
   rw [hgd i hi] at this
   exact this
  ·by_cases hv : 0 ≤ v ∧ v < (n.ls.length : Int)
   ·rw [← sumsU_sum ok _ (Nat.le_refl _) v hv.1 hv.2]
    have hs2 : (sumsU n.ls.length n.cs fl n.cs.length).any nzB = false := by simpa using hs
    rw [List.any_eq_false] at hs2
    have hlen := sumsU_len n.ls.length n.cs fl n.cs.length
    have hlt : v.toNat < (sumsU n.ls.length n.cs fl n.cs.length).length := by omega
    have := hs2 _ (List.getElem_mem hlt)
    unfold cAt
    rw [List.getD_eq_getElem?_getD, List.getElem?_eq_getElem hlt]
    simpa [nzB] using this
   ·exact sumV_off ok hv _ (Nat.le_refl _)
 ·intro h
  rw [if_pos h.len]
  have ho : ∀ i, i ≤ n.cs.length → okU n.cs fl i = true := fun i => by
   induction i with
   | zero => intro _; rfl
   | succ i ih =>
    intro hi
    refine okU_next (ih (by omega)) (inB_iff.2 ?_)
    rw [hgd i (by omega)]
    exact h.bd i (by omega)
  rw [if_pos (ho _ (Nat.le_refl _)), if_neg]
  rw [Bool.not_eq_true, List.any_eq_false]
  intro z hz
  obtain ⟨i, hi, rfl⟩ := List.getElem_of_mem hz
  have hlen := sumsU_len n.ls.length n.cs fl n.cs.length
  have e : cAt (sumsU n.ls.length n.cs fl n.cs.length) (i : Int) = (sumsU n.ls.length n.cs fl n.cs.length)[i] := by unfold cAt; rw [Int.toNat_natCast, List.getD_eq_getElem?_getD, List.getElem?_eq_getElem hi]; rfl
  rw [← e, sumsU_sum ok _ (Nat.le_refl _) _ (by omega) (by omega), h.sum]
  simp [nzB]
theorem mf_cf1 : MT.mf 89 = some ⟨5, [(.tmp 2)], (.seq (.reg [⟨none, some 2, .mv (.c (.lit (.bool false)))⟩]) (.seq (.reg [⟨none, some 3, .mv (.s 0)⟩, ⟨none, some 4, .bin .neq (.s 3) (.c (.lit (.int .i64 0)))⟩, ⟨none, some 2, .mv (.s 4)⟩]) .ret))⟩ := by kernel_rfl
theorem cf1_c (k : Nat) (z : Int) (h : MHeap) : orA (k + 1) 89 [I64 z] h = some (Bo (nzB z), h) := by
 refine callL (args' := [I64 z]) (frzL_lt rfl) rfl (runZ_of mf_cf1 (by simp) ?_)
 simp only [argsL]
 by_cases hz : z = 0
 ·subst hz
  repeat (first | apply ef_seq | (apply ef_mv; exact rfl; exact rfl) | (apply ef_bin; (iterate 3 exact rfl); (exact cmp_f rfl (by simp only [cmpP]; omega))) | apply ef_nil | apply seqQ.normal | apply ef_ret)
  (refine fin1 rfl (by exact rfl) rfl ?_)
  rfl
 ·repeat (first | apply ef_seq | (apply ef_mv; exact rfl; exact rfl) | (apply ef_bin; (iterate 3 exact rfl); (exact cmp_t rfl (by first | exact rfl | (simp only [cmpP]; omega)))) | apply ef_nil | apply seqQ.normal | apply ef_ret)
  (refine fin1 rfl (by exact rfl) rfl ?_)
  simp [nzB, hz]
abbrev cfH (n : Nt) (rs : List MV) (e1 : MV) : MHeap := [⟨0, false, 2, [encN n]⟩, ⟨0, false, 2, [encN n]⟩, ⟨0, false, 1, [I64 0, e1]⟩, ⟨0, false, 1, rs⟩]
theorem mf_CheckFlow : MT.mf 37 = some ⟨77, [(.tmp 4), (.tmp 5)], (.seq (.reg [⟨none, some 2, .box 2 (.s 0)⟩, ⟨none, some 4, .mv (.c (.lit (.int .i64 0)))⟩, ⟨none, some 5, .mv (.c (.lit (.int .i64 0)))⟩]) (.seq (.reg [⟨none, some 12, .ld (some 2) (.s 2)⟩, ⟨none, some 13, .call 87 [.s 12]⟩, ⟨none, some 11, .mv (.s 13)⟩, ⟨none, some 14, .ext (.s 11) 0⟩, ⟨none, some 15, .ext (.s 11) 1⟩, ⟨none, some 6, .new (.agg [(.lit (.slice none 0 0)), (.lit (.slice none 0 0))])⟩, ⟨none, none, .st 2 (.s 6) (.s 14)⟩, ⟨none, some 7, .mv (.s 15)⟩]) (.seq (.seq (.reg [⟨none, some 16, .mv (.s 7)⟩, ⟨none, some 17, .mv (.s 1)⟩, ⟨none, some 18, .len (.s 17)⟩, ⟨none, some 19, .fa 1 (.s 2)⟩, ⟨none, some 20, .ld none (.s 19)⟩, ⟨none, some 21, .len (.s 20)⟩, ⟨none, some 22, .bin .eql (.s 18) (.s 21)⟩, ⟨none, some 23, .call 55 [.s 22, (.c (.lit (.int .i64 10)))]⟩, ⟨none, some 24, .bsl (.lit (.int .i64 0)) 1 2 [(0, (.s 16)), (1, (.s 23))]⟩, ⟨none, some 25, .call 54 [.s 24]⟩, ⟨none, some 7, .mv (.s 25)⟩]) (.seq (.reg [⟨none, some 26, .mv (.s 7)⟩, ⟨none, some 27, .bin .neq (.s 26) (.c (.lit (.int .i64 0)))⟩]) (.cond (.s 27) (.seq (.reg [⟨none, some 28, .mv (.s 7)⟩, ⟨none, some 4, .mv (.c (.lit (.int .i64 0)))⟩, ⟨none, some 5, .mv (.s 28)⟩]) .ret) .skip))) (.seq (.reg [⟨none, some 29, .fa 0 (.s 2)⟩, ⟨none, some 30, .ld none (.s 29)⟩, ⟨none, some 31, .len (.s 30)⟩, ⟨none, some 32, .mks (.lit (.int .i64 0)) (.s 31)⟩, ⟨none, some 8, .mv (.s 32)⟩]) (.seq (.seq (.reg [⟨none, some 33, .fa 1 (.s 2)⟩, ⟨none, some 34, .ld none (.s 33)⟩, ⟨none, some 35, .len (.s 34)⟩, ⟨none, some 36, .mv (.c (.lit (.int .i64 0)))⟩]) (.block 0 (.loop [36, 35, 34, 1, 8, 6] (.seq (.reg [⟨none, some 37, .bin .lss (.s 36) (.s 35)⟩]) (.seq (.cond (.s 37) .skip (.exit 0)) (.seq (.block 1 (.seq (.reg [⟨none, some 38, .mv (.s 36)⟩, ⟨none, some 39, .ia 6 (.s 34) (.s 36)⟩, ⟨none, some 40, .ld (some 6) (.s 39)⟩, ⟨none, some 10, .new (.agg [(.lit (.int .i64 0)), (.lit (.int .i64 0)), (.lit (.int .i64 0)), (.lit (.int .i64 0)), (.lit (.int .i64 0)), (.lit (.int .i64 0))])⟩, ⟨none, some 9, .mv (.s 38)⟩, ⟨none, none, .st 6 (.s 10) (.s 40)⟩]) (.seq (.seq (.reg [⟨none, some 41, .mv (.s 1)⟩, ⟨none, some 42, .mv (.s 9)⟩, ⟨none, some 43, .ia 1 (.s 41) (.s 42)⟩, ⟨none, some 44, .ld none (.s 43)⟩, ⟨none, some 45, .fa 5 (.s 10)⟩, ⟨none, some 46, .ld none (.s 45)⟩, ⟨none, some 47, .call 53 [.s 44, .s 46]⟩, ⟨none, some 48, .un .not (.s 47)⟩]) (.cond (.s 48) (.seq (.reg [⟨none, some 4, .mv (.c (.lit (.int .i64 0)))⟩, ⟨none, some 5, .mv (.c (.lit (.int .i64 2)))⟩]) .ret) .skip)) (.seq (.reg [⟨none, some 49, .mv (.s 8)⟩, ⟨none, some 50, .fa 0 (.s 10)⟩, ⟨none, some 51, .ld none (.s 50)⟩, ⟨none, some 52, .ia 1 (.s 49) (.s 51)⟩, ⟨none, some 53, .ld none (.s 52)⟩, ⟨none, some 54, .mv (.s 1)⟩, ⟨none, some 55, .mv (.s 9)⟩, ⟨none, some 56, .ia 1 (.s 54) (.s 55)⟩, ⟨none, some 57, .ld none (.s 56)⟩, ⟨none, some 58, .bin .add (.s 53) (.s 57)⟩, ⟨none, some 59, .ia 1 (.s 49) (.s 51)⟩, ⟨none, none, .st 1 (.s 59) (.s 58)⟩]) (.reg [⟨none, some 60, .mv (.s 8)⟩, ⟨none, some 61, .fa 1 (.s 10)⟩, ⟨none, some 62, .ld none (.s 61)⟩, ⟨none, some 63, .ia 1 (.s 60) (.s 62)⟩, ⟨none, some 64, .ld none (.s 63)⟩, ⟨none, some 65, .mv (.s 1)⟩, ⟨none, some 66, .mv (.s 9)⟩, ⟨none, some 67, .ia 1 (.s 65) (.s 66)⟩, ⟨none, some 68, .ld none (.s 67)⟩, ⟨none, some 69, .bin .add (.s 64) (.s 68)⟩, ⟨none, some 70, .ia 1 (.s 60) (.s 62)⟩, ⟨none, none, .st 1 (.s 70) (.s 69)⟩]))))) (.reg [⟨none, some 71, .bin .add (.s 36) (.c (.lit (.int .i64 1)))⟩, ⟨none, some 36, .mv (.s 71)⟩]))))))) (.seq (.seq (.reg [⟨none, some 72, .mv (.s 8)⟩, ⟨none, some 73, .call 79 [.s 72, (.c (.fn 89 0 []))]⟩]) (.cond (.s 73) (.seq (.reg [⟨none, some 4, .mv (.c (.lit (.int .i64 0)))⟩, ⟨none, some 5, .mv (.c (.lit (.int .i64 19)))⟩]) .ret) .skip)) (.seq (.reg [⟨none, some 74, .ld (some 2) (.s 6)⟩, ⟨none, some 75, .mv (.s 1)⟩, ⟨none, some 76, .call 90 [.s 74, .s 75]⟩, ⟨none, some 4, .mv (.s 76)⟩, ⟨none, some 5, .mv (.c (.lit (.int .i64 0)))⟩]) .ret)))))))⟩ := by kernel_rfl
def cfE (n : Nt) (fl : List Int) : Int := if (netF n).2 = 0 then flE n fl else (netF n).2
def cfV (n : Nt) (fl : List Int) : Int := if cfE n fl = 0 then valU n.cs fl n.cs.length else 0
set_option maxHeartbeats 4000000 in
theorem CheckFlow_z (k : Nat) (n : Nt) (hb : BdN n) (fl : List Int) (hfl : fl.length ≤ 1000) :
  runZ MT (orA (k + 6)) (itA (k + 6)) 4000000 37 [encN n, .sl (fl.map I64)] [] = some (.tup [I64 (cfV n fl), I64 (cfE n fl)], []) := by
 have hs1 : (MV.sl (n.ls.map encLn)).slen = some n.ls.length := by simp [MV.slen]
 have hs2 : (MV.sl (n.cs.map encCr)).slen = some n.cs.length := by simp [MV.slen]
 have hs3 : (MV.sl (fl.map I64)).slen = some fl.length := by simp [MV.slen]
 have HE := Lib.hid (show cfE n fl = if (netF n).2 = 0 then (if fl.length = n.cs.length then (if okU n.cs fl n.cs.length = true then (if (sumsU n.ls.length n.cs fl n.cs.length).any nzB then 19 else 0) else 2) else 10) else (netF n).2 from rfl)
 have HV := Lib.hid (show cfV n fl = if cfE n fl = 0 then valU n.cs fl n.cs.length else 0 from rfl)
 have w1 := fun h => open_c k n hb h
 have w2 := fun b e h => unless_c (k + 5) b e h rfl
 refine runZ_of mf_CheckFlow (by simp) ?_
 simp only [argsL]
 by_cases h0 : (netF n).2 = 0
 rotate_left
 ·have HE2 : cfE n fl = (netF n).2 := by rw [HE.out, if_neg h0]
  have HV2 : cfV n fl = 0 := by rw [HV.out, if_neg (by omega)]
  rw [HE2, HV2]
  generalize (netF n).2 = e at *
  have hfe : ∀ z, firstE [e, z] = e := fun z => by unfold firstE; rw [if_pos h0]
  by_cases hl : fl.length = n.cs.length
  ·repeat (first | apply ef_seq | (apply ef_mv; exact rfl; exact rfl) | (apply ef_bin; (iterate 3 exact rfl); (exact cmp_t rfl (by first | exact rfl | (simp only [cmpP]; omega)))) | (apply ef_len; exact rfl; exact rfl; (assumption)) | (apply ef_ldp; exact rfl; exact rfl; (exact rfl); exact rfl; (exact rfl); (first | exact rd_2 rfl rfl | exact rfl)) | (apply ef_fap; exact rfl; exact rfl) | (apply ef_ext; (iterate 3 exact rfl)) | (apply ef_box; (iterate 4 exact rfl)) | (apply ef_new; exact rfl) | (apply ef_bsl; exact rfl; (repeat (apply XVs.cons; exact rfl)); exact XVs.nil; exact rfl) | (apply ef_st; (iterate 6 exact rfl); (exact rfl); exact rfl) | apply ef_nil | apply seqQ.normal | apply ef_ret | apply seqQ.ret | (apply ef_condt; exact rfl; (exact (rfl : true = true))) | (apply ef_call; exact rfl; ((repeat (apply XVs.cons; exact rfl)); exact XVs.nil); (with_reducible first | exact w1 _ | exact w2 _ _ _)) | (apply ef_call; exact rfl; ((repeat (apply XVs.cons; exact rfl)); exact XVs.nil); (with_reducible apply first2_c); (iterate 3 exact rfl); exact hfe _))
   (apply fin2; (· exact rfl); (· exact rfl); (· exact rfl); (· rfl))
  ·repeat (first | apply ef_seq | (apply ef_mv; exact rfl; exact rfl) | (apply ef_bin; (iterate 3 exact rfl); (first | exact cmp_t rfl (by first | exact rfl | (simp only [cmpP]; omega)) | exact cmp_f rfl (by simp only [cmpP]; omega))) | (apply ef_len; exact rfl; exact rfl; (assumption)) | (apply ef_ldp; exact rfl; exact rfl; (exact rfl); exact rfl; (exact rfl); (first | exact rd_2 rfl rfl | exact rfl)) | (apply ef_fap; exact rfl; exact rfl) | (apply ef_ext; (iterate 3 exact rfl)) | (apply ef_box; (iterate 4 exact rfl)) | (apply ef_new; exact rfl) | (apply ef_bsl; exact rfl; (repeat (apply XVs.cons; exact rfl)); exact XVs.nil; exact rfl) | (apply ef_st; (iterate 6 exact rfl); (exact rfl); exact rfl) | apply ef_nil | apply seqQ.normal | apply ef_ret | apply seqQ.ret | (apply ef_condt; exact rfl; (exact (rfl : true = true))) | (apply ef_call; exact rfl; ((repeat (apply XVs.cons; exact rfl)); exact XVs.nil); (with_reducible first | exact w1 _ | exact w2 _ _ _)) | (apply ef_call; exact rfl; ((repeat (apply XVs.cons; exact rfl)); exact XVs.nil); (with_reducible apply first2_c); (iterate 3 exact rfl); exact hfe _))
   (apply fin2; (· exact rfl); (· exact rfl); (· exact rfl); (· rfl))
 have ok := net_ok h0
 have l1 := ok.l1
 have l8 := ok.l8
 have c16 := ok.c16
 rw [h0] at w1
 by_cases hl : fl.length = n.cs.length
 rotate_left
 ·have HE2 : cfE n fl = 10 := by rw [HE.out, if_pos h0, if_neg hl]
  have HV2 : cfV n fl = 0 := by rw [HV.out, if_neg (by omega)]
  rw [HE2, HV2]
  repeat (first | apply ef_seq | (apply ef_mv; exact rfl; exact rfl) | (apply ef_bin; (iterate 3 exact rfl); (first | exact cmp_f rfl (by simp only [cmpP]; omega) | exact rfl)) | (apply ef_len; exact rfl; exact rfl; (assumption)) | (apply ef_ldp; exact rfl; exact rfl; (exact rfl); exact rfl; (exact rfl); (first | exact rd_2 rfl rfl | exact rfl)) | (apply ef_fap; exact rfl; exact rfl) | (apply ef_ext; (iterate 3 exact rfl)) | (apply ef_box; (iterate 4 exact rfl)) | (apply ef_new; exact rfl) | (apply ef_bsl; exact rfl; (repeat (apply XVs.cons; exact rfl)); exact XVs.nil; exact rfl) | (apply ef_st; (iterate 6 exact rfl); (exact rfl); exact rfl) | apply ef_nil | apply seqQ.normal | apply ef_ret | apply seqQ.ret | (apply ef_condt; exact rfl; (exact (rfl : true = true))) | (apply ef_call; exact rfl; ((repeat (apply XVs.cons; exact rfl)); exact XVs.nil); (with_reducible first | exact w1 _ | exact w2 _ _ _)) | (apply ef_call; exact rfl; ((repeat (apply XVs.cons; exact rfl)); exact XVs.nil); (with_reducible apply first2_c); (iterate 3 exact rfl); (exact rfl)))
  (apply fin2; (· exact rfl); (· exact rfl); (· exact rfl); (· rfl))
 have HE1 : cfE n fl = if okU n.cs fl n.cs.length = true then (if (sumsU n.ls.length n.cs fl n.cs.length).any nzB then 19 else 0) else 2 := by rw [HE.out, if_pos h0, if_pos hl]
 repeat (first | apply ef_seq | (apply ef_mv; exact rfl; exact rfl) | (apply ef_bin; (iterate 3 exact rfl); (first | exact cmp_t rfl (by first | exact rfl | (simp only [cmpP]; omega)) | exact rfl)) | (apply ef_len; exact rfl; exact rfl; (assumption)) | (apply ef_ldp; exact rfl; exact rfl; (exact rfl); exact rfl; (exact rfl); (first | exact rd_2 rfl rfl | exact rfl)) | (apply ef_fap; exact rfl; exact rfl) | (apply ef_ext; (iterate 3 exact rfl)) | (apply ef_box; (iterate 4 exact rfl)) | (apply ef_new; exact rfl) | (apply ef_bsl; exact rfl; (repeat (apply XVs.cons; exact rfl)); exact XVs.nil; exact rfl) | (apply ef_mks; exact rfl; exact rfl; (omega); (omega)) | (apply ef_st; (iterate 6 exact rfl); (exact rfl); exact rfl) | apply ef_nil | apply seqQ.normal | apply ef_block | apply ef_skip | (apply ef_condf; exact rfl; (exact (rfl : false = false))) | (apply ef_call; exact rfl; ((repeat (apply XVs.cons; exact rfl)); exact XVs.nil); (with_reducible first | exact w1 _ | exact w2 _ _ _)) | (apply ef_call; exact rfl; ((repeat (apply XVs.cons; exact rfl)); exact XVs.nil); (with_reducible apply first2_c); (iterate 3 exact rfl); (exact rfl)))
 refine ef_loopf (α := Nat × List Int × List MV) (fun q => q.1 ≤ n.cs.length ∧ q.2.1 = sumsU n.ls.length n.cs fl q.1 ∧ q.2.2 = q.2.1.map I64 ∧ okU n.cs fl q.1 = true) (fun q => [(36, I64 (q.1 : Int))]) [(35, I64 (n.cs.length : Int)), (34, .sl (n.cs.map encCr)), (1, .sl (fl.map I64)), (8, .arr 3 0 n.ls.length 0), (6, .ptr 1 0 0 0)] (fun q => cfH n q.2.2 (I64 0)) (fun q => n.cs.length - q.1) (0, List.replicate n.ls.length 0, List.replicate n.ls.length (I64 0)) [36] (fun _ => rfl) (by ((repeat (refine Hold.cons (by exact rfl) ?_)); exact Hold.nil)) (by ((repeat (refine Hold.cons (by exact rfl) ?_)); exact Hold.nil)) rfl rfl ⟨by omega, rfl, by simp, rfl⟩ (by simp; omega) ?_
 rintro ⟨i, S, rs⟩ ⟨hi, hS, hrs, ho⟩
 try simp only at hi hS hrs ho ⊢
 have hSl : S.length = n.ls.length := by rw [hS, sumsU_len]
 have hlr : ∀ j, ltL j rs = true := fun j => by rw [hrs]; exact ltL_I j _
 have hbd := sumsU_bd ok i hi ho
 rw [← hS] at hbd
 by_cases hlt : i < n.cs.length
 ·have e1 := at_map encCr n.cs i hlt
  have hgd : n.cs.getD i default = n.cs[i] := by rw [List.getD_eq_getElem?_getD, List.getElem?_eq_getElem hlt]; rfl
  have hx := ok.rg n.cs[i] (List.getElem_mem hlt)
  have e2 := cAt_at hl (i := (i : Int)) (by omega) (by omega)
  have HN := Lib.hid (show sumsU n.ls.length n.cs fl (i + 1) = ((S.set n.cs[i].ln.toNat (cAt S n.cs[i].ln + cAt fl i)).set n.cs[i].ti.toNat (cAt (S.set n.cs[i].ln.toNat (cAt S n.cs[i].ln + cAt fl i)) n.cs[i].ti + cAt fl i)) by rw [sumsU, hgd, hS])
  have hno := okU_no (cs := n.cs) (fl := fl) (i := i) (N := n.cs.length)
  have hyes := okU_next (cs := n.cs) (fl := fl) (i := i) ho
  rw [hgd] at hno hyes
  have hkd := ok.kd _ (List.getElem_mem hlt)
  have hne : n.cs[i].ti ≠ n.cs[i].ln := fun e => by
   rw [e, hkd.1] at hkd
   exact absurd hkd.2 (by simp)
  generalize n.cs[i] = x at e1 hx HN hno hyes hne
  generalize cAt fl (i : Int) = f at e2 HN hno hyes
  have x1 := hx.l0
  have x2 := hx.l1
  have x3 := hx.t0
  have x4 := hx.t1
  have xw := hx.wt
  cases hin : inB f (-x.wt) x.wt
  ·have hN := hno hin hlt
   have HE2 : cfE n fl = 2 := by rw [HE1, hN]; rfl
   have HV2 : cfV n fl = 0 := by rw [HV.out, if_neg (by omega)]
   rw [HE2, HV2]
   have w3 := fun h => isSized_c (k + 4) f x.wt h (by omega) (by omega) hin
   repeat (first | apply ef_seq | (apply ef_mv; exact rfl; exact rfl) | (apply ef_bin; (iterate 3 exact rfl); (exact cmp_t rfl (by first | exact rfl | (simp only [cmpP]; omega)))) | (apply ef_ldr; exact rfl; exact rfl; (first | exact rd_6 rfl rfl rfl rfl rfl rfl | exact rfl)) | (apply ef_ldp; exact rfl; exact rfl; (exact rfl); exact rfl; (exact rfl); (exact rfl)) | (apply ef_ias; (iterate 3 exact rfl); (omega); assumption; exact rfl) | (apply ef_fap; exact rfl; exact rfl) | (apply ef_notF; exact rfl; exact rfl) | (apply ef_new; exact rfl) | (apply ef_st; (iterate 6 exact rfl); (exact rfl); exact rfl) | apply ef_nil | apply seqQ.normal | apply loopQ.ret | apply ef_ret | apply seqQ.ret | apply blockQ.ret | apply ef_block | apply ef_skip | (apply ef_condt; exact rfl; (exact (rfl : true = true))) | (apply ef_call; exact rfl; ((repeat (apply XVs.cons; exact rfl)); exact XVs.nil); (with_reducible exact w3 _)))
   (apply fin2; (· exact rfl); (· exact rfl); (· exact rfl); (· rfl))
  ·have w3 := fun h => isSized_c (k + 4) f x.wt h (by omega) (by omega) hin
   have hfb := inB_iff.1 hin
   have hb1 := hbd x.ln
   have hb2 := hbd x.ti
   have e3 := lit_at hrs hSl x1 x2
   have hS2 : rs.set (0 + x.ln.toNat) (I64 (cAt S x.ln + f)) = (S.set x.ln.toNat (cAt S x.ln + f)).map I64 := by rw [hrs, Nat.zero_add, List.map_set]
   have e4 := lit_at hS2 (by rw [List.length_set]; exact hSl) x3 x4
   have hse : cAt (S.set x.ln.toNat (cAt S x.ln + f)) x.ti = cAt S x.ti := by rw [cAt_set x1 (by omega) x3, if_neg hne]
   rw [hse] at e4 HN
   have hls : ∀ (j i i' : Nat) (x y : Int), ltL j ((rs.set i (I64 x)).set i' (I64 y)) = true := fun j i i' x y => ltL_set (ltL_set (hlr j) rfl) rfl
   repeat (first | apply ef_seq | (apply ef_mv; exact rfl; exact rfl) | (apply ef_bin; (iterate 3 exact rfl); (first | exact cmp_t rfl (by first | exact rfl | (simp only [cmpP]; omega)) | ((with_reducible refine bin_add (wrap_of ?_ ?_)) <;> omega))) | (apply ef_ldr; exact rfl; exact rfl; (first | exact rd_6 rfl rfl rfl rfl rfl rfl | exact rfl)) | (apply ef_ldp; exact rfl; exact rfl; (exact rfl); exact rfl; (first | exact rfl | assumption); (exact rfl)) | (apply ef_ias; (iterate 3 exact rfl); (omega); assumption; exact rfl) | (apply ef_iaa; (iterate 3 exact rfl); (omega); (omega); (exact rfl)) | (apply ef_fap; exact rfl; exact rfl) | (apply ef_notT; exact rfl; exact rfl) | (apply ef_new; exact rfl) | (apply ef_st; (iterate 6 exact rfl); (first | exact rfl | assumption); exact rfl) | apply ef_nil | apply seqQ.normal | apply blockQ.normal | apply ef_block | apply ef_skip | (apply ef_condt; exact rfl; (exact (rfl : true = true))) | (apply ef_condf; exact rfl; (exact (rfl : false = false))) | (apply ef_call; exact rfl; ((repeat (apply XVs.cons; exact rfl)); exact XVs.nil); (with_reducible exact w3 _)))
   (refine loopQ.normal _ _ ⟨(i + 1, ((S.set x.ln.toNat (cAt S x.ln + f)).set x.ti.toNat (cAt S x.ti + f)), (rs.set (0 + x.ln.toNat) (I64 (cAt S x.ln + f))).set (0 + x.ti.toNat) (I64 (cAt S x.ti + f))), ⟨hlt, HN.out.symm, by simp [hrs, List.map_set], hyes hin⟩, (by first | (simp only; omega) | omega), ⟨by ((repeat (refine Hold.cons (by exact rfl) ?_)); exact Hold.nil), by ((repeat (refine Hold.cons (by exact rfl) ?_)); exact Hold.nil)⟩, .inr ⟨by ((repeat (refine hdl_cons rfl (by first | rfl | (simp [MV.lt, ltL, ltL_I, ltL_Ln, ltL_Cr, hls, splice, MV.cells])) ?_)); exact hdl_nil), by (simp [hltL, ltL, MV.lt, ltL, ltL_I, ltL_Ln, ltL_Cr, hls, splice, MV.cells])⟩, by exact rfl⟩)
 ·obtain rfl : i = n.cs.length := by omega
  have HE2 : cfE n fl = if S.any nzB = true then 19 else 0 := by rw [HE1, if_pos ho, hS]
  have w5 := fun b h v hv hb => ContainsFuncI_c (k + 4) 89 [] nzB S h (v := v) (fv := .fn 89 0 []) (t := b) (by omega) (fun z _ h => cf1_c (k + 3) z h) rfl hv rfl hb
  have hff := (flE_ok ok (fl := fl)).1
  cases hz : S.any nzB
  ·rw [hz, if_neg (by simp)] at HE2
   have HV2 : cfV n fl = valU n.cs fl n.cs.length := by rw [HV.out, if_pos HE2]
   rw [HE2, HV2]
   have hfo := hff (by rw [← HE2]; unfold cfE; rw [if_pos h0])
   repeat (first | apply ef_seq | (apply ef_mv; exact rfl; exact rfl) | (apply ef_bin; (iterate 3 exact rfl); (exact cmp_f rfl (by simp only [cmpP]; omega))) | apply ef_nil | apply seqQ.normal | apply loopQ.exit | apply ef_exit | apply seqQ.exit | apply blockQ.here | (apply ef_condf; exact rfl; (exact (rfl : false = false))))
   (apply ef_call; (· exact rfl); (· ((repeat (apply XVs.cons; exact rfl)); exact XVs.nil)); · exact w5 false _ _ (frz_row (o := ⟨0, false, 1, rs⟩) rfl rfl (by simp [hSl]) (by rw [← hrs]; exact hlr 0) hrs) hz)
   repeat (first | apply ef_seq | (apply ef_mv; exact rfl; exact rfl) | (apply ef_ldp; exact rfl; exact rfl; (exact rfl); exact rfl; (exact rfl); (exact rd_2 rfl rfl)) | apply ef_nil | apply seqQ.normal | apply ef_ret | apply ef_skip | (apply ef_condf; exact rfl; (exact (rfl : false = false))) | (apply ef_call; exact rfl; ((repeat (apply XVs.cons; exact rfl)); exact XVs.nil); (with_reducible exact value_c (k + 5) n ok fl hl (hfo.bd10 ok) _ (frz_sl (ltL_I 0 fl)))))
   (apply fin2; (· exact rfl); (· exact rfl); (· exact rfl); (· rfl))
  ·rw [hz, if_pos rfl] at HE2
   have HV2 : cfV n fl = 0 := by rw [HV.out, if_neg (by omega)]
   rw [HE2, HV2]
   repeat (first | apply ef_seq | (apply ef_mv; exact rfl; exact rfl) | (apply ef_bin; (iterate 3 exact rfl); (exact cmp_f rfl (by simp only [cmpP]; omega))) | apply ef_nil | apply seqQ.normal | apply loopQ.exit | apply ef_exit | apply seqQ.exit | apply blockQ.here | (apply ef_condf; exact rfl; (exact (rfl : false = false))))
   (apply ef_call; (· exact rfl); (· ((repeat (apply XVs.cons; exact rfl)); exact XVs.nil)); · exact w5 true _ _ (frz_row (o := ⟨0, false, 1, rs⟩) rfl rfl (by simp [hSl]) (by rw [← hrs]; exact hlr 0) hrs) hz)
   repeat (first | apply ef_seq | (apply ef_mv; exact rfl; exact rfl) | apply ef_nil | apply seqQ.normal | apply ef_ret | apply seqQ.ret | (apply ef_condt; exact rfl; (exact (rfl : true = true))))
   (apply fin2; (· exact rfl); (· exact rfl); (· exact rfl); (· rfl))
theorem CheckFlow_c (k : Nat) (n : Nt) (hb : BdN n) (fl : List Int) (hfl : fl.length ≤ 1000) (h : MHeap) {v : MV} (hv : frz 0 [] h 8 v = some (.sl (fl.map I64))) : orA (k + 7) 37 [encN n, v] h = some (.tup [I64 (cfV n fl), I64 (cfE n fl)], h) :=
 callTT (args' := [encN n, .sl (fl.map I64)]) (by simp [List.mapM_cons, hv, frz_lt (ltL_N n 0)]) rfl (CheckFlow_z k n hb fl hfl)
theorem mf_FlowOf : MT.mf 35 = some ⟨16, [(.tmp 2), (.tmp 3)], (.seq (.reg [⟨none, some 1, .box 2 (.s 0)⟩, ⟨none, some 2, .nil0 1⟩, ⟨none, some 3, .mv (.c (.lit (.int .i64 0)))⟩]) (.seq (.reg [⟨none, some 7, .ld (some 2) (.s 1)⟩, ⟨none, some 8, .call 87 [.s 7]⟩, ⟨none, some 6, .mv (.s 8)⟩, ⟨none, some 9, .ext (.s 6) 0⟩, ⟨none, some 10, .ext (.s 6) 1⟩, ⟨none, some 4, .new (.agg [(.lit (.slice none 0 0)), (.lit (.slice none 0 0))])⟩, ⟨none, none, .st 2 (.s 4) (.s 9)⟩, ⟨none, some 5, .mv (.s 10)⟩]) (.seq (.seq (.reg [⟨none, some 11, .mv (.s 5)⟩, ⟨none, some 12, .bin .neq (.s 11) (.c (.lit (.int .i64 0)))⟩]) (.cond (.s 12) (.seq (.reg [⟨none, some 13, .mv (.s 5)⟩, ⟨none, some 2, .nil0 1⟩, ⟨none, some 3, .mv (.s 13)⟩]) .ret) .skip)) (.seq (.reg [⟨none, some 14, .ld (some 2) (.s 4)⟩, ⟨none, some 15, .call 88 [.s 14]⟩, ⟨none, some 2, .mv (.s 15)⟩, ⟨none, some 3, .mv (.c (.lit (.int .i64 0)))⟩]) .ret))))⟩ := by kernel_rfl
theorem FlowOf_z (k : Nat) (n : Nt) (hb : BdN n) (ok : OkN n) (h0 : (netF n).2 = 0) :
  runZ MT (orA (k + 6)) (itA (k + 6)) 4000000 35 [encN n] [] = some (.tup [.arr 0 0 n.cs.length 0, I64 0], [⟨0, false, 1, (flZ n).map I64⟩]) := by
 have w1 := fun h => open_c k n hb h
 have w2 := fun h => flow_c k n ok h
 have hl := (flZ_ok ok).1.len
 rw [h0] at w1
 refine runZ_of mf_FlowOf (by simp) ?_
 simp only [argsL]
 repeat (first | apply ef_seq | (apply ef_mv; exact rfl; exact rfl) | (apply ef_bin; (iterate 3 exact rfl); (exact cmp_f rfl (by simp only [cmpP]; omega))) | (apply ef_ldp; exact rfl; exact rfl; (exact rfl); exact rfl; (exact rfl); (exact rd_2 rfl rfl)) | (apply ef_ext; (iterate 3 exact rfl)) | (apply ef_box; (iterate 4 exact rfl)) | (apply ef_new; exact rfl) | (apply ef_nil0; exact rfl) | (apply ef_st; (iterate 6 exact rfl); (exact rfl); exact rfl) | apply ef_nil | apply seqQ.normal | apply ef_ret | apply ef_skip | (apply ef_condf; exact rfl; (exact (rfl : false = false))) | (apply ef_call; exact rfl; ((repeat (apply XVs.cons; exact rfl)); exact XVs.nil); (with_reducible first | exact w1 _ | exact w2 _)))
 (apply fin_al; (· exact rfl); (· exact rfl); (· exact rfl); (· exact rfl); (· exact rfl); (· simp [hl]); (· exact ltL_I 0 _); (· exact rfl); (· exact rfl); (· exact rfl))
theorem FlowOf_c (k : Nat) (n : Nt) (hb : BdN n) (ok : OkN n) (h0 : (netF n).2 = 0) (h : MHeap) : orA (k + 7) 35 [encN n] h = some (.tup [.arr h.length 0 n.cs.length 0, I64 0], h ++ [⟨0, false, 1, (flZ n).map I64⟩]) := by
 have := callA (k := k + 6) (h := h) (args := [encN n]) (args' := [encN n]) (frzL_lt (by simp [ltL, MV.lt, ltL_Ln, ltL_Cr])) rfl (FlowOf_z k n hb ok h0) (by simp [okV, ok1, MV.lt, MV.pure]) (by simp [okH, ltL_I, pureL_I])
 simpa [shV, sh1] using this
end Go.Proofs.YtbdleggmdbihnaaGreat

/- Contracts of the document: the error and the value of a flow. -/
namespace Go.Proofs.YtbdleggmdbihnaaGreat
open Go.RowKit
set_option linter.unusedVariables false
set_option linter.unusedSimpArgs false
theorem mf_FlowErr : MT.mf 36 = some ⟨80, [(.tmp 4)], (.seq (.reg [⟨none, some 2, .box 2 (.s 0)⟩, ⟨none, some 4, .mv (.c (.lit (.int .i64 0)))⟩]) (.seq (.seq (.reg [⟨none, some 9, .mv (.s 1)⟩, ⟨none, some 10, .len (.s 9)⟩, ⟨none, some 11, .fa 1 (.s 2)⟩, ⟨none, some 12, .ld none (.s 11)⟩, ⟨none, some 13, .len (.s 12)⟩, ⟨none, some 14, .bin .neq (.s 10) (.s 13)⟩]) (.cond (.s 14) (.seq (.reg [⟨none, some 4, .mv (.c (.lit (.int .i64 10)))⟩]) .ret) .skip)) (.seq (.reg [⟨none, some 15, .fa 0 (.s 2)⟩, ⟨none, some 16, .ld none (.s 15)⟩, ⟨none, some 17, .len (.s 16)⟩, ⟨none, some 18, .mks (.lit (.int .i64 0)) (.s 17)⟩, ⟨none, some 5, .mv (.s 18)⟩]) (.seq (.seq (.reg [⟨none, some 6, .mv (.c (.lit (.int .i64 0)))⟩]) (.block 0 (.loop [6, 1, 2, 5] (.seq (.seq (.reg [⟨none, some 19, .mv (.s 6)⟩, ⟨none, some 20, .mv (.s 1)⟩, ⟨none, some 21, .len (.s 20)⟩, ⟨none, some 22, .bin .lss (.s 19) (.s 21)⟩]) (.cond (.s 22) .skip (.exit 0))) (.seq (.block 1 (.seq (.reg [⟨none, some 25, .fa 1 (.s 2)⟩, ⟨none, some 26, .ld none (.s 25)⟩, ⟨none, some 27, .mv (.s 6)⟩, ⟨none, some 28, .ia 6 (.s 26) (.s 27)⟩, ⟨none, some 29, .ld (some 6) (.s 28)⟩, ⟨none, some 7, .new (.agg [(.lit (.int .i64 0)), (.lit (.int .i64 0)), (.lit (.int .i64 0)), (.lit (.int .i64 0)), (.lit (.int .i64 0)), (.lit (.int .i64 0))])⟩, ⟨none, none, .st 6 (.s 7) (.s 29)⟩]) (.seq (.seq (.reg [⟨none, some 30, .mv (.s 1)⟩, ⟨none, some 31, .mv (.s 6)⟩, ⟨none, some 32, .ia 1 (.s 30) (.s 31)⟩, ⟨none, some 33, .ld none (.s 32)⟩, ⟨none, some 34, .fa 5 (.s 7)⟩, ⟨none, some 35, .ld none (.s 34)⟩, ⟨none, some 36, .un .neg (.s 35)⟩, ⟨none, some 37, .fa 5 (.s 7)⟩, ⟨none, some 38, .ld none (.s 37)⟩, ⟨none, some 39, .call 39 [.s 33, .s 36, .s 38]⟩, ⟨none, some 40, .un .not (.s 39)⟩]) (.cond (.s 40) (.seq (.reg [⟨none, some 4, .mv (.c (.lit (.int .i64 2)))⟩]) .ret) .skip)) (.seq (.reg [⟨none, some 41, .mv (.s 5)⟩, ⟨none, some 42, .fa 0 (.s 7)⟩, ⟨none, some 43, .ld none (.s 42)⟩, ⟨none, some 44, .mv (.s 5)⟩, ⟨none, some 45, .fa 0 (.s 7)⟩, ⟨none, some 46, .ld none (.s 45)⟩, ⟨none, some 47, .ia 1 (.s 44) (.s 46)⟩, ⟨none, some 48, .ld none (.s 47)⟩, ⟨none, some 49, .mv (.s 1)⟩, ⟨none, some 50, .mv (.s 6)⟩, ⟨none, some 51, .ia 1 (.s 49) (.s 50)⟩, ⟨none, some 52, .ld none (.s 51)⟩, ⟨none, some 53, .bin .add (.s 48) (.s 52)⟩, ⟨none, some 54, .ia 1 (.s 41) (.s 43)⟩, ⟨none, none, .st 1 (.s 54) (.s 53)⟩]) (.reg [⟨none, some 55, .mv (.s 5)⟩, ⟨none, some 56, .fa 1 (.s 7)⟩, ⟨none, some 57, .ld none (.s 56)⟩, ⟨none, some 58, .mv (.s 5)⟩, ⟨none, some 59, .fa 1 (.s 7)⟩, ⟨none, some 60, .ld none (.s 59)⟩, ⟨none, some 61, .ia 1 (.s 58) (.s 60)⟩, ⟨none, some 62, .ld none (.s 61)⟩, ⟨none, some 63, .mv (.s 1)⟩, ⟨none, some 64, .mv (.s 6)⟩, ⟨none, some 65, .ia 1 (.s 63) (.s 64)⟩, ⟨none, some 66, .ld none (.s 65)⟩, ⟨none, some 67, .bin .add (.s 62) (.s 66)⟩, ⟨none, some 68, .ia 1 (.s 55) (.s 57)⟩, ⟨none, none, .st 1 (.s 68) (.s 67)⟩]))))) (.reg [⟨none, some 23, .mv (.s 6)⟩, ⟨none, some 24, .bin .add (.s 23) (.c (.lit (.int .i64 1)))⟩, ⟨none, some 6, .mv (.s 24)⟩])))))) (.seq (.seq (.reg [⟨none, some 8, .mv (.c (.lit (.int .i64 0)))⟩]) (.block 2 (.loop [8, 5] (.seq (.seq (.reg [⟨none, some 69, .mv (.s 8)⟩, ⟨none, some 70, .mv (.s 5)⟩, ⟨none, some 71, .len (.s 70)⟩, ⟨none, some 72, .bin .lss (.s 69) (.s 71)⟩]) (.cond (.s 72) .skip (.exit 2))) (.seq (.block 3 (.seq (.reg [⟨none, some 75, .mv (.s 5)⟩, ⟨none, some 76, .mv (.s 8)⟩, ⟨none, some 77, .ia 1 (.s 75) (.s 76)⟩, ⟨none, some 78, .ld none (.s 77)⟩, ⟨none, some 79, .bin .neq (.s 78) (.c (.lit (.int .i64 0)))⟩]) (.cond (.s 79) (.seq (.reg [⟨none, some 4, .mv (.c (.lit (.int .i64 19)))⟩]) .ret) .skip))) (.reg [⟨none, some 73, .mv (.s 8)⟩, ⟨none, some 74, .bin .add (.s 73) (.c (.lit (.int .i64 1)))⟩, ⟨none, some 8, .mv (.s 74)⟩])))))) (.seq (.reg [⟨none, some 4, .mv (.c (.lit (.int .i64 0)))⟩]) .ret))))))⟩ := by kernel_rfl
set_option maxHeartbeats 4000000 in
theorem FlowErr_z (k : Nat) (n : Nt) (ok : OkN n) (fl : List Int) (hfl : fl.length ≤ 1000) :
  runZ MT (orA (k + 1)) (itA (k + 1)) 4000000 36 [encN n, .sl (fl.map I64)] [] = some (I64 (flE n fl), []) := by
 have hs1 : (MV.sl (n.ls.map encLn)).slen = some n.ls.length := by simp [MV.slen]
 have hs2 : (MV.sl (n.cs.map encCr)).slen = some n.cs.length := by simp [MV.slen]
 have hs3 : (MV.sl (fl.map I64)).slen = some fl.length := by simp [MV.slen]
 have l1 := ok.l1
 have l8 := ok.l8
 have c16 := ok.c16
 refine runZ_of mf_FlowErr (by simp) ?_
 simp only [argsL]
 by_cases hl : fl.length = n.cs.length
 rotate_left
 ·rw [show flE n fl = 10 by unfold flE; rw [if_neg hl]]
  repeat (first | apply ef_seq | (apply ef_mv; exact rfl; exact rfl) | (apply ef_bin; (iterate 3 exact rfl); (exact cmp_t rfl (by first | exact rfl | (simp only [cmpP]; omega)))) | (apply ef_len; exact rfl; exact rfl; (assumption)) | (apply ef_ldp; exact rfl; exact rfl; (exact rfl); exact rfl; (exact rfl); (exact rfl)) | (apply ef_fap; exact rfl; exact rfl) | (apply ef_box; (iterate 4 exact rfl)) | apply ef_nil | apply seqQ.normal | apply ef_ret | apply seqQ.ret | (apply ef_condt; exact rfl; (exact (rfl : true = true))))
  (refine fin1 rfl (by exact rfl) rfl ?_)
  rfl
 have HE1 : flE n fl = if okU n.cs fl n.cs.length = true then (if (sumsU n.ls.length n.cs fl n.cs.length).any nzB then 19 else 0) else 2 := by unfold flE; rw [if_pos hl]
 repeat (first | apply ef_seq | (apply ef_mv; exact rfl; exact rfl) | (apply ef_bin; (iterate 3 exact rfl); (exact cmp_f rfl (by simp only [cmpP]; omega))) | (apply ef_len; exact rfl; exact rfl; (assumption)) | (apply ef_ldp; exact rfl; exact rfl; (exact rfl); exact rfl; (exact rfl); (exact rfl)) | (apply ef_fap; exact rfl; exact rfl) | (apply ef_box; (iterate 4 exact rfl)) | (apply ef_mks; exact rfl; exact rfl; (omega); (omega)) | apply ef_nil | apply seqQ.normal | apply ef_block | apply ef_skip | (apply ef_condf; exact rfl; (exact (rfl : false = false))))
 refine ef_loopf (α := Nat × List Int × List MV) (fun q => q.1 ≤ n.cs.length ∧ q.2.1 = sumsU n.ls.length n.cs fl q.1 ∧ q.2.2 = q.2.1.map I64 ∧ okU n.cs fl q.1 = true) (fun q => [(6, I64 (q.1 : Int))]) [(1, .sl (fl.map I64)), (2, .ptr 0 0 0 0), (5, .arr 1 0 n.ls.length 0)] (fun q => [⟨0, false, 2, [encN n]⟩, ⟨0, false, 1, q.2.2⟩]) (fun q => n.cs.length - q.1) (0, List.replicate n.ls.length 0, List.replicate n.ls.length (I64 0)) [6] (fun _ => rfl) (by ((repeat (refine Hold.cons (by exact rfl) ?_)); exact Hold.nil)) (by ((repeat (refine Hold.cons (by exact rfl) ?_)); exact Hold.nil)) rfl rfl ⟨by omega, rfl, by simp, rfl⟩ (by simp; omega) ?_
 rintro ⟨i, S, rs⟩ ⟨hi, hS, hrs, ho⟩
 try simp only at hi hS hrs ho ⊢
 have hSl : S.length = n.ls.length := by rw [hS, sumsU_len]
 have hlr : ∀ j, ltL j rs = true := fun j => by rw [hrs]; exact ltL_I j _
 have hbd := sumsU_bd ok i hi ho
 rw [← hS] at hbd
 by_cases hlt : i < n.cs.length
 ·have e1 := at_map encCr n.cs i hlt
  have hgd : n.cs.getD i default = n.cs[i] := by rw [List.getD_eq_getElem?_getD, List.getElem?_eq_getElem hlt]; rfl
  have hx := ok.rg n.cs[i] (List.getElem_mem hlt)
  have e2 := cAt_at hl (i := (i : Int)) (by omega) (by omega)
  have HN := Lib.hid (show sumsU n.ls.length n.cs fl (i + 1) = ((S.set n.cs[i].ln.toNat (cAt S n.cs[i].ln + cAt fl i)).set n.cs[i].ti.toNat (cAt (S.set n.cs[i].ln.toNat (cAt S n.cs[i].ln + cAt fl i)) n.cs[i].ti + cAt fl i)) by rw [sumsU, hgd, hS])
  have hno := okU_no (cs := n.cs) (fl := fl) (i := i) (N := n.cs.length)
  have hyes := okU_next (cs := n.cs) (fl := fl) (i := i) ho
  rw [hgd] at hno hyes
  have hkd := ok.kd _ (List.getElem_mem hlt)
  have hne : n.cs[i].ti ≠ n.cs[i].ln := fun e => by
   rw [e, hkd.1] at hkd
   exact absurd hkd.2 (by simp)
  generalize n.cs[i] = x at e1 hx HN hno hyes hne
  generalize cAt fl (i : Int) = f at e2 HN hno hyes
  have x1 := hx.l0
  have x2 := hx.l1
  have x3 := hx.t0
  have x4 := hx.t1
  have xw := hx.wt
  cases hin : inB f (-x.wt) x.wt
  ·have hN := hno hin hlt
   rw [show flE n fl = 2 by rw [HE1, hN]; rfl]
   have w3 := fun h => Within_c k f (0 - x.wt) x.wt h (t := false) (by rw [Int.zero_sub]; exact hin)
   repeat (first | apply ef_seq | (apply ef_mv; exact rfl; exact rfl) | (apply ef_bin; (iterate 3 exact rfl); (exact cmp_t rfl (by first | exact rfl | (simp only [cmpP]; omega)))) | (apply ef_len; exact rfl; exact rfl; (assumption)) | (apply ef_ldr; exact rfl; exact rfl; (first | exact rd_6 rfl rfl rfl rfl rfl rfl | exact rfl)) | (apply ef_ldp; exact rfl; exact rfl; (exact rfl); exact rfl; (exact rfl); (exact rfl)) | (apply ef_ias; (iterate 3 exact rfl); (omega); assumption; exact rfl) | (apply ef_fap; exact rfl; exact rfl) | (apply ef_notF; exact rfl; exact rfl) | (apply ef_neg; exact rfl; exact rfl; exact wrap_of (by omega) (by omega)) | (apply ef_new; exact rfl) | (apply ef_st; (iterate 6 exact rfl); (exact rfl); exact rfl) | apply ef_nil | apply seqQ.normal | apply loopQ.ret | apply ef_ret | apply seqQ.ret | apply blockQ.ret | apply ef_block | apply ef_skip | (apply ef_condt; exact rfl; (exact (rfl : true = true))) | (apply ef_call; exact rfl; ((repeat (apply XVs.cons; exact rfl)); exact XVs.nil); (with_reducible exact w3 _)))
   (refine fin1 rfl (by exact rfl) rfl ?_)
   rfl
  ·have w3 := fun h => Within_c k f (0 - x.wt) x.wt h (t := true) (by rw [Int.zero_sub]; exact hin)
   have hfb := inB_iff.1 hin
   have hb1 := hbd x.ln
   have hb2 := hbd x.ti
   have e3 := lit_at hrs hSl x1 x2
   have hS2 : rs.set (0 + x.ln.toNat) (I64 (cAt S x.ln + f)) = (S.set x.ln.toNat (cAt S x.ln + f)).map I64 := by rw [hrs, Nat.zero_add, List.map_set]
   have e4 := lit_at hS2 (by rw [List.length_set]; exact hSl) x3 x4
   have hse : cAt (S.set x.ln.toNat (cAt S x.ln + f)) x.ti = cAt S x.ti := by rw [cAt_set x1 (by omega) x3, if_neg hne]
   rw [hse] at e4 HN
   have hls : ∀ (j i i' : Nat) (x y : Int), ltL j ((rs.set i (I64 x)).set i' (I64 y)) = true := fun j i i' x y => ltL_set (ltL_set (hlr j) rfl) rfl
   repeat (first | apply ef_seq | (apply ef_mv; exact rfl; exact rfl) | (apply ef_bin; (iterate 3 exact rfl); (first | exact cmp_t rfl (by first | exact rfl | (simp only [cmpP]; omega)) | ((with_reducible refine bin_add (wrap_of ?_ ?_)) <;> omega))) | (apply ef_len; exact rfl; exact rfl; (assumption)) | (apply ef_ldr; exact rfl; exact rfl; (first | exact rd_6 rfl rfl rfl rfl rfl rfl | exact rfl)) | (apply ef_ldp; exact rfl; exact rfl; (exact rfl); exact rfl; (first | exact rfl | assumption); (exact rfl)) | (apply ef_ias; (iterate 3 exact rfl); (omega); assumption; exact rfl) | (apply ef_iaa; (iterate 3 exact rfl); (omega); (omega); (exact rfl)) | (apply ef_fap; exact rfl; exact rfl) | (apply ef_notT; exact rfl; exact rfl) | (apply ef_neg; exact rfl; exact rfl; exact wrap_of (by omega) (by omega)) | (apply ef_new; exact rfl) | (apply ef_st; (iterate 6 exact rfl); (first | exact rfl | assumption); exact rfl) | apply ef_nil | apply seqQ.normal | apply blockQ.normal | apply ef_block | apply ef_skip | (apply ef_condt; exact rfl; (exact (rfl : true = true))) | (apply ef_condf; exact rfl; (exact (rfl : false = false))) | (apply ef_call; exact rfl; ((repeat (apply XVs.cons; exact rfl)); exact XVs.nil); (with_reducible exact w3 _)))
   (refine loopQ.normal _ _ ⟨(i + 1, ((S.set x.ln.toNat (cAt S x.ln + f)).set x.ti.toNat (cAt S x.ti + f)), (rs.set (0 + x.ln.toNat) (I64 (cAt S x.ln + f))).set (0 + x.ti.toNat) (I64 (cAt S x.ti + f))), ⟨hlt, HN.out.symm, by simp [hrs, List.map_set], hyes hin⟩, (by first | (simp only; omega) | omega), ⟨by ((repeat (refine Hold.cons (by exact rfl) ?_)); exact Hold.nil), by ((repeat (refine Hold.cons (by exact rfl) ?_)); exact Hold.nil)⟩, .inr ⟨by ((repeat (refine hdl_cons rfl (by first | rfl | (simp [MV.lt, ltL, ltL_I, ltL_Ln, ltL_Cr, hls, splice, MV.cells])) ?_)); exact hdl_nil), by (simp [hltL, ltL, MV.lt, ltL, ltL_I, ltL_Ln, ltL_Cr, hls, splice, MV.cells])⟩, by exact rfl⟩)
 ·obtain rfl : i = n.cs.length := by omega
  have HE2 : flE n fl = if S.any nzB = true then 19 else 0 := by rw [HE1, if_pos ho, hS]
  repeat (first | apply ef_seq | (apply ef_mv; exact rfl; exact rfl) | (apply ef_bin; (iterate 3 exact rfl); (exact cmp_f rfl (by simp only [cmpP]; omega))) | (apply ef_len; exact rfl; exact rfl; (assumption)) | apply ef_nil | apply seqQ.normal | apply loopQ.exit | apply ef_exit | apply seqQ.exit | apply blockQ.here | apply ef_block | (apply ef_condf; exact rfl; (exact (rfl : false = false))))
  refine ef_loopf (α := Nat) (fun j => j ≤ n.ls.length ∧ S.any nzB = (S.drop j).any nzB) (fun j => [(8, I64 (j : Int))]) [(5, .arr 1 0 n.ls.length 0)] (fun _ => [⟨0, false, 2, [encN n]⟩, ⟨0, false, 1, rs⟩]) (fun j => n.ls.length - j) 0 [8] (fun _ => rfl) (by ((repeat (refine Hold.cons (by exact rfl) ?_)); exact Hold.nil)) (by ((repeat (refine Hold.cons (by exact rfl) ?_)); exact Hold.nil)) rfl rfl ⟨by omega, rfl⟩ (by simp; omega) ?_
  rintro j ⟨hj, hz⟩
  try simp only at hj hz ⊢
  by_cases hlj : j < n.ls.length
  ·have e5 := lit_at hrs hSl (v := (j : Int)) (by omega) (by omega)
   have HS := Lib.hid (drop_at S j (by omega))
   have hcj : cAt S (j : Int) = S[j] := by unfold cAt; rw [Int.toNat_natCast, List.getD_eq_getElem?_getD, List.getElem?_eq_getElem (by omega)]; rfl
   have HZ := Lib.hid hz
   clear hz
   rw [← hcj] at HS
   generalize cAt S (j : Int) = g at e5 HS
   by_cases hg : g = 0
   ·subst hg
    repeat (first | apply ef_seq | (apply ef_mv; exact rfl; exact rfl) | (apply ef_bin; (iterate 3 exact rfl); (first | exact cmp_t rfl (by first | exact rfl | (simp only [cmpP]; omega)) | exact cmp_f rfl (by simp only [cmpP]; omega) | ((with_reducible refine bin_add (wrap_of ?_ ?_)) <;> omega))) | (apply ef_len; exact rfl; exact rfl; (exact rfl)) | (apply ef_ldp; exact rfl; exact rfl; (exact rfl); exact rfl; (assumption); (exact rfl)) | (apply ef_iaa; (iterate 3 exact rfl); (omega); (omega); (exact rfl)) | apply ef_nil | apply seqQ.normal | apply blockQ.normal | apply ef_block | apply ef_skip | (apply ef_condt; exact rfl; (exact (rfl : true = true))) | (apply ef_condf; exact rfl; (exact (rfl : false = false))))
    (refine loopQ.normal _ _ ⟨j + 1, ⟨hlj, by rw [HZ.out, HS.out, List.any_cons]; rfl⟩, (by first | (simp only; omega) | omega), ⟨by ((repeat (refine Hold.cons (by exact rfl) ?_)); exact Hold.nil), by ((repeat (refine Hold.cons (by exact rfl) ?_)); exact Hold.nil)⟩, .inr ⟨by ((repeat (refine hdl_cons rfl (by first | rfl | (simp [MV.lt, ltL, ltL_I, ltL_Ln, ltL_Cr, hlr, splice, MV.cells])) ?_)); exact hdl_nil), by (simp [hltL, ltL, MV.lt, ltL, ltL_I, ltL_Ln, ltL_Cr, hlr, splice, MV.cells])⟩, by exact rfl⟩)
   ·have hany : S.any nzB = true := by rw [HZ.out, HS.out, List.any_cons]; simp [nzB, hg]
    rw [HE2, hany]
    repeat (first | apply ef_seq | (apply ef_mv; exact rfl; exact rfl) | (apply ef_bin; (iterate 3 exact rfl); (exact cmp_t rfl (by first | exact rfl | (simp only [cmpP]; omega)))) | (apply ef_len; exact rfl; exact rfl; (exact rfl)) | (apply ef_ldp; exact rfl; exact rfl; (exact rfl); exact rfl; (assumption); (exact rfl)) | (apply ef_iaa; (iterate 3 exact rfl); (omega); (omega); (exact rfl)) | apply ef_nil | apply seqQ.normal | apply loopQ.ret | apply ef_ret | apply seqQ.ret | apply blockQ.ret | apply ef_block | apply ef_skip | (apply ef_condt; exact rfl; (exact (rfl : true = true))))
    (refine fin1 rfl (by exact rfl) rfl ?_)
    rfl
  ·have hany : S.any nzB = false := by rw [hz, List.drop_eq_nil_of_le (by omega)]; rfl
   rw [HE2, hany]
   repeat (first | apply ef_seq | (apply ef_mv; exact rfl; exact rfl) | (apply ef_bin; (iterate 3 exact rfl); (exact cmp_f rfl (by simp only [cmpP]; omega))) | (apply ef_len; exact rfl; exact rfl; (exact rfl)) | apply ef_nil | apply seqQ.normal | apply loopQ.exit | apply ef_ret | apply ef_exit | apply seqQ.exit | apply blockQ.here | (apply ef_condf; exact rfl; (exact (rfl : false = false))))
   (refine fin1 rfl (by exact rfl) rfl ?_)
   rfl
theorem FlowErr_c (k : Nat) (n : Nt) (ok : OkN n) (fl : List Int) (hfl : fl.length ≤ 1000) (h : MHeap) {v : MV} (hv : frz 0 [] h 8 v = some (.sl (fl.map I64))) : orA (k + 2) 36 [encN n, v] h = some (I64 (flE n fl), h) :=
 callL (args' := [encN n, .sl (fl.map I64)]) (by simp [List.mapM_cons, hv, frz_lt (ltL_N n 0)]) rfl (FlowErr_z k n ok fl hfl)
theorem mf_rValue : MT.mf 38 = some ⟨27, [(.tmp 4)], (.seq (.reg [⟨none, some 2, .box 2 (.s 0)⟩, ⟨none, some 4, .mv (.c (.lit (.int .i64 0)))⟩]) (.seq (.reg [⟨none, some 5, .mv (.c (.lit (.int .i64 0)))⟩]) (.seq (.seq (.reg [⟨none, some 6, .mv (.c (.lit (.int .i64 0)))⟩]) (.block 0 (.loop [6, 1, 5, 2] (.seq (.seq (.reg [⟨none, some 7, .mv (.s 6)⟩, ⟨none, some 8, .mv (.s 1)⟩, ⟨none, some 9, .len (.s 8)⟩, ⟨none, some 10, .bin .lss (.s 7) (.s 9)⟩]) (.cond (.s 10) .skip (.exit 0))) (.seq (.block 1 (.reg [⟨none, some 13, .mv (.s 5)⟩, ⟨none, some 14, .mv (.s 1)⟩, ⟨none, some 15, .mv (.s 6)⟩, ⟨none, some 16, .ia 1 (.s 14) (.s 15)⟩, ⟨none, some 17, .ld none (.s 16)⟩, ⟨none, some 18, .fa 1 (.s 2)⟩, ⟨none, some 19, .ld none (.s 18)⟩, ⟨none, some 20, .mv (.s 6)⟩, ⟨none, some 21, .ia 6 (.s 19) (.s 20)⟩, ⟨none, some 22, .fa 4 (.s 21)⟩, ⟨none, some 23, .ld none (.s 22)⟩, ⟨none, some 24, .bin .mul (.s 17) (.s 23)⟩, ⟨none, some 25, .bin .add (.s 13) (.s 24)⟩, ⟨none, some 5, .mv (.s 25)⟩])) (.reg [⟨none, some 11, .mv (.s 6)⟩, ⟨none, some 12, .bin .add (.s 11) (.c (.lit (.int .i64 1)))⟩, ⟨none, some 6, .mv (.s 12)⟩])))))) (.seq (.reg [⟨none, some 26, .mv (.s 5)⟩, ⟨none, some 4, .mv (.s 26)⟩]) .ret))))⟩ := by kernel_rfl
set_option maxHeartbeats 1000000 in
theorem rValue_z (k : Nat) (n : Nt) (ok : OkN n) (fl : List Int) (hf : fl.length = n.cs.length) (hb : ∀ z ∈ fl, -10 ≤ z ∧ z ≤ 10) :
  runZ MT (orA k) (itA k) 4000000 38 [encN n, .sl (fl.map I64)] [] = some (I64 (valU n.cs fl n.cs.length), []) := by
 have hs3 : (MV.sl (fl.map I64)).slen = some fl.length := by simp [MV.slen]
 have c16 := ok.c16
 refine runZ_of mf_rValue (by simp) ?_
 simp only [argsL]
 repeat (first | apply ef_seq | (apply ef_mv; exact rfl; exact rfl) | (apply ef_box; (iterate 4 exact rfl)) | apply ef_nil | apply seqQ.normal | apply ef_block)
 refine ef_loopf (α := Nat × Int) (fun p => p.1 ≤ n.cs.length ∧ p.2 = valU n.cs fl p.1) (fun p => [(6, I64 (p.1 : Int)), (5, I64 p.2)]) [(1, .sl (fl.map I64)), (2, .ptr 0 0 0 0)] (fun _ => [⟨0, false, 2, [encN n]⟩]) (fun p => n.cs.length - p.1) (0, 0) [6, 5] (fun _ => rfl) (by ((repeat (refine Hold.cons (by exact rfl) ?_)); exact Hold.nil)) (by ((repeat (refine Hold.cons (by exact rfl) ?_)); exact Hold.nil)) rfl rfl ⟨by omega, rfl⟩ (by simp; omega) ?_
 rintro ⟨i, q⟩ ⟨hi, hq⟩
 try simp only at hi hq ⊢
 by_cases hlt : i < n.cs.length
 ·have e1 := at_map encCr n.cs i hlt
  have hat : n.cs[i]? = some n.cs[i] := List.getElem?_eq_getElem hlt
  have hx := ok.rg n.cs[i] (List.getElem_mem hlt)
  have e2 := cAt_at hf (i := (i : Int)) (by omega) (by omega)
  have hv := valU_bd ok hb i hi
  have hvn := valU_bd ok hb (i + 1) hlt
  generalize n.cs[i] = x at e1 hat hx
  have HN := Lib.hid (valU_next (fl := fl) hat)
  rw [HN.out] at hvn
  have hff : -10 ≤ cAt fl i ∧ cAt fl i ≤ 10 := by
   unfold cAt
   rw [List.getD_eq_getElem?_getD]
   cases hh : fl[(i : Int).toNat]? with
   | none => simp
   | some z => exact hb z (List.mem_of_getElem? hh)
  have w2 := hx.df
  rw [← hq] at hv hvn
  generalize cAt fl i = f at e2 HN hvn hff
  have m1 := mul_w (a := f) (b := x.df) 10 10000 (by omega) (by omega) (by omega) (by omega) (by omega)
  repeat (first | apply ef_seq | (apply ef_mv; exact rfl; exact rfl) | (apply ef_bin; (iterate 3 exact rfl); (first | exact cmp_t rfl (by first | exact rfl | (simp only [cmpP]; omega)) | ((with_reducible refine bin_add (wrap_of ?_ ?_)) <;> omega) | ((with_reducible refine bin_mul (wrap_of ?_ ?_)) <;> omega))) | (apply ef_len; exact rfl; exact rfl; (assumption)) | (apply ef_ldr; exact rfl; exact rfl; (exact rfl)) | (apply ef_ldp; exact rfl; exact rfl; (exact rfl); exact rfl; (exact rfl); (exact rfl)) | (apply ef_ias; (iterate 3 exact rfl); (omega); assumption; exact rfl) | (apply ef_fap; exact rfl; exact rfl) | (apply ef_far; exact rfl; exact rfl) | apply ef_nil | apply seqQ.normal | apply blockQ.normal | apply ef_block | apply ef_skip | (apply ef_condt; exact rfl; (exact (rfl : true = true))))
  (refine loopQ.normal _ _ ⟨(i + 1, q + f * x.df), ⟨hlt, by rw [HN.out, hq]⟩, (by first | (simp only; omega) | omega), ⟨by ((repeat (refine Hold.cons (by exact rfl) ?_)); exact Hold.nil), by ((repeat (refine Hold.cons (by exact rfl) ?_)); exact Hold.nil)⟩, .inr ⟨by ((repeat (refine hdl_cons rfl (by first | rfl | (simp [MV.lt, ltL, ltL_Ln, ltL_Cr, ltL_I, splice, MV.cells])) ?_)); exact hdl_nil), by (simp [hltL, ltL, MV.lt, ltL, ltL_Ln, ltL_Cr, ltL_I, splice, MV.cells])⟩, by exact rfl⟩)
 ·obtain rfl : i = n.cs.length := by omega
  repeat (first | apply ef_seq | (apply ef_mv; exact rfl; exact rfl) | (apply ef_bin; (iterate 3 exact rfl); (exact cmp_f rfl (by simp only [cmpP]; omega))) | (apply ef_len; exact rfl; exact rfl; (assumption)) | apply ef_nil | apply seqQ.normal | apply loopQ.exit | apply ef_ret | apply ef_exit | apply seqQ.exit | apply blockQ.here | (apply ef_condf; exact rfl; (exact (rfl : false = false))))
  (refine fin1 rfl (by exact rfl) rfl ?_)
  rw [hq]
theorem rValue_c (k : Nat) (n : Nt) (ok : OkN n) (fl : List Int) (hf : fl.length = n.cs.length) (hb : ∀ z ∈ fl, -10 ≤ z ∧ z ≤ 10) (h : MHeap) {v : MV} (hv : frz 0 [] h 8 v = some (.sl (fl.map I64))) :
  orA (k + 1) 38 [encN n, v] h = some (I64 (valU n.cs fl n.cs.length), h) :=
 callL (args' := [encN n, .sl (fl.map I64)]) (by simp [List.mapM_cons, hv, frz_lt (ltL_N n 0)]) rfl (rValue_z k n ok fl hf hb)
end Go.Proofs.YtbdleggmdbihnaaGreat

/- A slice of the call's own is given up. -/
namespace Go.Proofs.YtbdleggmdbihnaaGreat
open Go.RowKit
set_option linter.unusedVariables false
end Go.Proofs.YtbdleggmdbihnaaGreat

/- Contracts: residuals, the cost and the corrected net; the program, and the document; equal nets. -/
namespace Go.Proofs.YtbdleggmdbihnaaGreat
open Go.RowKit
set_option linter.unusedVariables false
set_option linter.unusedSimpArgs false
theorem OkC.okB {m : Nat} {c : List Int} (h : OkC m c) : OkB m c := ⟨h.len, fun v => by have := h.at v; omega⟩
theorem bothE_ok {n : Nt} {c : List Int} (h : bothE n c = 0) : (netF n).2 = 0 ∧ OkN n ∧ OkC n.ls.length c := by
 obtain ⟨h1, h2, h3⟩ := both_ok h
 exact ⟨h3, h1, h2⟩
theorem mf_CostOf : MT.mf 27 = some ⟨22, [(.tmp 4), (.tmp 5)], (.seq (.reg [⟨none, some 2, .box 2 (.s 0)⟩, ⟨none, some 4, .mv (.c (.lit (.int .i64 0)))⟩, ⟨none, some 5, .mv (.c (.lit (.int .i64 0)))⟩]) (.seq (.reg [⟨none, some 9, .ld (some 2) (.s 2)⟩, ⟨none, some 10, .mv (.s 1)⟩, ⟨none, some 11, .call 49 [.s 9, .s 10]⟩, ⟨none, some 8, .mv (.s 11)⟩, ⟨none, some 12, .ext (.s 8) 0⟩, ⟨none, some 13, .ext (.s 8) 1⟩, ⟨none, some 6, .new (.agg [(.lit (.slice none 0 0)), (.lit (.slice none 0 0))])⟩, ⟨none, none, .st 2 (.s 6) (.s 12)⟩, ⟨none, some 7, .mv (.s 13)⟩]) (.seq (.seq (.reg [⟨none, some 14, .mv (.s 7)⟩, ⟨none, some 15, .bin .neq (.s 14) (.c (.lit (.int .i64 0)))⟩]) (.cond (.s 15) (.seq (.reg [⟨none, some 16, .mv (.s 7)⟩, ⟨none, some 4, .mv (.c (.lit (.int .i64 0)))⟩, ⟨none, some 5, .mv (.s 16)⟩]) .ret) .skip)) (.seq (.reg [⟨none, some 17, .ld (some 2) (.s 6)⟩, ⟨none, some 18, .ld (some 2) (.s 6)⟩, ⟨none, some 19, .mv (.s 1)⟩, ⟨none, some 20, .call 57 [.s 18, .s 19]⟩, ⟨none, some 21, .call 78 [.s 17, .s 20]⟩, ⟨none, some 4, .mv (.s 21)⟩, ⟨none, some 5, .mv (.c (.lit (.int .i64 0)))⟩]) .ret))))⟩ := by kernel_rfl
theorem CostOf_c (k : Nat) (n : Nt) (hb : BdN n) (c : List Int) (hc : c.length ≤ 1000) (h : MHeap) {v : MV} (hv : frz 0 [] h 8 v = some (.sl (c.map I64))) :
  orA (k + 8) 27 [encN n, v] h = some (.tup [I64 (if bothE n c = 0 then costL n c else 0), I64 (bothE n c)], h) := by
 have w1 := fun h => openCorr_c k n hb c hc h
 refine callTT (args' := [encN n, .sl (c.map I64)]) (by simp [List.mapM_cons, hv, frz_lt (ltL_N n 0)]) rfl (runZ_of mf_CostOf (by simp) ?_)
 simp only [argsL]
 by_cases h0 : bothE n c = 0
 ·obtain ⟨hn, ok, okc⟩ := bothE_ok h0
  have hrl : (resL n c).length = n.cs.length := by simp [resL]
  have w2 := fun h => residuals_c (k + 6) n c (by have := ok.c16; omega) ok.rg okc (by have := ok.l8; omega) h
  have w3 := fun h v hv => cost_c (k + 5) n ok (resL n c) hrl (resL_bd ok okc.okB) h (v := v) hv
  rw [h0] at w1
  rw [h0, if_pos rfl]
  unfold costL
  generalize wsU n.cs (resL n c) n.cs.length = ws at *
  repeat (first | apply ef_seq | (apply ef_mv; exact rfl; exact rfl) | (apply ef_bin; (iterate 3 exact rfl); (exact cmp_f rfl (by simp only [cmpP]; omega))) | (apply ef_ldp; exact rfl; exact rfl; (exact rfl); exact rfl; (exact rfl); (exact rd_2 rfl rfl)) | (apply ef_ext; (iterate 3 exact rfl)) | (apply ef_box; (iterate 4 exact rfl)) | (apply ef_new; exact rfl) | (apply ef_st; (iterate 6 exact rfl); (exact rfl); exact rfl) | apply ef_nil | apply seqQ.normal | apply ef_skip | (apply ef_condf; exact rfl; (exact (rfl : false = false))) | (apply ef_call; exact rfl; ((repeat (apply XVs.cons; exact rfl)); exact XVs.nil); (with_reducible first | exact w1 _ | exact w2 _)))
  (apply ef_call; (· exact rfl); (· ((repeat (apply XVs.cons; exact rfl)); exact XVs.nil)); · exact w3 _ _ (frz_row (o := ⟨0, decide (n.cs.length = 0), 1, (resL n c).map I64⟩) rfl rfl (by simp [hrl]) (ltL_I 0 _) rfl))
  repeat (first | (apply ef_mv; exact rfl; exact rfl) | apply ef_nil | apply seqQ.normal | apply ef_ret)
  (apply fin2; (· exact rfl); (· exact rfl); (· exact rfl); (· rfl))
 ·rw [if_neg h0]
  generalize bothE n c = e at *
  repeat (first | apply ef_seq | (apply ef_mv; exact rfl; exact rfl) | (apply ef_bin; (iterate 3 exact rfl); (exact cmp_t rfl (by first | exact rfl | (simp only [cmpP]; omega)))) | (apply ef_ldp; exact rfl; exact rfl; (exact rfl); exact rfl; (exact rfl); (exact rd_2 rfl rfl)) | (apply ef_ext; (iterate 3 exact rfl)) | (apply ef_box; (iterate 4 exact rfl)) | (apply ef_new; exact rfl) | (apply ef_st; (iterate 6 exact rfl); (exact rfl); exact rfl) | apply ef_nil | apply seqQ.normal | apply ef_ret | apply seqQ.ret | (apply ef_condt; exact rfl; (exact (rfl : true = true))) | (apply ef_call; exact rfl; ((repeat (apply XVs.cons; exact rfl)); exact XVs.nil); (with_reducible exact w1 _)))
  (apply fin2; (· exact rfl); (· exact rfl); (· exact rfl); (· rfl))
end Go.Proofs.YtbdleggmdbihnaaGreat

/- LevelNoCheaper: the walk. -/
namespace Go.Proofs.YtbdleggmdbihnaaGreat
open Go.RowKit
set_option linter.unusedVariables false
set_option linter.unusedSimpArgs false
abbrev noH (n : Nt) (c fl : List Int) : MHeap := [⟨0, false, 2, [encN n]⟩, ⟨0, false, 1, (lgZ n 0).map I64⟩, ⟨0, false, 1, (flZ n).map I64⟩, ⟨0, false, 1, (flZ n).map I64⟩, ⟨0, false, 1, (lgZ n 0).map I64⟩, ⟨0, false, 1, fl.map I64⟩, ⟨0, false, 1, c.map I64⟩, ⟨0, decide (n.ls.length = 0), 2, (rgL n).map encR⟩]
theorem mf_LevelNoCheaper : MT.mf 6 = some ⟨259, [(.tmp 6)], (.seq (.reg [⟨none, some 3, .box 2 (.s 0)⟩, ⟨none, some 6, .mv (.c (.lit (.bool false)))⟩]) (.seq (.seq (.reg [⟨none, some 27, .call 7 []⟩, ⟨none, some 28, .un .not (.s 27)⟩]) (.cond (.s 28) (.seq (.reg [⟨none, some 6, .mv (.c (.lit (.bool false)))⟩]) .ret) .skip)) (.seq (.seq (.reg [⟨none, some 29, .ld (some 2) (.s 3)⟩, ⟨none, some 30, .call 8 [.s 29]⟩, ⟨none, some 31, .un .not (.s 30)⟩, ⟨none, some 32, .mv (.s 31)⟩, ⟨some (32, false), some 33, .mv (.s 1)⟩, ⟨some (32, false), some 34, .call 18 [.s 33]⟩, ⟨some (32, false), some 35, .un .not (.s 34)⟩, ⟨none, some 36, .pick (.s 32) (.c (.lit (.bool true))) (.s 35)⟩, ⟨none, some 37, .mv (.s 36)⟩, ⟨some (37, false), some 38, .mv (.s 2)⟩, ⟨some (37, false), some 39, .call 18 [.s 38]⟩, ⟨some (37, false), some 40, .un .not (.s 39)⟩, ⟨none, some 41, .pick (.s 37) (.c (.lit (.bool true))) (.s 40)⟩, ⟨none, some 42, .mv (.s 41)⟩, ⟨some (42, false), some 43, .ld (some 2) (.s 3)⟩, ⟨some (42, false), some 44, .call 13 [.s 43]⟩, ⟨some (42, false), some 45, .bin .neq (.s 44) (.c (.lit (.int .i64 0)))⟩, ⟨none, some 46, .pick (.s 42) (.c (.lit (.bool true))) (.s 45)⟩]) (.cond (.s 46) (.seq (.reg [⟨none, some 6, .mv (.c (.lit (.bool true)))⟩]) .ret) .skip)) (.seq (.reg [⟨none, some 48, .ld (some 2) (.s 3)⟩, ⟨none, some 49, .call 11 [.s 48]⟩, ⟨none, some 50, .call 10 [.s 49]⟩, ⟨none, some 47, .mv (.s 50)⟩, ⟨none, some 51, .ext (.s 47) 0⟩, ⟨none, some 52, .ext (.s 47) 1⟩, ⟨none, some 53, .ext (.s 47) 2⟩, ⟨none, some 7, .mv (.s 51)⟩, ⟨none, some 8, .mv (.s 52)⟩, ⟨none, some 9, .mv (.s 53)⟩]) (.seq (.reg [⟨none, some 55, .ld (some 2) (.s 3)⟩, ⟨none, some 56, .call 11 [.s 55]⟩, ⟨none, some 57, .call 35 [.s 56]⟩, ⟨none, some 54, .mv (.s 57)⟩, ⟨none, some 58, .ext (.s 54) 0⟩, ⟨none, some 59, .ext (.s 54) 1⟩, ⟨none, some 10, .mv (.s 58)⟩, ⟨none, some 11, .mv (.s 59)⟩]) (.seq (.seq (.reg [⟨none, some 60, .mv (.s 9)⟩, ⟨none, some 61, .bin .neq (.s 60) (.c (.lit (.int .i64 0)))⟩, ⟨none, some 62, .mv (.s 61)⟩, ⟨some (62, false), some 63, .mv (.s 11)⟩, ⟨some (62, false), some 64, .bin .neq (.s 63) (.c (.lit (.int .i64 0)))⟩, ⟨none, some 65, .pick (.s 62) (.c (.lit (.bool true))) (.s 64)⟩, ⟨none, some 66, .mv (.s 65)⟩, ⟨some (66, false), some 67, .ld (some 2) (.s 3)⟩, ⟨some (66, false), some 68, .mv (.s 7)⟩, ⟨some (66, false), some 69, .call 30 [.s 67, .s 68]⟩, ⟨some (66, false), some 70, .bin .neq (.s 69) (.c (.lit (.int .i64 0)))⟩, ⟨none, some 71, .pick (.s 66) (.c (.lit (.bool true))) (.s 70)⟩, ⟨none, some 72, .mv (.s 71)⟩, ⟨some (72, false), some 73, .ld (some 2) (.s 3)⟩, ⟨some (72, false), some 74, .mv (.s 10)⟩, ⟨some (72, false), some 75, .call 36 [.s 73, .s 74]⟩, ⟨some (72, false), some 76, .bin .neq (.s 75) (.c (.lit (.int .i64 0)))⟩, ⟨none, some 77, .pick (.s 72) (.c (.lit (.bool true))) (.s 76)⟩]) (.cond (.s 77) (.seq (.reg [⟨none, some 6, .mv (.c (.lit (.bool false)))⟩]) .ret) .skip)) (.seq (.reg [⟨none, some 79, .ld (some 2) (.s 3)⟩, ⟨none, some 80, .call 11 [.s 79]⟩, ⟨none, some 81, .mv (.s 10)⟩, ⟨none, some 82, .call 20 [.s 81]⟩, ⟨none, some 83, .call 37 [.s 80, .s 82]⟩, ⟨none, some 78, .mv (.s 83)⟩, ⟨none, some 84, .ext (.s 78) 0⟩, ⟨none, some 85, .ext (.s 78) 1⟩, ⟨none, some 12, .mv (.s 84)⟩, ⟨none, some 13, .mv (.s 85)⟩]) (.seq (.reg [⟨none, some 87, .ld (some 2) (.s 3)⟩, ⟨none, some 88, .call 11 [.s 87]⟩, ⟨none, some 89, .mv (.s 7)⟩, ⟨none, some 90, .call 20 [.s 89]⟩, ⟨none, some 91, .call 27 [.s 88, .s 90]⟩, ⟨none, some 86, .mv (.s 91)⟩, ⟨none, some 92, .ext (.s 86) 0⟩, ⟨none, some 93, .ext (.s 86) 1⟩, ⟨none, some 14, .mv (.s 92)⟩, ⟨none, some 15, .mv (.s 93)⟩]) (.seq (.seq (.reg [⟨none, some 94, .mv (.s 13)⟩, ⟨none, some 95, .bin .neq (.s 94) (.c (.lit (.int .i64 0)))⟩, ⟨none, some 96, .mv (.s 95)⟩, ⟨some (96, false), some 97, .mv (.s 12)⟩, ⟨some (96, false), some 98, .mv (.s 8)⟩, ⟨some (96, false), some 99, .bin .neq (.s 97) (.s 98)⟩, ⟨none, some 100, .pick (.s 96) (.c (.lit (.bool true))) (.s 99)⟩, ⟨none, some 101, .mv (.s 100)⟩, ⟨some (101, false), some 102, .mv (.s 12)⟩, ⟨some (101, false), some 103, .ld (some 2) (.s 3)⟩, ⟨some (101, false), some 104, .mv (.s 10)⟩, ⟨some (101, false), some 105, .call 38 [.s 103, .s 104]⟩, ⟨some (101, false), some 106, .bin .neq (.s 102) (.s 105)⟩, ⟨none, some 107, .pick (.s 101) (.c (.lit (.bool true))) (.s 106)⟩, ⟨none, some 108, .mv (.s 107)⟩, ⟨some (108, false), some 109, .mv (.s 15)⟩, ⟨some (108, false), some 110, .bin .neq (.s 109) (.c (.lit (.int .i64 0)))⟩, ⟨none, some 111, .pick (.s 108) (.c (.lit (.bool true))) (.s 110)⟩, ⟨none, some 112, .mv (.s 111)⟩, ⟨some (112, false), some 113, .mv (.s 14)⟩, ⟨some (112, false), some 114, .mv (.s 8)⟩, ⟨some (112, false), some 115, .bin .neq (.s 113) (.s 114)⟩, ⟨none, some 116, .pick (.s 112) (.c (.lit (.bool true))) (.s 115)⟩]) (.cond (.s 116) (.seq (.reg [⟨none, some 6, .mv (.c (.lit (.bool false)))⟩]) .ret) .skip)) (.seq (.reg [⟨none, some 118, .ld (some 2) (.s 3)⟩, ⟨none, some 119, .call 11 [.s 118]⟩, ⟨none, some 120, .mv (.s 2)⟩, ⟨none, some 121, .call 20 [.s 120]⟩, ⟨none, some 122, .call 37 [.s 119, .s 121]⟩, ⟨none, some 117, .mv (.s 122)⟩, ⟨none, some 123, .ext (.s 117) 0⟩, ⟨none, some 124, .ext (.s 117) 1⟩, ⟨none, some 16, .mv (.s 123)⟩, ⟨none, some 17, .mv (.s 124)⟩]) (.seq (.reg [⟨none, some 126, .ld (some 2) (.s 3)⟩, ⟨none, some 127, .call 11 [.s 126]⟩, ⟨none, some 128, .mv (.s 1)⟩, ⟨none, some 129, .call 20 [.s 128]⟩, ⟨none, some 130, .call 27 [.s 127, .s 129]⟩, ⟨none, some 125, .mv (.s 130)⟩, ⟨none, some 131, .ext (.s 125) 0⟩, ⟨none, some 132, .ext (.s 125) 1⟩, ⟨none, some 18, .mv (.s 131)⟩, ⟨none, some 19, .mv (.s 132)⟩]) (.seq (.seq (.reg [⟨none, some 133, .mv (.s 17)⟩, ⟨none, some 134, .bin .eql (.s 133) (.c (.lit (.int .i64 0)))⟩, ⟨none, some 135, .ld (some 2) (.s 3)⟩, ⟨none, some 136, .mv (.s 2)⟩, ⟨none, some 137, .call 36 [.s 135, .s 136]⟩, ⟨none, some 138, .bin .eql (.s 137) (.c (.lit (.int .i64 0)))⟩, ⟨none, some 139, .beq true (.s 134) (.s 138)⟩, ⟨none, some 140, .mv (.s 139)⟩, ⟨some (140, false), some 141, .mv (.s 17)⟩, ⟨some (140, false), some 142, .bin .eql (.s 141) (.c (.lit (.int .i64 0)))⟩, ⟨some (140, false), some 143, .mv (.s 142)⟩, ⟨some (143, true), some 144, .mv (.s 16)⟩, ⟨some (143, true), some 145, .mv (.s 8)⟩, ⟨some (143, true), some 146, .bin .gtr (.s 144) (.s 145)⟩, ⟨some (140, false), some 147, .pick (.s 143) (.s 146) (.c (.lit (.bool false)))⟩, ⟨none, some 148, .pick (.s 140) (.c (.lit (.bool true))) (.s 147)⟩, ⟨none, some 149, .mv (.s 148)⟩, ⟨some (149, false), some 150, .mv (.s 19)⟩, ⟨some (149, false), some 151, .bin .eql (.s 150) (.c (.lit (.int .i64 0)))⟩, ⟨some (149, false), some 152, .ld (some 2) (.s 3)⟩, ⟨some (149, false), some 153, .mv (.s 1)⟩, ⟨some (149, false), some 154, .call 30 [.s 152, .s 153]⟩, ⟨some (149, false), some 155, .bin .eql (.s 154) (.c (.lit (.int .i64 0)))⟩, ⟨some (149, false), some 156, .beq true (.s 151) (.s 155)⟩, ⟨none, some 157, .pick (.s 149) (.c (.lit (.bool true))) (.s 156)⟩, ⟨none, some 158, .mv (.s 157)⟩, ⟨some (158, false), some 159, .mv (.s 19)⟩, ⟨some (158, false), some 160, .bin .eql (.s 159) (.c (.lit (.int .i64 0)))⟩, ⟨some (158, false), some 161, .mv (.s 160)⟩, ⟨some (161, true), some 162, .mv (.s 18)⟩, ⟨some (161, true), some 163, .mv (.s 8)⟩, ⟨some (161, true), some 164, .bin .lss (.s 162) (.s 163)⟩, ⟨some (158, false), some 165, .pick (.s 161) (.s 164) (.c (.lit (.bool false)))⟩, ⟨none, some 166, .pick (.s 158) (.c (.lit (.bool true))) (.s 165)⟩]) (.cond (.s 166) (.seq (.reg [⟨none, some 6, .mv (.c (.lit (.bool false)))⟩]) .ret) .skip)) (.seq (.reg [⟨none, some 168, .ld (some 2) (.s 3)⟩, ⟨none, some 169, .call 11 [.s 168]⟩, ⟨none, some 170, .call 12 [.s 169]⟩, ⟨none, some 167, .mv (.s 170)⟩, ⟨none, some 171, .ext (.s 167) 0⟩, ⟨none, some 172, .ext (.s 167) 1⟩, ⟨none, some 20, .mv (.s 171)⟩, ⟨none, some 21, .mv (.s 172)⟩]) (.seq (.seq (.reg [⟨none, some 173, .mv (.s 21)⟩, ⟨none, some 174, .bin .neq (.s 173) (.c (.lit (.int .i64 0)))⟩, ⟨none, some 175, .mv (.s 174)⟩, ⟨some (175, false), some 176, .mv (.s 20)⟩, ⟨some (175, false), some 177, .len (.s 176)⟩, ⟨some (175, false), some 178, .fa 0 (.s 3)⟩, ⟨some (175, false), some 179, .ld none (.s 178)⟩, ⟨some (175, false), some 180, .len (.s 179)⟩, ⟨some (175, false), some 181, .bin .neq (.s 177) (.s 180)⟩, ⟨none, some 182, .pick (.s 175) (.c (.lit (.bool true))) (.s 181)⟩]) (.cond (.s 182) (.seq (.reg [⟨none, some 6, .mv (.c (.lit (.bool false)))⟩]) .ret) .skip)) (.seq (.seq (.reg [⟨none, some 22, .mv (.c (.lit (.int .i64 0)))⟩]) (.block 0 (.loop [22, 20, 7, 3, 8] (.seq (.seq (.reg [⟨none, some 183, .mv (.s 22)⟩, ⟨none, some 184, .mv (.s 20)⟩, ⟨none, some 185, .len (.s 184)⟩, ⟨none, some 186, .bin .lss (.s 183) (.s 185)⟩]) (.cond (.s 186) .skip (.exit 0))) (.seq (.block 1 (.seq (.reg [⟨none, some 189, .mv (.s 20)⟩, ⟨none, some 190, .mv (.s 22)⟩, ⟨none, some 191, .ia 2 (.s 189) (.s 190)⟩, ⟨none, some 192, .fa 0 (.s 191)⟩, ⟨none, some 193, .ld none (.s 192)⟩, ⟨none, some 194, .mv (.s 7)⟩, ⟨none, some 195, .mv (.s 22)⟩, ⟨none, some 196, .ia 1 (.s 194) (.s 195)⟩, ⟨none, some 197, .ld none (.s 196)⟩, ⟨none, some 198, .bin .neq (.s 193) (.s 197)⟩, ⟨none, some 199, .mv (.s 198)⟩, ⟨some (199, false), some 200, .mv (.s 20)⟩, ⟨some (199, false), some 201, .mv (.s 22)⟩, ⟨some (199, false), some 202, .ia 2 (.s 200) (.s 201)⟩, ⟨some (199, false), some 203, .fa 1 (.s 202)⟩, ⟨some (199, false), some 204, .ld none (.s 203)⟩, ⟨some (199, false), some 205, .mv (.s 20)⟩, ⟨some (199, false), some 206, .mv (.s 22)⟩, ⟨some (199, false), some 207, .ia 2 (.s 205) (.s 206)⟩, ⟨some (199, false), some 208, .fa 0 (.s 207)⟩, ⟨some (199, false), some 209, .ld none (.s 208)⟩, ⟨some (199, false), some 210, .call 39 [.s 204, .s 209, (.c (.lit (.int .i64 1000000)))]⟩, ⟨some (199, false), some 211, .un .not (.s 210)⟩, ⟨none, some 212, .pick (.s 199) (.c (.lit (.bool true))) (.s 211)⟩]) (.cond (.s 212) (.seq (.reg [⟨none, some 6, .mv (.c (.lit (.bool false)))⟩]) .ret) .skip))) (.reg [⟨none, some 187, .mv (.s 22)⟩, ⟨none, some 188, .bin .add (.s 187) (.c (.lit (.int .i64 1)))⟩, ⟨none, some 22, .mv (.s 188)⟩])))))) (.seq (.reg [⟨none, some 23, .nil0 1⟩]) (.seq (.seq (.reg [⟨none, some 24, .mv (.c (.lit (.int .i64 0)))⟩]) (.block 2 (.loop [24, 20, 23, 3, 8] (.seq (.seq (.reg [⟨none, some 213, .mv (.s 24)⟩, ⟨none, some 214, .mv (.s 20)⟩, ⟨none, some 215, .len (.s 214)⟩, ⟨none, some 216, .bin .lss (.s 213) (.s 215)⟩]) (.cond (.s 216) .skip (.exit 2))) (.seq (.block 3 (.reg [⟨none, some 219, .mv (.s 23)⟩, ⟨none, some 220, .mv (.s 20)⟩, ⟨none, some 221, .mv (.s 24)⟩, ⟨none, some 222, .ia 2 (.s 220) (.s 221)⟩, ⟨none, some 223, .fa 1 (.s 222)⟩, ⟨none, some 224, .ld none (.s 223)⟩, ⟨none, some 225, .bsl (.lit (.int .i64 0)) 1 1 [(0, (.s 224))]⟩, ⟨none, some 226, .app 1 (.s 219) (.s 225)⟩, ⟨none, some 23, .mv (.s 226)⟩])) (.reg [⟨none, some 217, .mv (.s 24)⟩, ⟨none, some 218, .bin .add (.s 217) (.c (.lit (.int .i64 1)))⟩, ⟨none, some 24, .mv (.s 218)⟩])))))) (.seq (.seq (.reg [⟨none, some 227, .ld (some 2) (.s 3)⟩, ⟨none, some 228, .mv (.s 23)⟩, ⟨none, some 229, .call 30 [.s 227, .s 228]⟩, ⟨none, some 230, .bin .neq (.s 229) (.c (.lit (.int .i64 0)))⟩, ⟨none, some 231, .mv (.s 230)⟩, ⟨some (231, false), some 232, .ld (some 2) (.s 3)⟩, ⟨some (231, false), some 233, .mv (.s 23)⟩, ⟨some (231, false), some 234, .call 34 [.s 232, .s 233]⟩, ⟨some (231, false), some 235, .mv (.s 8)⟩, ⟨some (231, false), some 236, .bin .neq (.s 234) (.s 235)⟩, ⟨none, some 237, .pick (.s 231) (.c (.lit (.bool true))) (.s 236)⟩]) (.cond (.s 237) (.seq (.reg [⟨none, some 6, .mv (.c (.lit (.bool false)))⟩]) .ret) .skip)) (.seq (.seq (.reg [⟨none, some 25, .mv (.c (.lit (.int .i64 1)))⟩]) (.block 4 (.loop [25, 20, 23, 3, 8] (.seq (.seq (.reg [⟨none, some 238, .mv (.s 25)⟩, ⟨none, some 239, .mv (.s 20)⟩, ⟨none, some 240, .len (.s 239)⟩, ⟨none, some 241, .bin .lss (.s 238) (.s 240)⟩]) (.cond (.s 241) .skip (.exit 4))) (.seq (.block 5 (.seq (.reg [⟨none, some 244, .mv (.s 23)⟩, ⟨none, some 245, .call 20 [.s 244]⟩, ⟨none, some 26, .mv (.s 245)⟩]) (.seq (.reg [⟨none, some 246, .mv (.s 26)⟩, ⟨none, some 247, .mv (.s 25)⟩, ⟨none, some 248, .mv (.s 26)⟩, ⟨none, some 249, .mv (.s 25)⟩, ⟨none, some 250, .ia 1 (.s 248) (.s 249)⟩, ⟨none, some 251, .ld none (.s 250)⟩, ⟨none, some 252, .bin .add (.s 251) (.c (.lit (.int .i64 1)))⟩, ⟨none, some 253, .ia 1 (.s 246) (.s 247)⟩, ⟨none, none, .st 1 (.s 253) (.s 252)⟩]) (.seq (.reg [⟨none, some 254, .ld (some 2) (.s 3)⟩, ⟨none, some 255, .mv (.s 26)⟩, ⟨none, some 256, .call 34 [.s 254, .s 255]⟩, ⟨none, some 257, .mv (.s 8)⟩, ⟨none, some 258, .bin .leq (.s 256) (.s 257)⟩]) (.cond (.s 258) (.seq (.reg [⟨none, some 6, .mv (.c (.lit (.bool false)))⟩]) .ret) .skip))))) (.reg [⟨none, some 242, .mv (.s 25)⟩, ⟨none, some 243, .bin .add (.s 242) (.c (.lit (.int .i64 1)))⟩, ⟨none, some 25, .mv (.s 243)⟩])))))) (.seq (.reg [⟨none, some 6, .mv (.c (.lit (.bool true)))⟩]) .ret))))))))))))))))))))⟩ := by kernel_rfl
set_option maxRecDepth 20000 in
set_option maxHeartbeats 8000000 in
theorem LevelNoCheaper_z (n : Nt) (c fl : List Int) (m1 : n.ls.length ≤ 9223372036854775807) (m2 : n.cs.length ≤ 9223372036854775807) (m3 : c.length ≤ 9223372036854775807) (m4 : fl.length ≤ 9223372036854775807) :
  runZ MT (orC LZ 13) (itA 14) 4000000 6 [encN n, .sl (c.map I64), .sl (fl.map I64)] [] = some (Bo true, []) := by
 refine runZ_of mf_LevelNoCheaper (by simp) ?_
 simp only [argsL]
 have hs1 : (MV.sl (n.ls.map encLn)).slen = some n.ls.length := by simp [MV.slen]
 have w0 : ∀ h, orC LZ 13 7 [] h = some (Bo true, h) := fun h => orC_of rfl (awake_c h)
 have w1 : ∀ h, orC LZ 13 8 [encN n] h = _ := fun h => orC_of rfl (Few_c 13 n m1 m2 h)
 cases hf : fewNt n
 ·rw [hf] at w1
  repeat (first | apply ef_seq | (apply ef_mv; exact rfl; exact rfl) | (apply ef_gn; exact rfl; (exact (rfl : true = true)); exact rfl) | (apply ef_pick; (iterate 3 exact rfl)) | (apply ef_ldp; exact rfl; exact rfl; (exact rfl); exact rfl; (exact rfl); (exact rd_2 rfl rfl)) | (apply ef_notT; exact rfl; exact rfl) | (apply ef_notF; exact rfl; exact rfl) | (apply ef_box; (iterate 4 exact rfl)) | apply ef_nil | apply seqQ.normal | apply ef_ret | apply seqQ.ret | apply ef_skip | (apply ef_condt; exact rfl; (exact (rfl : true = true))) | (apply ef_condf; exact rfl; (exact (rfl : false = false))) | (apply ef_call; exact rfl; ((repeat (apply XVs.cons; exact rfl)); exact XVs.nil); (with_reducible first | exact w0 _ | exact w1 _)))
  (refine fin1 rfl (by exact rfl) rfl ?_)
  rfl
 obtain ⟨hb, n10, n18⟩ := fewNt_bd hf
 rw [hf] at w1
 have w2 : ∀ h, orC LZ 13 18 [.sl (c.map I64)] h = _ := fun h => orC_of rfl (fewNumbers_c 13 c m3 h)
 have w3 : ∀ h, orC LZ 13 18 [.sl (fl.map I64)] h = _ := fun h => orC_of rfl (fewNumbers_c 13 fl m4 h)
 by_cases hd1 : c.length ≤ 40
 rotate_left
 ·rw [decide_eq_false hd1] at w2
  repeat (first | apply ef_seq | (apply ef_mv; exact rfl; exact rfl) | (apply ef_gy; exact rfl; (exact (rfl : false = false))) | (apply ef_gn; exact rfl; (exact (rfl : true = true)); exact rfl) | (apply ef_pick; (iterate 3 exact rfl)) | (apply ef_ldp; exact rfl; exact rfl; (exact rfl); exact rfl; (exact rfl); (exact rd_2 rfl rfl)) | (apply ef_notT; exact rfl; exact rfl) | (apply ef_notF; exact rfl; exact rfl) | (apply ef_box; (iterate 4 exact rfl)) | apply ef_nil | apply seqQ.normal | apply ef_ret | apply seqQ.ret | apply ef_skip | (apply ef_condt; exact rfl; (exact (rfl : true = true))) | (apply ef_condf; exact rfl; (exact (rfl : false = false))) | (apply ef_call; exact rfl; ((repeat (apply XVs.cons; exact rfl)); exact XVs.nil); (with_reducible first | exact w0 _ | exact w1 _ | exact w2 _)))
  (refine fin1 rfl (by exact rfl) rfl ?_)
  rfl
 rw [decide_eq_true hd1] at w2
 by_cases hd2 : fl.length ≤ 40
 rotate_left
 ·rw [decide_eq_false hd2] at w3
  repeat (first | apply ef_seq | (apply ef_mv; exact rfl; exact rfl) | (apply ef_gy; exact rfl; (exact (rfl : false = false))) | (apply ef_gn; exact rfl; (exact (rfl : true = true)); exact rfl) | (apply ef_pick; (iterate 3 exact rfl)) | (apply ef_ldp; exact rfl; exact rfl; (exact rfl); exact rfl; (exact rfl); (exact rd_2 rfl rfl)) | (apply ef_notT; exact rfl; exact rfl) | (apply ef_notF; exact rfl; exact rfl) | (apply ef_box; (iterate 4 exact rfl)) | apply ef_nil | apply seqQ.normal | apply ef_ret | apply seqQ.ret | apply ef_skip | (apply ef_condt; exact rfl; (exact (rfl : true = true))) | (apply ef_condf; exact rfl; (exact (rfl : false = false))) | (apply ef_call; exact rfl; ((repeat (apply XVs.cons; exact rfl)); exact XVs.nil); (with_reducible first | exact w0 _ | exact w1 _ | exact w2 _ | exact w3 _)))
  (refine fin1 rfl (by exact rfl) rfl ?_)
  rfl
 rw [decide_eq_true hd2] at w3
 have w4 : ∀ h, orC LZ 13 13 [encN n] h = _ := fun h => orC_of rfl (JoinedErr_c 9 n hb h)
 by_cases h0 : joE n = 0
 rotate_left
 ·generalize joE n = e at *
  repeat (first | apply ef_seq | (apply ef_mv; exact rfl; exact rfl) | (apply ef_bin; (iterate 3 exact rfl); (exact cmp_t rfl (by first | exact rfl | (simp only [cmpP]; omega)))) | (apply ef_gy; exact rfl; (exact (rfl : false = false))) | (apply ef_pick; (iterate 3 exact rfl)) | (apply ef_ldp; exact rfl; exact rfl; (exact rfl); exact rfl; (exact rfl); (exact rd_2 rfl rfl)) | (apply ef_notT; exact rfl; exact rfl) | (apply ef_box; (iterate 4 exact rfl)) | apply ef_nil | apply seqQ.normal | apply ef_ret | apply seqQ.ret | apply ef_skip | (apply ef_condt; exact rfl; (exact (rfl : true = true))) | (apply ef_condf; exact rfl; (exact (rfl : false = false))) | (apply ef_call; exact rfl; ((repeat (apply XVs.cons; exact rfl)); exact XVs.nil); (with_reducible first | exact w0 _ | exact w1 _ | exact w2 _ | exact w3 _ | exact w4 _)))
  (refine fin1 rfl (by exact rfl) rfl ?_)
  rfl
 obtain ⟨hn, ok, hj⟩ := joE_ok h0
 have l1 := ok.l1
 have l8 := ok.l8
 have c16 := ok.c16
 have w5 := fun h => Copy_cc 13 n hb h
 have w6 : ∀ h, orC LZ 13 10 [encN n] h = _ := fun h => orC_of rfl (BestOf_c 6 n hb h0 h)
 have w7 : ∀ h, orC LZ 13 35 [encN n] h = _ := fun h => orC_of rfl (FlowOf_c 7 n hb ok hn h)
 have hlow := bst_low ok hj
 have hlen := hlow.len
 have hup := bst_up ok hj
 have hulen := hup.len
 have hfl := (flZ_ok ok).1
 have hflen := hfl.len
 have w8 : ∀ h v (hv : frz 0 [] h 8 v = some (.sl ((lgZ n 0).map I64))), orC LZ 13 30 [encN n, v] h = _ := fun h v hv => orC_of rfl (rCorr_c 11 n (lgZ n 0) l1 (by omega) (by omega) h hv)
 rw [hlow.cor] at w8
 have w9 : ∀ h v (hv : frz 0 [] h 8 v = some (.sl ((flZ n).map I64))), orC LZ 13 36 [encN n, v] h = _ := fun h v hv => orC_of rfl (FlowErr_c 12 n ok (flZ n) (by omega) h hv)
 have hfe := (flE_ok ok).2 hfl
 rw [hfe] at w9
 have w10 : ∀ (xs : List Int) (hx : xs.length ≤ 1000000) h v (hv : frz 0 [] h 8 v = some (.sl (xs.map I64))), orC LZ 13 20 [v] h = _ := fun xs hx h v hv => orC_of rfl (bCopyInts_c 13 xs h (v := v) hx hv)
 have w11 : ∀ h v (hv : frz 0 [] h 8 v = some (.sl ((flZ n).map I64))), orC LZ 13 37 [encN n, v] h = _ := fun h v hv => orC_of rfl (CheckFlow_c 7 n hb (flZ n) (by omega) h hv)
 rw [show cfE n (flZ n) = 0 by unfold cfE; rw [if_pos hn]; exact hfe, show cfV n (flZ n) = minC n by unfold cfV; rw [if_pos (by unfold cfE; rw [if_pos hn]; exact hfe)]; rfl] at w11
 have w13 : ∀ h v (hv : frz 0 [] h 8 v = some (.sl ((lgZ n 0).map I64))), orC LZ 13 27 [encN n, v] h = _ := fun h v hv => orC_of rfl (CostOf_c 6 n hb (lgZ n 0) (by omega) h hv)
 rw [show bothE n (lgZ n 0) = 0 by unfold bothE; rw [if_pos hn]; exact hlow.cor, if_pos rfl, hlow.cost] at w13
 have w14 : ∀ h v (hv : frz 0 [] h 8 v = some (.sl ((flZ n).map I64))), orC LZ 13 38 [encN n, v] h = some (I64 (minC n), h) := fun h v hv => orC_of rfl (rValue_c 13 n ok (flZ n) hflen (hfl.bd10 ok) h hv)
 have w15 : ∀ h, orC LZ 13 20 [.sl (fl.map I64)] h = _ := fun h => w10 fl (by omega) h (.sl (fl.map I64)) (frz_sl (ltL_I 0 fl))
 have w17 : ∀ h, orC LZ 13 20 [.sl (c.map I64)] h = _ := fun h => w10 c (by omega) h (.sl (c.map I64)) (frz_sl (ltL_I 0 c))
 have w16 : ∀ h v (hv : frz 0 [] h 8 v = some (.sl (fl.map I64))), orC LZ 13 37 [encN n, v] h = _ := fun h v hv => orC_of rfl (CheckFlow_c 7 n hb fl (by omega) h hv)
 rw [show cfE n fl = flE n fl by unfold cfE; rw [if_pos hn]] at w16
 have w18 : ∀ h v (hv : frz 0 [] h 8 v = some (.sl (c.map I64))), orC LZ 13 27 [encN n, v] h = _ := fun h v hv => orC_of rfl (CostOf_c 6 n hb c (by omega) h hv)
 rw [show bothE n c = corrE n.ls.length c by unfold bothE; rw [if_pos hn]] at w18
 have w19 : ∀ h, orC LZ 13 36 [encN n, .sl (fl.map I64)] h = _ := fun h => orC_of rfl (FlowErr_c 12 n ok fl (by omega) h (frz_sl (ltL_I 0 fl)))
 have w20 : ∀ h, orC LZ 13 30 [encN n, .sl (c.map I64)] h = _ := fun h => orC_of rfl (rCorr_c 11 n c l1 (by omega) (by omega) h (frz_sl (ltL_I 0 c)))
 have w21 : ∀ h, orC LZ 13 12 [encN n] h = _ := fun h => orC_of rfl (RangesOf_c 6 n hb h0 h)
 have w22 : ∀ a b t (ht : inB a b 1000000 = t) h, orC LZ 13 39 [I64 a, I64 b, I64 1000000] h = _ := fun a b t ht h => orC_of rfl (Within_c 13 a b 1000000 h ht)
 have w23 : ∀ h v (hv : frz 0 [] h 8 v = some (.sl ((upQ n).map I64))), orC LZ 13 30 [encN n, v] h = _ := fun h v hv => orC_of rfl (rCorr_c 11 n (upQ n) l1 (by omega) (by omega) h hv)
 rw [hup.cor] at w23
 have w24 : ∀ (x : List Int) (hx : OkB n.ls.length x) h v (hv : frz 0 [] h 8 v = some (.sl (x.map I64))), orC LZ 13 34 [encN n, v] h = _ := fun x hx h v hv => orC_of rfl (rCost_c 11 n ok x hx h hv)
 have w25 := w24 (upQ n) ⟨hulen, fun v => by have := hup.bd v; omega⟩
 rw [hup.cost] at w25
 have hv1 : flE n fl = 0 → cfV n fl ≤ minC n := fun h => by
  unfold cfV cfE
  rw [if_pos hn, if_pos h]
  exact (flZ_max ok).1 fl ((flE_ok ok).1 h)
 have hv2 := minL_le ok c
 have HM := Bx.mk (fun (i : Nat) (h1 : 1 ≤ i) (h2 : i < n.ls.length) => more_cost ok hj h1 h2)
 have HO := Bx.mk (fun (i : Nat) (h2 : i < n.ls.length) => more_ok ok hj h2)
 have HU := Bx.mk (fun (i : Nat) (h2 : i < n.ls.length) => up_in ok hj h2)
 have HB := Bx.mk (fun (i : Nat) (h2 : i < n.ls.length) => And.intro (upQ_at n h2) (hup.bd (i : Int)))
 clear hlow hup hfl hfe hj
 rw [h0] at w4
 generalize minC n = mc at *
 generalize cfV n fl = fv at *
 generalize costL n c = cc at *
 generalize flE n fl = e1 at *
 generalize corrE n.ls.length c = e2 at *
 have hcs : ∃ (x : Int), (e1 = 0 ∧ fv ≤ mc ∨ e1 ≠ 0) := ⟨0, by by_cases h : e1 = 0; (· exact .inl ⟨h, hv1 h⟩); (· exact .inr h)⟩
 obtain ⟨-, hc1⟩ := hcs
 clear hv1
 have W5 := Bx.mk w5
 have W19 := Bx.mk w19
 have W20 := Bx.mk w20
 have W21 := Bx.mk w21
 have W22 := Bx.mk w22
 have W23 := Bx.mk w23
 have W24 := Bx.mk w24
 have W25 := Bx.mk w25
 have W10 := Bx.mk w10
 clear w5 w19 w20 w21 w22 w23 w24 w25
 rcases hc1 with ⟨rfl, hv1⟩ | hc1
 all_goals by_cases hc2 : e2 = 0
 all_goals first | rw [hc2, if_pos rfl] at w18 | rw [if_neg hc2] at w18
 all_goals repeat (first | apply ef_seq | (apply ef_mv; exact rfl; exact rfl) | (apply ef_bin; (iterate 3 exact rfl); (exact cmp_f rfl (by simp only [cmpP]; omega))) | (apply ef_gy; exact rfl; (exact (rfl : false = false))) | (apply ef_pick; (iterate 3 exact rfl)) | (apply ef_ldp; exact rfl; exact rfl; (exact rfl); exact rfl; (exact rfl); (exact rd_2 rfl rfl)) | (apply ef_notT; exact rfl; exact rfl) | (apply ef_ext; (iterate 3 exact rfl)) | (apply ef_box; (iterate 4 exact rfl)) | apply ef_nil | apply seqQ.normal | apply ef_skip | (apply ef_condf; exact rfl; (exact (rfl : false = false))) | (apply ef_call; exact rfl; ((repeat (apply XVs.cons; exact rfl)); exact XVs.nil); (with_reducible first | exact w0 _ | exact w1 _ | exact w2 _ | exact w3 _ | exact w4 _ | exact W5.out _ | exact w6 _ | exact w7 _)))
 all_goals (apply ef_call; (· exact rfl); (· ((repeat (apply XVs.cons; exact rfl)); exact XVs.nil)); · exact w8 _ _ (frz_row (o := ⟨0, false, 1, (lgZ n 0).map I64⟩) rfl rfl (by simp [hlen]) (ltL_I 0 _) rfl))
 all_goals repeat (first | (apply ef_mv; exact rfl; exact rfl) | (apply ef_bin; (iterate 3 exact rfl); (exact cmp_f rfl (by simp only [cmpP]; omega))) | (apply ef_gy; exact rfl; (exact (rfl : false = false))) | (apply ef_pick; (iterate 3 exact rfl)) | (apply ef_ldp; exact rfl; exact rfl; (exact rfl); exact rfl; (exact rfl); (exact rd_2 rfl rfl)))
 all_goals (apply ef_call; (· exact rfl); (· ((repeat (apply XVs.cons; exact rfl)); exact XVs.nil)); · exact w9 _ _ (frz_row (o := ⟨0, false, 1, (flZ n).map I64⟩) rfl rfl (by simp [hflen]) (ltL_I 0 _) rfl))
 all_goals repeat (first | apply ef_seq | (apply ef_mv; exact rfl; exact rfl) | (apply ef_bin; (iterate 3 exact rfl); (exact cmp_f rfl (by simp only [cmpP]; omega))) | (apply ef_gy; exact rfl; (exact (rfl : false = false))) | (apply ef_pick; (iterate 3 exact rfl)) | (apply ef_ldp; exact rfl; exact rfl; (exact rfl); exact rfl; (exact rfl); (exact rd_2 rfl rfl)) | apply ef_nil | apply seqQ.normal | apply ef_skip | (apply ef_condf; exact rfl; (exact (rfl : false = false))) | (apply ef_call; exact rfl; ((repeat (apply XVs.cons; exact rfl)); exact XVs.nil); (with_reducible exact W5.out _)))
 all_goals (apply ef_call; (· exact rfl); (· ((repeat (apply XVs.cons; exact rfl)); exact XVs.nil)); · exact w10 (flZ n) (by omega) _ _ (frz_row (o := ⟨0, false, 1, (flZ n).map I64⟩) rfl rfl (by simp [hflen]) (ltL_I 0 _) rfl))
 all_goals repeat (fail)
 all_goals (apply ef_call; (· exact rfl); (· ((repeat (apply XVs.cons; exact rfl)); exact XVs.nil)); · exact w11 _ _ (frz_row (o := ⟨0, false, 1, (flZ n).map I64⟩) rfl rfl (by simp [hflen]) (ltL_I 0 _) rfl))
 all_goals repeat (first | apply ef_seq | (apply ef_mv; exact rfl; exact rfl) | (apply ef_ldp; exact rfl; exact rfl; (exact rfl); exact rfl; (exact rfl); (exact rd_2 rfl rfl)) | (apply ef_ext; (iterate 3 exact rfl)) | apply ef_nil | apply seqQ.normal | (apply ef_call; exact rfl; ((repeat (apply XVs.cons; exact rfl)); exact XVs.nil); (with_reducible exact W5.out _)))
 all_goals (apply ef_call; (· exact rfl); (· ((repeat (apply XVs.cons; exact rfl)); exact XVs.nil)); · exact w10 (lgZ n 0) (by omega) _ _ (frz_row (o := ⟨0, false, 1, (lgZ n 0).map I64⟩) rfl rfl (by simp [hlen]) (ltL_I 0 _) rfl))
 all_goals repeat (fail)
 all_goals (apply ef_call; (· exact rfl); (· ((repeat (apply XVs.cons; exact rfl)); exact XVs.nil)); · exact w13 _ _ (frz_row (o := ⟨0, false, 1, (lgZ n 0).map I64⟩) rfl rfl (by simp [hlen]) (ltL_I 0 _) rfl))
 all_goals repeat (first | apply ef_seq | (apply ef_mv; exact rfl; exact rfl) | (apply ef_bin; (iterate 3 exact rfl); (exact cmp_f rfl (by simp only [cmpP]; omega))) | (apply ef_gy; exact rfl; (exact (rfl : false = false))) | (apply ef_pick; (iterate 3 exact rfl)) | (apply ef_ldp; exact rfl; exact rfl; (exact rfl); exact rfl; (exact rfl); (exact rd_2 rfl rfl)) | (apply ef_ext; (iterate 3 exact rfl)) | apply ef_nil | apply seqQ.normal)
 all_goals (apply ef_call; (· exact rfl); (· ((repeat (apply XVs.cons; exact rfl)); exact XVs.nil)); · exact w14 _ _ (frz_row (o := ⟨0, false, 1, (flZ n).map I64⟩) rfl rfl (by simp [hflen]) (ltL_I 0 _) rfl))
 all_goals repeat (first | apply ef_seq | (apply ef_mv; exact rfl; exact rfl) | (apply ef_bin; (iterate 3 exact rfl); (exact cmp_f rfl (by simp only [cmpP]; omega))) | (apply ef_gy; exact rfl; (exact (rfl : false = false))) | (apply ef_pick; (iterate 3 exact rfl)) | (apply ef_ldp; exact rfl; exact rfl; (exact rfl); exact rfl; (exact rfl); (exact rd_2 rfl rfl)) | apply ef_nil | apply seqQ.normal | apply ef_skip | (apply ef_condf; exact rfl; (exact (rfl : false = false))) | (apply ef_call; exact rfl; ((repeat (apply XVs.cons; exact rfl)); exact XVs.nil); (with_reducible first | exact W5.out _ | exact w15 _)))
 all_goals (apply ef_call; (· exact rfl); (· ((repeat (apply XVs.cons; exact rfl)); exact XVs.nil)); · exact w16 _ _ (frz_row (o := ⟨0, false, 1, fl.map I64⟩) rfl rfl (by simp) (ltL_I 0 _) rfl))
 all_goals repeat (first | apply ef_seq | (apply ef_mv; exact rfl; exact rfl) | (apply ef_ldp; exact rfl; exact rfl; (exact rfl); exact rfl; (exact rfl); (exact rd_2 rfl rfl)) | (apply ef_ext; (iterate 3 exact rfl)) | apply ef_nil | apply seqQ.normal | (apply ef_call; exact rfl; ((repeat (apply XVs.cons; exact rfl)); exact XVs.nil); (with_reducible first | exact W5.out _ | exact w17 _)))
 all_goals (apply ef_call; (· exact rfl); (· ((repeat (apply XVs.cons; exact rfl)); exact XVs.nil)); · exact w18 _ _ (frz_row (o := ⟨0, false, 1, c.map I64⟩) rfl rfl (by simp) (ltL_I 0 _) rfl))
 all_goals clear w0 w1 w2 w3 w4 w6 w7 w8 w9 w10 w11 w13 w14 w15 w16 w17 w18
 all_goals repeat (first | apply ef_seq | (apply ef_mv; exact rfl; exact rfl) | (apply ef_bin; (iterate 3 exact rfl); (first | exact cmp_t rfl (by first | exact rfl | (simp only [cmpP]; omega)) | exact cmp_f rfl (by simp only [cmpP]; omega))) | (apply ef_gy; exact rfl; (first | exact (rfl : true = true) | exact (rfl : false = false))) | (apply ef_gn; exact rfl; (exact (rfl : false = false)); exact rfl) | (apply ef_pick; (iterate 3 exact rfl)) | (apply ef_len; exact rfl; exact rfl; (first | assumption | exact rfl)) | (apply ef_ldp; exact rfl; exact rfl; (exact rfl); exact rfl; (exact rfl); (first | exact rd_2 rfl rfl | exact rfl)) | (apply ef_fap; exact rfl; exact rfl) | (apply ef_ext; (iterate 3 exact rfl)) | (apply ef_beq; (iterate 3 exact rfl)) | apply ef_nil | apply seqQ.normal | apply ef_block | apply ef_skip | (apply ef_condf; exact rfl; (exact (rfl : false = false))) | (apply ef_call; exact rfl; ((repeat (apply XVs.cons; exact rfl)); exact XVs.nil); (with_reducible first | exact W5.out _ | exact W19.out _ | exact W20.out _ | exact W21.out _)))
 all_goals
  refine ef_loopf (α := Nat) (fun i => i ≤ n.ls.length) (fun i => [(22, I64 (i : Int))]) [(20, .arr 7 0 n.ls.length 0), (7, .arr 1 0 n.ls.length 0), (3, .ptr 0 0 0 0), (8, I64 mc)] (fun _ => noH n c fl) (fun i => n.ls.length - i) 0 [22] (fun _ => rfl) (by ((repeat (refine Hold.cons (by exact rfl) ?_)); exact Hold.nil)) (by ((repeat (refine Hold.cons (by exact rfl) ?_)); exact Hold.nil)) rfl rfl (by omega) (by show n.ls.length - 0 < 4000000; omega) ?_
  intro i hi
  by_cases hlt : i < n.ls.length
  ·have e1 : ((lgZ n 0).map I64)[0 + ((i : Nat) : Int).toNat]? = some (I64 (cAt (lgZ n 0) (i : Nat))) := by rw [Nat.zero_add]; exact cAt_at hlen (by omega) (by omega)
   have e2 : ((rgL n).map encR)[0 + ((i : Nat) : Int).toNat]? = some (.agg [I64 (cAt (lgZ n 0) (i : Nat)), I64 (upP n (i : Nat))]) := by rw [Nat.zero_add, Int.toNat_natCast, List.getElem?_map]; simp [rgL, hlt, encR]
   have w22 := W22.out _ _ _ (HU.out i hlt)
   generalize cAt (lgZ n 0) (i : Nat) = lo at *
   generalize upP n (i : Nat) = up at *
   repeat (first | apply ef_seq | (apply ef_mv; exact rfl; exact rfl) | (apply ef_bin; (iterate 3 exact rfl); (first | exact cmp_t rfl (by first | exact rfl | (simp only [cmpP]; omega)) | exact cmp_f rfl (by simp only [cmpP]; omega) | ((with_reducible refine bin_add (wrap_of ?_ ?_)) <;> omega))) | (apply ef_gy; exact rfl; (exact (rfl : false = false))) | (apply ef_pick; (iterate 3 exact rfl)) | (apply ef_len; exact rfl; exact rfl; (exact rfl)) | (apply ef_ldp; exact rfl; exact rfl; (exact rfl); exact rfl; (assumption); (exact rfl)) | (apply ef_iaa; (iterate 3 exact rfl); (omega); (omega); (exact rfl)) | (apply ef_fap; exact rfl; exact rfl) | (apply ef_notT; exact rfl; exact rfl) | apply ef_nil | apply seqQ.normal | apply blockQ.normal | apply ef_block | apply ef_skip | (apply ef_condt; exact rfl; (exact (rfl : true = true))) | (apply ef_condf; exact rfl; (exact (rfl : false = false))) | (apply ef_call; exact rfl; ((repeat (apply XVs.cons; exact rfl)); exact XVs.nil); (with_reducible exact w22 _)))
   (refine loopQ.normal _ _ ⟨i + 1, hlt, (by first | (simp only; omega) | omega), ⟨by ((repeat (refine Hold.cons (by exact rfl) ?_)); exact Hold.nil), by ((repeat (refine Hold.cons (by exact rfl) ?_)); exact Hold.nil)⟩, .inl (Nat.le_refl _), (by first | exact List.take_length | exact rfl | exact takeF rfl rfl)⟩)
  ·obtain rfl : i = n.ls.length := by omega
   repeat (first | apply ef_seq | (apply ef_mv; exact rfl; exact rfl) | (apply ef_bin; (iterate 3 exact rfl); (exact cmp_f rfl (by simp only [cmpP]; omega))) | (apply ef_len; exact rfl; exact rfl; (exact rfl)) | (apply ef_nil0; exact rfl) | apply ef_nil | apply seqQ.normal | apply loopQ.exit | apply ef_exit | apply seqQ.exit | apply blockQ.here | apply ef_block | (apply ef_condf; exact rfl; (exact (rfl : false = false))))
   refine ef_loopf (α := Nat × List MV) (fun p => p.1 ≤ n.ls.length ∧ p.2 = ((upQ n).take p.1).map I64) (fun p => [(24, I64 (p.1 : Int)), (23, .arr 8 0 p.1 p.1)]) [(20, .arr 7 0 n.ls.length 0), (3, .ptr 0 0 0 0), (8, I64 mc)] (fun p => noH n c fl ++ [⟨p.1, decide (p.1 = 0), 1, p.2⟩]) (fun p => n.ls.length - p.1) (0, []) [24, 23] (fun _ => rfl) (by ((repeat (refine Hold.cons (by exact rfl) ?_)); exact Hold.nil)) (by ((repeat (refine Hold.cons (by exact rfl) ?_)); exact Hold.nil)) rfl rfl ⟨by omega, rfl⟩ (by show n.ls.length - 0 < 4000000; omega) ?_
   rintro ⟨i, rs⟩ ⟨hi, hrs⟩
   try simp only at hi hrs ⊢
   have hrl : rs.length = i := by rw [hrs, List.length_map, List.length_take, upQ_len]; omega
   have hlr : ∀ j, ltL j rs = true := fun j => by rw [hrs]; exact ltL_I j _
   by_cases hlt : i < n.ls.length
   ·have e2 : ((rgL n).map encR)[0 + ((i : Nat) : Int).toNat]? = some (.agg [I64 (cAt (lgZ n 0) (i : Nat)), I64 (upP n (i : Nat))]) := by rw [Nat.zero_add, Int.toNat_natCast, List.getElem?_map]; simp [rgL, hlt, encR]
    have HN := Bx.mk (upQ_next n hlt)
    generalize cAt (lgZ n 0) (i : Nat) = lo at *
    generalize upP n (i : Nat) = up at *
    repeat (first | apply ef_seq | (apply ef_mv; exact rfl; exact rfl) | (apply ef_bin; (iterate 3 exact rfl); (exact cmp_t rfl (by first | exact rfl | (simp only [cmpP]; omega)))) | (apply ef_len; exact rfl; exact rfl; (exact rfl)) | (apply ef_ldp; exact rfl; exact rfl; (exact rfl); exact rfl; (assumption); (exact rfl)) | (apply ef_iaa; (iterate 3 exact rfl); (omega); (omega); (exact rfl)) | (apply ef_fap; exact rfl; exact rfl) | (apply ef_bsl; exact rfl; (repeat (apply XVs.cons; exact rfl)); exact XVs.nil; exact rfl) | apply ef_nil | apply seqQ.normal | apply ef_block | apply ef_skip | (apply ef_condt; exact rfl; (exact (rfl : true = true))))
    (apply ef_app; (· exact rfl); (· exact rfl); (· exact rfl); (· exact rfl); (· exact rfl); (· exact rfl); (· (simp [hrl])); (· exact rfl); (· (simp [hrl]; omega)); (· (exact rfl)); (· exact rfl))
    repeat (first | (apply ef_mv; exact rfl; exact rfl) | (apply ef_bin; (iterate 3 exact rfl); (((with_reducible refine bin_add (wrap_of ?_ ?_)) <;> omega))) | apply ef_nil | apply seqQ.normal | apply blockQ.normal)
    (refine loopQ.normal _ _ ⟨(i + 1, rs ++ [I64 up]), ⟨hlt, by rw [HN.out, hrs]⟩, (by first | (simp only; omega) | omega), ⟨by ((repeat (refine Hold.cons (by exact rfl) ?_)); exact Hold.nil), by ((repeat (refine Hold.cons (by exact rfl) ?_)); exact Hold.nil)⟩, .inr ⟨by ((repeat (refine hdl_cons rfl (by first | rfl | (simp [MV.lt, ltL, ltL_Ln, ltL_Cr, ltL_I, ltL_R, hlr, ltL_app2, splice, MV.cells])) ?_)); exact hdl_nil), by (simp [hltL, ltL, MV.lt, ltL, ltL_Ln, ltL_Cr, ltL_I, ltL_R, hlr, ltL_app2, splice, MV.cells])⟩, by exact rfl⟩)
   ·obtain rfl : i = n.ls.length := by omega
    have hra : rs = (upQ n).map I64 := by rw [hrs, List.take_of_length_le (by rw [upQ_len]; exact Nat.le_refl _)]
    clear hrs hrl hlr
    subst hra
    repeat (first | apply ef_seq | (apply ef_mv; exact rfl; exact rfl) | (apply ef_bin; (iterate 3 exact rfl); (exact cmp_f rfl (by simp only [cmpP]; omega))) | (apply ef_len; exact rfl; exact rfl; (exact rfl)) | (apply ef_ldp; exact rfl; exact rfl; (exact rfl); exact rfl; (exact rfl); (exact rd_2 rfl rfl)) | apply ef_nil | apply seqQ.normal | apply loopQ.exit | apply ef_exit | apply seqQ.exit | apply blockQ.here | (apply ef_condf; exact rfl; (exact (rfl : false = false))))
    (apply ef_call; (· exact rfl); (· ((repeat (apply XVs.cons; exact rfl)); exact XVs.nil)); · exact W23.out _ _ (frz_row (o := ⟨n.ls.length, decide (n.ls.length = 0), 1, (upQ n).map I64⟩) rfl rfl (by simp [hulen]) (ltL_I 0 _) rfl))
    repeat (first | (apply ef_mv; exact rfl; exact rfl) | (apply ef_bin; (iterate 3 exact rfl); (exact cmp_f rfl (by simp only [cmpP]; omega))) | (apply ef_gy; exact rfl; (exact (rfl : false = false))) | (apply ef_ldp; exact rfl; exact rfl; (exact rfl); exact rfl; (exact rfl); (exact rd_2 rfl rfl)))
    (apply ef_call; (· exact rfl); (· ((repeat (apply XVs.cons; exact rfl)); exact XVs.nil)); · exact W25.out _ _ (frz_row (o := ⟨n.ls.length, decide (n.ls.length = 0), 1, (upQ n).map I64⟩) rfl rfl (by simp [hulen]) (ltL_I 0 _) rfl))
    repeat (first | apply ef_seq | (apply ef_mv; exact rfl; exact rfl) | (apply ef_bin; (iterate 3 exact rfl); (exact cmp_f rfl (by simp only [cmpP]; omega))) | (apply ef_gy; exact rfl; (exact (rfl : false = false))) | (apply ef_pick; (iterate 3 exact rfl)) | apply ef_nil | apply seqQ.normal | apply ef_block | apply ef_skip | (apply ef_condf; exact rfl; (exact (rfl : false = false))))
    refine ef_loopf (α := Nat) (fun i => 1 ≤ i ∧ i ≤ n.ls.length) (fun i => [(25, I64 (i : Int))]) [(20, .arr 7 0 n.ls.length 0), (23, .arr 8 0 n.ls.length n.ls.length), (3, .ptr 0 0 0 0), (8, I64 mc)] (fun _ => noH n c fl ++ [⟨n.ls.length, decide (n.ls.length = 0), 1, (upQ n).map I64⟩]) (fun i => n.ls.length - i) 1 [25] (fun _ => rfl) (by ((repeat (refine Hold.cons (by exact rfl) ?_)); exact Hold.nil)) (by ((repeat (refine Hold.cons (by exact rfl) ?_)); exact Hold.nil)) rfl rfl ⟨by omega, by omega⟩ (by show n.ls.length - 1 < 4000000; omega) ?_
    rintro i ⟨hi1, hi⟩
    try simp only
    by_cases hlt : i < n.ls.length
    ·have hm := HM.out i hi1 hlt
     have w26 := W24.out _ (HO.out i hlt)
     obtain ⟨hq, hb1, hb2⟩ := HB.out i hlt
     rw [hq] at hb1 hb2
     have e3 : ((upQ n).map I64)[0 + ((i : Nat) : Int).toNat]? = some (I64 (upP n (i : Nat))) := by rw [Nat.zero_add, ← hq]; exact cAt_at hulen (by omega) (by omega)
     have hse : (((upQ n).map I64).set (0 + ((i : Nat) : Int).toNat) (I64 (upP n (i : Nat) + 1))) = ((upQ n).set i (upP n (i : Nat) + 1)).map I64 := by rw [Nat.zero_add, Int.toNat_natCast, List.map_set]
     have hsl : ((upQ n).set i (upP n (i : Nat) + 1)).length = n.ls.length := by simp [hulen]
     generalize hY : (upQ n).set i (upP n (i : Nat) + 1) = Y at *
     generalize costL n Y = cy at *
     generalize upP n (i : Nat) = up at *
     repeat (first | apply ef_seq | (apply ef_mv; exact rfl; exact rfl) | (apply ef_bin; (iterate 3 exact rfl); (exact cmp_t rfl (by first | exact rfl | (simp only [cmpP]; omega)))) | (apply ef_len; exact rfl; exact rfl; (exact rfl)) | apply ef_nil | apply seqQ.normal | apply ef_block | apply ef_skip | (apply ef_condt; exact rfl; (exact (rfl : true = true))))
     (apply ef_call; (· exact rfl); (· ((repeat (apply XVs.cons; exact rfl)); exact XVs.nil)); · exact W10.out (upQ n) (by omega) _ _ (frz_row (o := ⟨n.ls.length, decide (n.ls.length = 0), 1, (upQ n).map I64⟩) rfl rfl (by simp [hulen]) (ltL_I 0 _) rfl))
     repeat (first | apply ef_seq | (apply ef_mv; exact rfl; exact rfl) | (apply ef_bin; (iterate 3 exact rfl); (((with_reducible refine bin_add (wrap_of ?_ ?_)) <;> omega))) | (apply ef_ldp; exact rfl; exact rfl; (exact rfl); exact rfl; (first | exact rfl | assumption); (first | exact rd_2 rfl rfl | exact rfl)) | (apply ef_iaa; (iterate 3 exact rfl); (omega); (omega); (exact rfl)) | (apply ef_st; (iterate 6 exact rfl); (assumption); exact rfl) | apply ef_nil | apply seqQ.normal)
     (apply ef_call; (· exact rfl); (· ((repeat (apply XVs.cons; exact rfl)); exact XVs.nil)); · exact w26 _ _ (frz_row (o := ⟨0, false, 1, ((upQ n).map I64).set (0 + ((i : Nat) : Int).toNat) (I64 (up + 1))⟩) rfl rfl (by simp [hulen, hsl]) (ltL_I 0 _) hse))
     repeat (first | (apply ef_mv; exact rfl; exact rfl) | (apply ef_bin; (iterate 3 exact rfl); (first | exact cmp_f rfl (by simp only [cmpP]; omega) | ((with_reducible refine bin_add (wrap_of ?_ ?_)) <;> omega))) | apply ef_nil | apply seqQ.normal | apply blockQ.normal | apply ef_skip | (apply ef_condf; exact rfl; (exact (rfl : false = false))))
     (refine loopQ.normal _ _ ⟨i + 1, ⟨by omega, hlt⟩, (by first | (simp only; omega) | omega), ⟨by ((repeat (refine Hold.cons (by exact rfl) ?_)); exact Hold.nil), by ((repeat (refine Hold.cons (by exact rfl) ?_)); exact Hold.nil)⟩, .inr ⟨by ((repeat (refine hdl_cons rfl (by first | rfl | (simp [MV.lt, ltL, ltL_I, ltL_Ln, ltL_Cr, ltL_R])) ?_)); exact hdl_nil), by first | rfl | (simp [hltL, ltL, MV.lt, ltL, ltL_I, ltL_Ln, ltL_Cr, ltL_R])⟩, by first | exact rfl | (simp only [List.map_append, List.map_set]; exact rfl)⟩)
    ·repeat (first | apply ef_seq | (apply ef_mv; exact rfl; exact rfl) | (apply ef_bin; (iterate 3 exact rfl); (exact cmp_f rfl (by simp only [cmpP]; omega))) | (apply ef_len; exact rfl; exact rfl; (exact rfl)) | apply ef_nil | apply seqQ.normal | apply loopQ.exit | apply ef_ret | apply ef_exit | apply seqQ.exit | apply blockQ.here | (apply ef_condf; exact rfl; (exact (rfl : false = false))))
     (refine fin1 rfl (by exact rfl) rfl ?_)
     rfl
end Go.Proofs.YtbdleggmdbihnaaGreat
