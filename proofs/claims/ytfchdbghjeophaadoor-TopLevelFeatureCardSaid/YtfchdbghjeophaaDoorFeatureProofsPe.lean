/- TopLevelFeature: the walk. -/
import Derived.Test.YtfchdbghjeophaaDoorFeatureProofsPd
/- The flow of a net: the walk. -/
namespace Go.Proofs.YtfchdbghjeophaaDoor
open Go.RowKit
set_option linter.unusedVariables false
set_option linter.unusedSimpArgs false
theorem upL_mem : ∀ (m : Nat), ∀ v ∈ upL m, 0 ≤ v ∧ v < (m : Int)
 | 0, v, h => by simp [upL] at h
 | m + 1, v, h => by
  rw [upL, List.mem_append, List.mem_singleton] at h
  rcases h with h | rfl
  ·have := upL_mem m v h; omega
  ·omega
theorem lg_out {m : Nat} {ar : List Ac} {B : Int} {fs : List Int} (hB : 0 ≤ B) (hO : ∀ a ∈ ar, OkA m B a) :
  (lgC ar m fs = [] ∧ (∃ q t, q < m + 1 ∧ LgI ar m B (srcL m fs) q ar.length t (lgS ar m fs).1) ∧ ∀ a ∈ ar, cAt (lgS ar m fs).1.L a.fr > -549755813888 → cAt (lgS ar m fs).1.L a.fr + a.ln ≤ cAt (lgS ar m fs).1.L a.tv) ∨
  (∃ P c p, lgC ar m fs = cycL ar P c p ∧ CycOk ar m P c p) := by
 have hinit : LgI ar m B (srcL m fs) 0 0 (fun _ => 0) ⟨srcL m fs, List.replicate m 0, -1⟩ := LgI.init (srcU_len m fs fs.length) (srcU_bd m fs fs.length)
 obtain ⟨g1, g2⟩ := lgR_ok hB hO (m + 1) 0 _ ⟨srcL m fs, List.replicate m 0, -1⟩ hinit
 cases h : (lgS ar m fs).2
 ·obtain ⟨t, a1, a2⟩ := g2 h (by omega)
  rw [show 0 + (m + 1) - 1 = m by omega] at a1
  refine .inr ⟨_, _, _, ?_, cyc_ok a1 hO a2⟩
  unfold lgC; rw [h]; rfl
 ·obtain ⟨q, t, hq, a1, a2⟩ := g1 h
  refine .inl ⟨?_, ⟨q, t, by omega, a1⟩, a2⟩
  unfold lgC; rw [h]; rfl
abbrev flC (n : Nt) (fl : List Int) : List Ac := lgC (arcsU n.cs fl n.cs.length) n.ls.length (upL n.ls.length)
def flF (n : Nt) : Nat → List Int → List Int
 | 0, fl => fl
 | f + 1, fl => if flC n fl = [] then fl else flF n f (chgL (minB n fl (flC n fl)) fl (flC n fl))
theorem FlOk.bd10 {n : Nt} (ok : OkN n) {fl : List Int} (h : FlOk n fl) : ∀ z ∈ fl, -10 ≤ z ∧ z ≤ 10 := fun z hz => by
 obtain ⟨i, hi, rfl⟩ := List.getElem_of_mem hz
 have hl := h.len
 have h1 := h.bd i (by omega)
 have h2 := (ok.rg n.cs[i] (List.getElem_mem (by omega))).wt
 have e : cAt fl (i : Int) = fl[i] := by unfold cAt; rw [Int.toNat_natCast, List.getD_eq_getElem?_getD, List.getElem?_eq_getElem hi]; rfl
 omega
theorem cAt_zer (m : Nat) (v : Int) : cAt (List.replicate m (0 : Int)) v = 0 := by
 unfold cAt
 rw [List.getD_eq_getElem?_getD, List.getElem?_replicate]
 split <;> rfl
theorem att_zero (x : Cr) (v : Int) : att x v 0 = 0 := by unfold att; simp
theorem fl_zero {n : Nt} (ok : OkN n) : FlOk n (List.replicate n.cs.length 0) := by
 refine ⟨by simp, fun i h => ?_, fun v => ?_⟩
 ·rw [cAt_zer]
  have := (ok.rg n.cs[i] (List.getElem_mem h)).wt
  omega
 ·have : ∀ i, sumV n.cs (List.replicate n.cs.length 0) v i = 0 := fun i => by
   induction i with
   | zero => rfl
   | succ i ih => rw [sumV, ih, cAt_zer, att_zero]; rfl
  exact this _
theorem val_zero (n : Nt) : ∀ i, valU n.cs (List.replicate n.cs.length 0) i = 0
 | 0 => rfl
 | i + 1 => by rw [valU, val_zero n i, cAt_zer]; simp
theorem arcsU_len16 {n : Nt} (ok : OkN n) (fl : List Int) : (arcsU n.cs fl n.cs.length).length ≤ 64 := by
 have := arcsU_len n.cs fl n.cs.length
 have := ok.c16
 omega
theorem fl_step {n : Nt} (ok : OkN n) {fl : List Int} (hf : FlOk n fl) (hC : flC n fl ≠ []) : FlOk n (chgL (minB n fl (flC n fl)) fl (flC n fl)) ∧ valU n.cs fl n.cs.length < valU n.cs (chgL (minB n fl (flC n fl)) fl (flC n fl)) n.cs.length := by
 rcases lg_out (m := n.ls.length) (fs := upL n.ls.length) (show (0 : Int) ≤ 10000 by omega) (fun a ha => (arcsU_ok (fl := fl) n.cs.length (Nat.le_refl _) a ha).okA ok) with ⟨h, -⟩ | ⟨P, c, p, h, H⟩
 ·exact absurd h hC
 ·rw [show flC n fl = _ from h]
  exact chg_fl ok hf H
theorem fl_val {n : Nt} (ok : OkN n) {fl : List Int} (hf : FlOk n fl) : valU n.cs fl n.cs.length ≤ 1600000 := by
 have h1 := (valU_bd ok (hf.bd10 ok) n.cs.length (Nat.le_refl _)).2
 have := ok.c16
 omega
theorem flF_ok {n : Nt} (ok : OkN n) : ∀ (f : Nat) (fl : List Int), FlOk n fl → (2000000 - valU n.cs fl n.cs.length).toNat < f → FlOk n (flF n f fl) ∧ flC n (flF n f fl) = []
 | 0, fl, hf, h => by omega
 | f + 1, fl, hf, h => by
  unfold flF
  split
  ·rename_i hC; exact ⟨hf, hC⟩
  ·rename_i hC
   obtain ⟨h1, h2⟩ := fl_step ok hf hC
   have := fl_val ok h1
   exact flF_ok ok f _ h1 (by omega)
abbrev flZ (n : Nt) : List Int := flF n 4000000 (List.replicate n.cs.length 0)
theorem flZ_ok {n : Nt} (ok : OkN n) : FlOk n (flZ n) ∧ flC n (flZ n) = [] := flF_ok ok _ _ (fl_zero ok) (by rw [val_zero]; simp)
theorem cyc_at {C : List Ac} {ar : List Ac} {P : List Int} {c : Int} {p j : Nat} (hC : C = cycL ar P c p) (hj : j < p) : (C.map encA)[0 + ((j : Nat) : Int).toNat]? = some (encA (arcP ar P (bkN ar P j c))) := by
 rw [hC, Nat.zero_add, Int.toNat_natCast, List.getElem?_map]
 unfold cycL
 rw [List.getElem?_map, List.getElem?_range hj]; rfl
abbrev flH (n : Nt) (rs : List MV) : MHeap := [⟨0, false, 2, [encN n]⟩, ⟨0, true, 1, []⟩, ⟨0, false, 1, rs⟩]
abbrev flH2 (n : Nt) (fl : List Int) (rs : List MV) (C : List Ac) (p : Nat) : MHeap := flH n rs ++ [⟨0, decide ((arcsU n.cs fl n.cs.length).length = 0), 5, (arcsU n.cs fl n.cs.length).map encA⟩, ⟨0, decide (n.ls.length = 0), 1, (upL n.ls.length).map I64⟩, ⟨0, false, 1, (lgS (arcsU n.cs fl n.cs.length) n.ls.length (upL n.ls.length)).1.L.map I64⟩, ⟨0, decide (p + 1 = 0), 5, C.map encA⟩]
theorem cr_at {n : Nt} {a : Ac} (h0 : 0 ≤ a.cr) (h1 : a.cr < (n.cs.length : Int)) : (n.cs.map encCr)[a.cr.toNat]? = some (encCr (n.cs.getD a.cr.toNat default)) := by
 have h : a.cr.toNat < n.cs.length := by omega
 rw [List.getElem?_map, List.getD_eq_getElem?_getD, List.getElem?_eq_getElem h]; rfl
theorem min_snoc (n : Nt) (fl : List Int) (b : Int) (C : List Ac) (a : Ac) : (C ++ [a]).foldl (minA n fl) b = min (C.foldl (minA n fl) b) ((n.cs.getD a.cr.toNat default).wt - a.sg * cAt fl a.cr) := by rw [List.foldl_append]; rfl
theorem mn_min (a b : Int) : mn a b = min a b := by unfold mn; omega
theorem mf_flow : MT.mf 32 = some mfW_l32 := mfW_q32
set_option maxHeartbeats 4000000 in
theorem flow_z (k : Nat) (n : Nt) (ok : OkN n) :
  runZ MT (orA (k + 5)) (itA (k + 5)) 4000000 32 [encN n] [] = some (.arr 0 0 n.cs.length 0, [⟨0, false, 1, (flZ n).map I64⟩]) := by
 have hs1 : (MV.sl (n.ls.map encLn)).slen = some n.ls.length := by simp [MV.slen]
 have hs2 : (MV.sl (n.cs.map encCr)).slen = some n.cs.length := by simp [MV.slen]
 have l1 := ok.l1
 have l8 := ok.l8
 have c16 := ok.c16
 have w1 := fun h => all_c (k + 4) n (by omega) h
 refine runZ_of mf_flow (by simp) ?_
 simp only [argsL]
 repeat (first | apply ef_seq | (apply ef_mv; exact rfl; exact rfl) | (apply ef_len; exact rfl; exact rfl; (assumption)) | (apply ef_ldp; exact rfl; exact rfl; (exact rfl); exact rfl; (exact rfl); (exact rfl)) | (apply ef_fap; exact rfl; exact rfl) | (apply ef_box; (iterate 4 exact rfl)) | (apply ef_nil0; exact rfl) | (apply ef_mks; exact rfl; exact rfl; (omega); (omega)) | apply ef_nil | apply seqQ.normal | apply ef_block)
 refine ef_loopf (α := Nat × List Int × List MV) (fun p => p.2.2 = p.2.1.map I64 ∧ FlOk n p.2.1 ∧ flZ n = flF n p.1 p.2.1 ∧ (2000000 - valU n.cs p.2.1 n.cs.length).toNat < p.1) (fun _ => []) [(1, .ptr 0 0 0 0), (3, .arr 2 0 n.cs.length 0)] (fun p => flH n p.2.2) (fun p => (2000000 - valU n.cs p.2.1 n.cs.length).toNat) (4000000, List.replicate n.cs.length 0, List.replicate n.cs.length (I64 0)) [] (fun _ => rfl) (by ((repeat (refine Hold.cons (by exact rfl) ?_)); exact Hold.nil)) (by ((repeat (refine Hold.cons (by exact rfl) ?_)); exact Hold.nil)) rfl rfl ⟨by simp, fl_zero ok, rfl, by rw [val_zero]; simp⟩ (by rw [val_zero]; simp) ?_
 rintro ⟨f, fl, rs⟩ ⟨hrs, hf, hZ, hm⟩
 try simp only at hrs hf hZ hm ⊢
 have hlr : ∀ j, ltL j rs = true := fun j => by rw [hrs]; exact ltL_I j _
 have hlen := hf.len
 obtain ⟨f, rfl⟩ : ∃ g, f = g + 1 := ⟨f - 1, by omega⟩
 rw [flF] at hZ
 have hout := lg_out (m := n.ls.length) (fs := upL n.ls.length) (show (0 : Int) ≤ 10000 by omega) (fun a ha => (arcsU_ok (fl := fl) n.cs.length (Nat.le_refl _) a ha).okA ok)
 have w2 := fun h v w hv hw => longest_c k n.ls.length l1 l8 (arcsU n.cs fl n.cs.length) 10000 (by omega) (by omega) (fun a ha => (arcsU_ok (fl := fl) n.cs.length (Nat.le_refl _) a ha).okA ok) (arcsU_len16 ok fl) (upL n.ls.length) (upL_mem _) (by rw [upL_len]; omega) h (v := v) (w := w) hv hw
 rcases hout with ⟨hC, -⟩ | ⟨P, c, p, hC, H⟩
 ·have hZ2 : flZ n = fl := by rw [hZ, show flC n fl = [] from hC, if_pos rfl]
  rw [hC] at w2
  repeat (first | apply ef_seq | (apply ef_mv; exact rfl; exact rfl) | (apply ef_len; exact rfl; exact rfl; (assumption)) | (apply ef_ldp; exact rfl; exact rfl; (exact rfl); exact rfl; (exact rfl); (first | exact rd_2 rfl rfl | exact rfl)) | (apply ef_fap; exact rfl; exact rfl) | apply ef_block)
  (apply ef_call; (· exact rfl); (· ((repeat (apply XVs.cons; exact rfl)); exact XVs.nil)); · exact arcs_c (k + 4) n ok fl hlen _ (frz_row (o := ⟨0, false, 1, rs⟩) rfl rfl (by simp [hlen]) (by rw [← hrs]; exact hlr 0) hrs))
  repeat (first | (apply ef_ldp; exact rfl; exact rfl; (exact rfl); exact rfl; (exact rfl); (exact rd_2 rfl rfl)) | (apply ef_call; exact rfl; ((repeat (apply XVs.cons; exact rfl)); exact XVs.nil); (with_reducible exact w1 _)))
  (apply ef_call; (· exact rfl); (· ((repeat (apply XVs.cons; exact rfl)); exact XVs.nil)); · exact w2 _ _ _ (frz_row (o := ⟨0, decide ((arcsU n.cs fl n.cs.length).length = 0), 5, (arcsU n.cs fl n.cs.length).map encA⟩) rfl rfl (by simp) (ltL_A 0 _) rfl) (frz_row (o := ⟨0, decide (n.ls.length = 0), 1, (upL n.ls.length).map I64⟩) rfl rfl (by simp [upL_len]) (ltL_I 0 _) rfl))
  repeat (first | apply ef_seq | (apply ef_mv; exact rfl; exact rfl) | (apply ef_ext; (iterate 3 exact rfl)) | apply ef_nil | apply seqQ.normal)
  refine ef_eqna (ht := by exact rfl) (by exact rfl) (by exact rfl) (by exact rfl) (by exact Nat.le_refl _) ?_
  repeat (first | apply ef_seq | (apply ef_mv; exact rfl; exact rfl) | apply ef_nil | apply seqQ.normal | apply loopQ.ret | apply ef_ret | apply seqQ.ret | apply blockQ.ret | (apply ef_condt; exact rfl; (exact (rfl : true = true))))
  (apply fin_arr; (· exact rfl); (· exact rfl); (· exact rfl); (· exact rfl); (· (show 0 + _ ≤ rs.length; rw [hrs]; simp [hlen])); (· (exact hlr 0)); (· (show (rs.drop 0).take _ = _; rw [hZ2, List.drop_zero, List.take_of_length_le (by rw [hrs]; simp [hlen]), hrs])); (· exact rfl); (· exact rfl); (· rfl))
 ·have hp0 := H.p0
  have hpm := H.pm
  have hCl : (lgC (arcsU n.cs fl n.cs.length) n.ls.length (upL n.ls.length)).length = p := by rw [hC, cycL_len]
  obtain ⟨p, rfl⟩ : ∃ q, p = q + 1 := ⟨p - 1, by omega⟩
  have hCn : flC n fl ≠ [] := fun e => by
   rw [show flC n fl = lgC (arcsU n.cs fl n.cs.length) n.ls.length (upL n.ls.length) from rfl] at e
   rw [e] at hCl; cases hCl
  rw [if_neg hCn] at hZ
  obtain ⟨hf2, hv2⟩ := fl_step ok hf hCn
  have hv3 := fl_val ok hf2
  rw [hCl] at w2
  obtain ⟨C, hCd⟩ : ∃ C, lgC (arcsU n.cs fl n.cs.length) n.ls.length (upL n.ls.length) = C := ⟨_, rfl⟩
  rw [hCd] at w2 hC hCl
  rw [show flC n fl = C from hCd] at hZ hf2 hv2 hv3
  have hlt2 : ∀ j, ltL j ((lgS (arcsU n.cs fl n.cs.length) n.ls.length (upL n.ls.length)).1.L.map I64) = true := fun j => ltL_I j _
  have hAr : ∀ i, i < p + 1 → ArcOk n fl (arcP (arcsU n.cs fl n.cs.length) P (bkN (arcsU n.cs fl n.cs.length) P i c)) := fun i hi => arcsU_ok _ (Nat.le_refl _) _ (H.inn i hi).2.1
  repeat (first | apply ef_seq | (apply ef_mv; exact rfl; exact rfl) | (apply ef_len; exact rfl; exact rfl; (assumption)) | (apply ef_ldp; exact rfl; exact rfl; (exact rfl); exact rfl; (exact rfl); (first | exact rd_2 rfl rfl | exact rfl)) | (apply ef_fap; exact rfl; exact rfl) | apply ef_block)
  (apply ef_call; (· exact rfl); (· ((repeat (apply XVs.cons; exact rfl)); exact XVs.nil)); · exact arcs_c (k + 4) n ok fl hlen _ (frz_row (o := ⟨0, false, 1, rs⟩) rfl rfl (by simp [hlen]) (by rw [← hrs]; exact hlr 0) hrs))
  repeat (first | (apply ef_ldp; exact rfl; exact rfl; (exact rfl); exact rfl; (exact rfl); (exact rd_2 rfl rfl)) | (apply ef_call; exact rfl; ((repeat (apply XVs.cons; exact rfl)); exact XVs.nil); (with_reducible exact w1 _)))
  (apply ef_call; (· exact rfl); (· ((repeat (apply XVs.cons; exact rfl)); exact XVs.nil)); · exact w2 _ _ _ (frz_row (o := ⟨0, decide ((arcsU n.cs fl n.cs.length).length = 0), 5, (arcsU n.cs fl n.cs.length).map encA⟩) rfl rfl (by simp) (ltL_A 0 _) rfl) (frz_row (o := ⟨0, decide (n.ls.length = 0), 1, (upL n.ls.length).map I64⟩) rfl rfl (by simp [upL_len]) (ltL_I 0 _) rfl))
  repeat (first | apply ef_seq | (apply ef_mv; exact rfl; exact rfl) | (apply ef_ext; (iterate 3 exact rfl)) | apply ef_nil | apply seqQ.normal)
  refine ef_eqna (ht := by exact rfl) (by exact rfl) (by exact rfl) (by exact rfl) (by show 0 + (p + 1) ≤ (List.map encA C).length; simp [hCl]) ?_
  repeat (first | apply ef_seq | (apply ef_mv; exact rfl; exact rfl) | (apply ef_len; exact rfl; exact rfl; (exact rfl)) | apply ef_nil | apply seqQ.normal | apply ef_block | apply ef_skip | (apply ef_condf; exact rfl; (exact (rfl : false = false))))
  refine ef_loopf (α := Nat × Int) (fun q => q.1 ≤ p + 1 ∧ q.2 = (cycL (arcsU n.cs fl n.cs.length) P c q.1).foldl (minA n fl) 20) (fun q => [(34, I64 (q.1 : Int)), (6, I64 q.2)]) [(33, I64 ((p + 1 : Nat) : Int)), (32, .arr 6 0 (p + 1) 0), (1, .ptr 0 0 0 0), (3, .arr 2 0 n.cs.length 0), (5, .arr 6 0 (p + 1) 0)] (fun _ => flH2 n fl rs C p) (fun q => p + 1 - q.1) (0, 20) [34, 6] (fun _ => rfl) (by ((repeat (refine Hold.cons (by exact rfl) ?_)); exact Hold.nil)) (by ((repeat (refine Hold.cons (by exact rfl) ?_)); exact Hold.nil)) rfl rfl ⟨by omega, rfl⟩ (by simp; omega) ?_
  rintro ⟨j, b⟩ ⟨hj, hb⟩
  try simp only at hj hb ⊢
  by_cases hlj : j < p + 1
  ·have e1 := cyc_at hC hlj
   have ha := hAr j hlj
   have hmb := min_ok n fl (cycL (arcsU n.cs fl n.cs.length) P c j) 20 (fun a ha => by
    obtain ⟨i, hi, rfl⟩ := List.mem_map.1 ha
    exact hAr i (by have : i < j := by simpa using hi
                    omega)) (by omega) (by omega)
   obtain ⟨mb1, mb2, -⟩ := hmb
   rw [← hb] at mb1 mb2
   have HN := Lib.hid (show (cycL (arcsU n.cs fl n.cs.length) P c (j + 1)).foldl (minA n fl) 20 = min ((cycL (arcsU n.cs fl n.cs.length) P c j).foldl (minA n fl) 20) ((n.cs.getD (arcP (arcsU n.cs fl n.cs.length) P (bkN (arcsU n.cs fl n.cs.length) P j c)).cr.toNat default).wt - (arcP (arcsU n.cs fl n.cs.length) P (bkN (arcsU n.cs fl n.cs.length) P j c)).sg * cAt fl (arcP (arcsU n.cs fl n.cs.length) P (bkN (arcsU n.cs fl n.cs.length) P j c)).cr) by rw [cyc_snoc, min_snoc])
   generalize arcP (arcsU n.cs fl n.cs.length) P (bkN (arcsU n.cs fl n.cs.length) P j c) = a at e1 ha HN
   have a0 := ha.c0
   have a1 := ha.c1
   have e2 := cr_at a0 a1
   have e3 := lit_at hrs hlen a0 a1
   have hx := ok.rg _ (getD_mem a0 a1)
   have hfb := hf.bd a.cr.toNat (by omega)
   rw [show ((a.cr.toNat : Nat) : Int) = a.cr by omega] at hfb
   have hget : n.cs[a.cr.toNat] = n.cs.getD a.cr.toNat default := by rw [List.getD_eq_getElem?_getD, List.getElem?_eq_getElem (show a.cr.toNat < n.cs.length by omega)]; rfl
   rw [hget] at hfb
   have hsg : a.sg = 1 ∨ a.sg = -1 := by rcases ha.dir with ⟨s, -⟩ | ⟨s, -⟩ <;> omega
   generalize n.cs.getD a.cr.toNat default = x at e2 hx HN hfb
   have hw := hx.wt
   generalize cAt fl a.cr = g at e3 HN hfb
   have m1 := mul_w (a := a.sg) (b := g) 1 10 (by omega) (by omega) (by omega) (by omega) (by omega)
   have m2 := mul_bd (a := a.sg) (b := g) (A := 1) (B := 10) (by omega) (by omega) (by omega) (by omega)
   repeat (first | apply ef_seq | (apply ef_mv; exact rfl; exact rfl) | (apply ef_bin; (iterate 3 exact rfl); (first | exact cmp_t rfl (by first | exact rfl | (simp only [cmpP]; omega)) | ((with_reducible refine bin_add (wrap_of ?_ ?_)) <;> omega) | ((with_reducible refine bin_sub (wrap_of ?_ ?_)) <;> omega) | ((with_reducible refine bin_mul (wrap_of ?_ ?_)) <;> omega))) | (apply ef_ldr; exact rfl; exact rfl; (exact rfl)) | (apply ef_ldp; exact rfl; exact rfl; (exact rfl); exact rfl; (first | exact rfl | assumption); (first | exact rd_5 rfl rfl rfl rfl rfl | exact rfl)) | (apply ef_ias; (iterate 3 exact rfl); (omega); assumption; exact rfl) | (apply ef_iaa; (iterate 3 exact rfl); (omega); (omega); (exact rfl)) | (apply ef_fap; exact rfl; exact rfl) | (apply ef_far; exact rfl; exact rfl) | (apply ef_mn; (iterate 3 exact rfl)) | (apply ef_new; exact rfl) | (apply ef_st; (iterate 6 exact rfl); (exact rfl); exact rfl) | apply ef_nil | apply seqQ.normal | apply blockQ.normal | apply ef_block | apply ef_skip | (apply ef_condt; exact rfl; (exact (rfl : true = true))))
   (refine loopQ.normal _ _ ⟨(j + 1, mn b (x.wt - a.sg * g)), ⟨hlj, by rw [HN.out, hb]; exact mn_min _ _⟩, (by first | (simp only; omega) | omega), ⟨by ((repeat (refine Hold.cons (by exact rfl) ?_)); exact Hold.nil), by ((repeat (refine Hold.cons (by exact rfl) ?_)); exact Hold.nil)⟩, .inr ⟨by ((repeat (refine hdl_cons rfl (by first | rfl | (simp [MV.lt, ltL, ltL_A, ltL_I, ltL_Ln, ltL_Cr, hlr, hlt2, splice, MV.cells])) ?_)); exact hdl_nil), by (simp [hltL, ltL, MV.lt, ltL, ltL_A, ltL_I, ltL_Ln, ltL_Cr, hlr, hlt2, splice, MV.cells])⟩, by exact rfl⟩)
  ·obtain rfl : j = p + 1 := by omega
   have hmb := min_ok n fl C 20 (fun a ha => by
    rw [hC] at ha
    obtain ⟨i, hi, rfl⟩ := List.mem_map.1 ha
    exact hAr i (by simpa using hi)) (by omega) (by omega)
   obtain ⟨mb1, mb2, -⟩ := hmb
   rw [← hC] at hb
   rw [← hb] at mb1 mb2
   rw [show minB n fl C = b from hb.symm] at hZ hf2 hv2 hv3
   repeat (first | apply ef_seq | (apply ef_mv; exact rfl; exact rfl) | (apply ef_bin; (iterate 3 exact rfl); (exact cmp_f rfl (by simp only [cmpP]; omega))) | (apply ef_len; exact rfl; exact rfl; (exact rfl)) | apply ef_nil | apply seqQ.normal | apply loopQ.exit | apply ef_exit | apply seqQ.exit | apply blockQ.here | apply ef_block | (apply ef_condf; exact rfl; (exact (rfl : false = false))))
   refine ef_loopf (α := Nat × List Int × List MV) (fun q => q.1 ≤ p + 1 ∧ q.2.1 = chgL b fl (cycL (arcsU n.cs fl n.cs.length) P c q.1) ∧ q.2.2 = q.2.1.map I64) (fun q => [(60, I64 (q.1 : Int))]) [(59, I64 ((p + 1 : Nat) : Int)), (58, .arr 6 0 (p + 1) 0), (3, .arr 2 0 n.cs.length 0), (6, I64 b), (1, .ptr 0 0 0 0)] (fun q => flH2 n fl q.2.2 C p) (fun q => p + 1 - q.1) (0, fl, rs) [60] (fun _ => rfl) (by ((repeat (refine Hold.cons (by exact rfl) ?_)); exact Hold.nil)) (by ((repeat (refine Hold.cons (by exact rfl) ?_)); exact Hold.nil)) rfl rfl ⟨by omega, rfl, hrs⟩ (by simp; omega) ?_
   rintro ⟨i, F, us⟩ ⟨hi, hF, hus⟩
   try simp only at hi hF hus ⊢
   have hFl : F.length = n.cs.length := by rw [hF, chgL_len, hlen]
   have hlu : ∀ j, ltL j us = true := fun j => by rw [hus]; exact ltL_I j _
   by_cases hli : i < p + 1
   ·have e1 := cyc_at hC hli
    have ha := hAr i hli
    obtain ⟨g1, -, -⟩ := chg_ok ok hlen H b i hi
    obtain ⟨d1, -, -⟩ := dlP_ok H (arcP (arcsU n.cs fl n.cs.length) P (bkN (arcsU n.cs fl n.cs.length) P i c)).cr i hi
    have HN := Lib.hid (show chgL b fl (cycL (arcsU n.cs fl n.cs.length) P c (i + 1)) = chgA b (chgL b fl (cycL (arcsU n.cs fl n.cs.length) P c i)) (arcP (arcsU n.cs fl n.cs.length) P (bkN (arcsU n.cs fl n.cs.length) P i c)) by rw [cyc_snoc, chg_snoc])
    rw [← hF] at g1 HN
    generalize arcP (arcsU n.cs fl n.cs.length) P (bkN (arcsU n.cs fl n.cs.length) P i c) = a at e1 ha HN d1
    have a0 := ha.c0
    have a1 := ha.c1
    have e3 := lit_at hus hFl a0 a1
    have g2 := g1 a.cr.toNat (by omega)
    have hx := ok.rg _ (getD_mem a0 a1)
    have hw := hx.wt
    have hfb := hf.bd a.cr.toNat (by omega)
    have hw2 := (ok.rg n.cs[a.cr.toNat] (List.getElem_mem (by omega))).wt
    rw [show ((a.cr.toNat : Nat) : Int) = a.cr by omega] at hfb g2
    have hsg : a.sg = 1 ∨ a.sg = -1 := by rcases ha.dir with ⟨s, -⟩ | ⟨s, -⟩ <;> omega
    have m0 := mul_bd (a := dlP (arcsU n.cs fl n.cs.length) P c a.cr i) (b := b) (A := 1) (B := 20) (by omega) (by omega) (by omega) (by omega)
    have m1 := mul_w (a := a.sg) (b := b) 1 20 (by omega) (by omega) (by omega) (by omega) (by omega)
    have m2 := mul_bd (a := a.sg) (b := b) (A := 1) (B := 20) (by omega) (by omega) (by omega) (by omega)
    have g3 : -40 ≤ cAt F a.cr ∧ cAt F a.cr ≤ 40 := by omega
    clear g1 g2 m0 d1
    have hls : ∀ (j i : Nat) (x : Int), ltL j (us.set i (I64 x)) = true := fun j i x => ltL_set (hlu j) rfl
    repeat (first | apply ef_seq | (apply ef_mv; exact rfl; exact rfl) | (apply ef_bin; (iterate 3 exact rfl); (first | exact cmp_t rfl (by first | exact rfl | (simp only [cmpP]; omega)) | ((with_reducible refine bin_add (wrap_of ?_ ?_)) <;> omega) | ((with_reducible refine bin_mul (wrap_of ?_ ?_)) <;> omega))) | (apply ef_ldp; exact rfl; exact rfl; (exact rfl); exact rfl; (first | exact rfl | assumption); (first | exact rd_5 rfl rfl rfl rfl rfl | exact rfl)) | (apply ef_iaa; (iterate 3 exact rfl); (omega); (omega); (exact rfl)) | (apply ef_fap; exact rfl; exact rfl) | (apply ef_new; exact rfl) | (apply ef_st; (iterate 6 exact rfl); (first | exact rfl | assumption); exact rfl) | apply ef_nil | apply seqQ.normal | apply blockQ.normal | apply ef_block | apply ef_skip | (apply ef_condt; exact rfl; (exact (rfl : true = true))))
    (refine loopQ.normal _ _ ⟨(i + 1, chgA b F a, us.set (0 + a.cr.toNat) (I64 (cAt F a.cr + a.sg * b))), ⟨hli, HN.out.symm, by rw [hus, Nat.zero_add]; unfold chgA; rw [List.map_set]⟩, (by first | (simp only; omega) | omega), ⟨by ((repeat (refine Hold.cons (by exact rfl) ?_)); exact Hold.nil), by ((repeat (refine Hold.cons (by exact rfl) ?_)); exact Hold.nil)⟩, .inr ⟨by ((repeat (refine hdl_cons rfl (by first | rfl | (simp [MV.lt, ltL, ltL_A, ltL_I, ltL_Ln, ltL_Cr, hls, hlt2, splice, MV.cells])) ?_)); exact hdl_nil), by (simp [hltL, ltL, MV.lt, ltL, ltL_A, ltL_I, ltL_Ln, ltL_Cr, hls, hlt2, splice, MV.cells])⟩, by exact rfl⟩)
   ·obtain rfl : i = p + 1 := by omega
    rw [← hC] at hF
    repeat (first | apply ef_seq | (apply ef_bin; (iterate 3 exact rfl); (exact cmp_f rfl (by simp only [cmpP]; omega))) | apply ef_nil | apply seqQ.normal | apply loopQ.exit | apply ef_exit | apply seqQ.exit | apply blockQ.normal | apply blockQ.here | (apply ef_condf; exact rfl; (exact (rfl : false = false))))
    (refine loopQ.normal _ _ ⟨(f, F, us), ⟨hus, by rw [hF]; exact hf2, by rw [hF]; exact hZ, by show (2000000 - valU n.cs F n.cs.length).toNat < f; rw [hF]; omega⟩, (by show (2000000 - valU n.cs F n.cs.length).toNat < (2000000 - valU n.cs fl n.cs.length).toNat; rw [hF]; omega), ⟨by ((repeat (refine Hold.cons (by exact rfl) ?_)); exact Hold.nil), by ((repeat (refine Hold.cons (by exact rfl) ?_)); exact Hold.nil)⟩, .inr ⟨by ((repeat (refine hdl_cons rfl (by first | rfl | (simp [MV.lt, ltL, ltL_A, ltL_I, ltL_Ln, ltL_Cr, hlu, hlt2, splice, MV.cells])) ?_)); exact hdl_nil), by (simp [hltL, ltL, MV.lt, ltL, ltL_A, ltL_I, ltL_Ln, ltL_Cr, hlu, hlt2, splice, MV.cells])⟩, by exact rfl⟩)
theorem flow_c (k : Nat) (n : Nt) (ok : OkN n) (h : MHeap) : orA (k + 6) 32 [encN n] h = some (.arr h.length 0 n.cs.length 0, h ++ [⟨0, false, 1, (flZ n).map I64⟩]) := by
 have := callA (k := k + 5) (h := h) (args := [encN n]) (args' := [encN n]) (frzL_lt (by simp [ltL, MV.lt, ltL_Ln, ltL_Cr])) rfl (flow_z k n ok) rfl (by simp [okH, ltL_I, pureL_I])
 simpa [shV, sh1] using this
end Go.Proofs.YtfchdbghjeophaaDoor

/- Flows and corrections: no flow has a greater value than corrections cost; the program's flow has that of its potentials. Without a program. -/
namespace Go.Proofs.YtfchdbghjeophaaDoor
set_option linter.unusedVariables false
set_option linter.unusedSimpArgs false
def sumN (g : Nat → Int) : Nat → Int
 | 0 => 0
 | k + 1 => sumN g k + g k
theorem sumN_zero {g : Nat → Int} : ∀ m, (∀ v, v < m → g v = 0) → sumN g m = 0
 | 0, _ => rfl
 | m + 1, h => by rw [sumN, sumN_zero m (fun v hv => h v (by omega)), h m (by omega)]; rfl
theorem sumN_add {g g' : Nat → Int} : ∀ m, sumN (fun v => g v + g' v) m = sumN g m + sumN g' m
 | 0 => rfl
 | m + 1 => by rw [sumN, sumN, sumN, sumN_add m]; omega
theorem sumN_pick {a : Int} (h0 : 0 ≤ a) (c : Int → Int) (f : Int) : ∀ m : Nat, sumN (fun v => c (v : Int) * (if a = (v : Int) then f else 0)) m = if a < (m : Int) then c a * f else 0
 | 0 => by rw [if_neg (by omega)]; rfl
 | m + 1 => by
  rw [sumN, sumN_pick h0 c f m]
  by_cases h : a = (m : Int)
  ·rw [if_neg (by omega), if_pos h, if_pos (by omega), ← h]; omega
  ·rw [if_neg h, Int.mul_zero]
   by_cases h2 : a < (m : Int)
   ·rw [if_pos h2, if_pos (by omega)]; omega
   ·rw [if_neg h2, if_neg (by omega)]; rfl
def resP (x : Cr) (p : Int → Int) : Int := x.df - p x.ln + p x.ti
def valP (cs : List Cr) (fl : List Int) (p : Int → Int) : Nat → Int
 | 0 => 0
 | i + 1 => valP cs fl p i + cAt fl i * resP (cs.getD i default) p
def absI (z : Int) : Int := if z < 0 then 0 - z else z
def costP (cs : List Cr) (p : Int → Int) : Nat → Int
 | 0 => 0
 | i + 1 => costP cs p i + (cs.getD i default).wt * absI (resP (cs.getD i default) p)
theorem valP_at {n : Nt} (ok : OkN n) (fl : List Int) (p : Int → Int) : ∀ i, i ≤ n.cs.length → valP n.cs fl p i = valU n.cs fl i - sumN (fun v => sgV n (v : Int) * p (v : Int) * sumV n.cs fl (v : Int) i) n.ls.length
 | 0, _ => by
  rw [sumN_zero n.ls.length (fun v _ => by simp [sumV])]; rfl
 | i + 1, hi => by
  have hm := getD_mem (n := n) (i := (i : Int)) (by omega) (by omega)
  rw [Int.toNat_natCast] at hm
  have hx := ok.rg _ hm
  have hk := ok.kd _ hm
  rw [valP, valU, valP_at ok fl p i (by omega)]
  have e : (fun v : Nat => sgV n (v : Int) * p (v : Int) * sumV n.cs fl (v : Int) (i + 1)) = fun v : Nat => (sgV n (v : Int) * p (v : Int) * sumV n.cs fl (v : Int) i) + ((fun u : Int => sgV n u * p u) (v : Int) * (if (n.cs.getD i default).ln = (v : Int) then cAt fl i else 0) + (fun u : Int => sgV n u * p u) (v : Int) * (if (n.cs.getD i default).ti = (v : Int) then cAt fl i else 0)) := by
   funext v
   rw [sumV, att, Int.mul_add, Int.mul_add]
  rw [e, sumN_add, sumN_add, sumN_pick hx.l0 (fun u : Int => sgV n u * p u), sumN_pick hx.t0 (fun u : Int => sgV n u * p u), if_pos hx.l1, if_pos hx.t1]
  generalize n.cs.getD i default = x at *
  have s1 : sgV n x.ln = 1 := by unfold sgV; rw [hk.1]; rfl
  have s2 : sgV n x.ti = -1 := by unfold sgV; rw [hk.2]; rfl
  simp only [s1, s2]
  unfold resP
  generalize cAt fl i = f
  generalize p x.ln = u
  generalize p x.ti = w
  rw [Int.mul_add, Int.mul_sub, Int.one_mul, Int.neg_mul, Int.neg_mul, Int.one_mul, Int.mul_comm u f, Int.mul_comm w f]
  omega
theorem valP_eq {n : Nt} (ok : OkN n) {fl : List Int} (hf : FlOk n fl) (p : Int → Int) : valP n.cs fl p n.cs.length = valU n.cs fl n.cs.length := by
 rw [valP_at ok fl p _ (Nat.le_refl _), sumN_zero n.ls.length (fun v _ => by rw [hf.sum]; simp)]; omega
theorem absI_mul {f w z : Int} (h1 : -w ≤ f) (h2 : f ≤ w) : f * z ≤ w * absI z := by
 unfold absI
 split
 ·have := Int.mul_le_mul_of_nonneg_right (show 0 - f ≤ w by omega) (show 0 ≤ 0 - z by omega)
  rw [Int.sub_mul, Int.zero_mul, Int.mul_sub, Int.mul_zero] at this
  omega
 ·exact Int.mul_le_mul_of_nonneg_right h2 (by omega)
theorem gd_at {n : Nt} {i : Nat} (h : i < n.cs.length) : n.cs.getD i default = n.cs[i] := by rw [List.getD_eq_getElem?_getD, List.getElem?_eq_getElem h]; rfl
theorem weak {n : Nt} (ok : OkN n) {fl : List Int} (hf : FlOk n fl) (p : Int → Int) : valU n.cs fl n.cs.length ≤ costP n.cs p n.cs.length := by
 rw [← valP_eq ok hf p]
 have : ∀ i, i ≤ n.cs.length → valP n.cs fl p i ≤ costP n.cs p i := fun i => by
  induction i with
  | zero => intro _; exact Int.le_refl _
  | succ i ih =>
   intro hi
   rw [valP, costP]
   have h1 := ih (by omega)
   have hb := hf.bd i (by omega)
   rw [← gd_at (by omega)] at hb
   have := absI_mul (z := resP (n.cs.getD i default) p) hb.1 hb.2
   omega
 exact this _ (Nat.le_refl _)
theorem strong {n : Nt} (ok : OkN n) {fl : List Int} (hf : FlOk n fl) {p : Int → Int} (hp : ∀ a ∈ arcsU n.cs fl n.cs.length, p a.fr + a.ln ≤ p a.tv) : valU n.cs fl n.cs.length = costP n.cs p n.cs.length := by
 rw [← valP_eq ok hf p]
 have : ∀ i, i ≤ n.cs.length → valP n.cs fl p i = costP n.cs p i := fun i => by
  induction i with
  | zero => intro _; rfl
  | succ i ih =>
   intro hi
   rw [valP, costP, ih (by omega)]
   have hb := hf.bd i (by omega)
   rw [← gd_at (by omega)] at hb
   obtain ⟨a1, a2⟩ := arcsU_mem (n := n) (fl := fl) (i := i) (j := n.cs.length) (by omega) (Nat.le_refl _)
   have h1 : cAt fl i < (n.cs.getD i default).wt → resP (n.cs.getD i default) p ≤ 0 := fun h => by
    have := hp _ (a1 h)
    simp only at this
    unfold resP; omega
   have h2 : 0 - (n.cs.getD i default).wt < cAt fl i → 0 ≤ resP (n.cs.getD i default) p := fun h => by
    have := hp _ (a2 h)
    simp only at this
    unfold resP; omega
   congr 1
   generalize n.cs.getD i default = x at *
   generalize resP x p = z at *
   generalize cAt fl i = f at *
   unfold absI
   split
   ·rw [show f = 0 - x.wt by omega, Int.sub_mul, Int.zero_mul, Int.mul_sub, Int.mul_zero]
   ·by_cases hz : z = 0
    ·rw [hz]; simp
    ·rw [show f = x.wt by omega]
 exact this _ (Nat.le_refl _)
theorem upL_at : ∀ (m i : Nat) (h : i < (upL m).length), (upL m)[i] = (i : Int)
 | 0, i, h => by simp [upL] at h
 | m + 1, i, h => by
  simp only [upL]
  rw [List.getElem_append]
  split
  ·exact upL_at m i _
  ·rename_i h2
   have := upL_len m
   have h3 : i = m := by simp [upL, upL_len] at h; omega
   simp [h3]
theorem srcL_up (m : Nat) {v : Int} (h0 : 0 ≤ v) (h1 : v < (m : Int)) : cAt (srcL m (upL m)) v = 0 := by
 have hl := upL_len m
 have h := srcU_at m (upL m) (upL_mem m) (upL m).length v.toNat (by omega) (by omega) (Nat.le_refl _)
 rw [upL_at, show ((v.toNat : Nat) : Int) = v by omega] at h
 exact h
theorem flow_pot {n : Nt} (ok : OkN n) {fl : List Int} (hC : flC n fl = []) : ∃ p : Int → Int, ∀ a ∈ arcsU n.cs fl n.cs.length, p a.fr + a.ln ≤ p a.tv := by
 have hO : ∀ a ∈ arcsU n.cs fl n.cs.length, OkA n.ls.length 10000 a := fun a ha => (arcsU_ok (fl := fl) n.cs.length (Nat.le_refl _) a ha).okA ok
 rcases lg_out (m := n.ls.length) (fs := upL n.ls.length) (show (0 : Int) ≤ 10000 by omega) hO with ⟨-, ⟨q, t, -, HI⟩, h⟩ | ⟨P, c, p, h, H⟩
 ·refine ⟨fun v => cAt (lgS (arcsU n.cs fl n.cs.length) n.ls.length (upL n.ls.length)).1.L v, fun a ha => h a ha ?_⟩
  have o := hO a ha
  have := HI.mon a.fr
  rw [srcL_up _ o.f0 o.f1] at this
  omega
 ·have h2 : (flC n fl).length = p := by rw [show flC n fl = _ from h, cycL_len]
  rw [hC] at h2
  have := H.p0
  simp at h2; omega
theorem flZ_max {n : Nt} (ok : OkN n) : (∀ fl, FlOk n fl → valU n.cs fl n.cs.length ≤ valU n.cs (flZ n) n.cs.length) ∧ ∃ p, valU n.cs (flZ n) n.cs.length = costP n.cs p n.cs.length := by
 obtain ⟨h1, h2⟩ := flZ_ok ok
 obtain ⟨p, hp⟩ := flow_pot ok h2
 have hs := strong ok h1 hp
 exact ⟨fun fl hf => by rw [hs]; exact weak ok hf p, p, hs⟩
end Go.Proofs.YtfchdbghjeophaaDoor

/- Longest paths where there are potentials; the lowest and the greatest best corrections; without a program. -/
namespace Go.Proofs.YtfchdbghjeophaaDoor
set_option linter.unusedVariables false
set_option linter.unusedSimpArgs false
def Feas (ar : List Ac) (f : Int → Int) : Prop := ∀ a ∈ ar, f a.fr + a.ln ≤ f a.tv
theorem feas_cyc {ar : List Ac} {m p : Nat} {P : List Int} {c : Int} {f : Int → Int} (hf : Feas ar f) (H : CycOk ar m P c p) : False := by
 have key : ∀ i, i ≤ p → sumW ar P (fun i => bkN ar P i c) i ≤ f c - f (bkN ar P i c) := fun i => by
  induction i with
  | zero => intro _; simp [sumW, bkN]
  | succ i ih =>
   intro hi
   obtain ⟨-, h2, h3⟩ := H.inn i (by omega)
   have h4 := hf _ h2
   rw [h3] at h4
   have h5 := ih (by omega)
   have e : bkN ar P (i + 1) c = (arcP ar P (bkN ar P i c)).fr := rfl
   rw [sumW, e]
   omega
 have h1 := key p (Nat.le_refl _)
 have h2 := H.pos
 rw [H.ret] at h1
 omega
structure LgOk (ar : List Ac) (m : Nat) (fs : List Int) (L : List Int) : Prop where
 len : L.length = m
 src : ∀ v ∈ fs, 0 ≤ cAt L v
 far : ∀ v, -1099511627776 ≤ cAt L v
 up : ∀ v, cAt L v ≤ 1000000000
 sat : ∀ a ∈ ar, cAt L a.fr > -549755813888 → cAt L a.fr + a.ln ≤ cAt L a.tv
 low : ∀ f : Int → Int, Feas ar f → (∀ v, 0 ≤ v → v < (m : Int) → cAt (srcL m fs) v ≤ f v) → ∀ v, 0 ≤ v → v < (m : Int) → cAt L v ≤ f v
theorem lg_feas {m : Nat} {ar : List Ac} {B : Int} {fs : List Int} (hB : 0 ≤ B) (hB2 : B ≤ 100000) (hm : m ≤ 8) (hl : ar.length ≤ 64) (hO : ∀ a ∈ ar, OkA m B a) (hfs : ∀ v ∈ fs, 0 ≤ v ∧ v < (m : Int)) {f : Int → Int} (hf : Feas ar f) : lgC ar m fs = [] ∧ LgOk ar m fs (lgS ar m fs).1.L := by
 rcases lg_out (fs := fs) hB hO with ⟨h1, ⟨q, t, hq, HI⟩, h2⟩ | ⟨P, c, p, -, H⟩
 ·refine ⟨h1, HI.lenL, fun v hv => ?_, fun v => (HI.bd v).1, fun v => ?_, h2, fun f hf hs => HI.low f hf hs⟩
  ·obtain ⟨i, hi, rfl⟩ := List.getElem_of_mem hv
   have := srcU_at m fs hfs fs.length i hi hi (Nat.le_refl _)
   have := HI.mon fs[i]
   have e : srcL m fs = srcU m fs fs.length := rfl
   rw [e] at this
   omega
  ·have h3 := (HI.bd v).2
   have h4 : q * ar.length + ar.length ≤ 9 * 64 + 64 := Nat.add_le_add (Nat.mul_le_mul (by omega) hl) hl
   have h5 : B * ((q * ar.length + ar.length : Nat) : Int) ≤ 100000 * 640 := Int.mul_le_mul hB2 (by omega) (by omega) (by omega)
   omega
 ·exact (feas_cyc hf H).elim
theorem srcL_one {m : Nat} {s v : Int} (h0 : 0 ≤ s) (h1 : s < (m : Int)) (hv : 0 ≤ v) : cAt (srcL m [s]) v = if v = s then 0 else if v < (m : Int) then -1099511627776 else 0 := by
 have e : srcL m [s] = (List.replicate m (-1099511627776 : Int)).set s.toNat 0 := rfl
 rw [e, cAt_set h0 (by simpa using h1) hv]
 split
 ·rfl
 ·unfold cAt
  rw [List.getD_eq_getElem?_getD, List.getElem?_replicate]
  by_cases h : v < (m : Int)
  ·rw [if_pos h, if_pos (by omega)]; rfl
  ·rw [if_neg h, if_neg (by omega)]; rfl
def Jn (n : Nt) : Prop := ∀ S : Int → Bool, S 0 = true → (∀ x ∈ n.cs, S x.ln = S x.ti) → ∀ v, 0 ≤ v → v < (n.ls.length : Int) → S v = true
end Go.Proofs.YtfchdbghjeophaaDoor

/- The cost of corrections is convex along sets of lines: where no set of lines can be moved by 1, nothing is cheaper; without a program. -/
namespace Go.Proofs.YtfchdbghjeophaaDoor
set_option linter.unusedVariables false
set_option linter.unusedSimpArgs false
end Go.Proofs.YtfchdbghjeophaaDoor

/- The lowest and the greatest best corrections of a joined net, by longest paths; without a program. -/
namespace Go.Proofs.YtfchdbghjeophaaDoor
set_option linter.unusedVariables false
set_option linter.unusedSimpArgs false
abbrev arZ (n : Nt) : List Ac := arcsU n.cs (flZ n) n.cs.length
def minC (n : Nt) : Int := valU n.cs (flZ n) n.cs.length
theorem pot0 {n : Nt} (ok : OkN n) : ∃ p : Int → Int, p 0 = 0 ∧ Feas (arZ n) p := by
 obtain ⟨p, hp⟩ := flow_pot ok (flZ_ok ok).2
 exact ⟨fun v => p v - p 0, by simp, fun a ha => by have := hp a ha; simp only; omega⟩
theorem arZ_ok {n : Nt} (ok : OkN n) : ∀ a ∈ arZ n, OkA n.ls.length 10000 a := fun a ha => (arcsU_ok (fl := flZ n) n.cs.length (Nat.le_refl _) a ha).okA ok
abbrev lgZ (n : Nt) (s : Int) : List Int := (lgS (arZ n) n.ls.length [s]).1.L
theorem lgZ_ok {n : Nt} (ok : OkN n) {s : Int} (h0 : 0 ≤ s) (h1 : s < (n.ls.length : Int)) : lgC (arZ n) n.ls.length [s] = [] ∧ LgOk (arZ n) n.ls.length [s] (lgZ n s) := by
 obtain ⟨p, -, hp⟩ := pot0 ok
 exact lg_feas (by omega) (by omega) ok.l8 (arcsU_len16 ok _) (arZ_ok ok) (fun v hv => by rw [List.mem_singleton] at hv; subst hv; exact ⟨h0, h1⟩) hp
end Go.Proofs.YtfchdbghjeophaaDoor

/- Crossings that agree with a limit, and the limit of a net (plain). -/
namespace Go.Proofs.YtfchdbghjeophaaDoor
open Go.RowKit
set_option linter.unusedVariables false
set_option linter.unusedSimpArgs false
abbrev crI (n : Nt) (i : Int) : Cr := n.cs.getD i.toNat default
def AgP (n : Nt) (S : List Int) (L : Int) (p : Int → Int) : Prop := ∀ i ∈ S, resP (crI n i) p ≤ L ∧ -L ≤ resP (crI n i) p
def AgN (n : Nt) (S : List Int) (L : Int) : Prop := ∃ p, AgP n S L p
def agA (x : Cr) (L : Int) : List Ac := [⟨x.ti, x.ln, x.df - L, 0, 0⟩, ⟨x.ln, x.ti, -x.df - L, 0, 0⟩]
def agL (n : Nt) (S : List Int) (L : Int) : List Ac := S.flatMap fun i => agA (crI n i) L
theorem agL_len (n : Nt) (L : Int) : ∀ S : List Int, (agL n S L).length = 2 * S.length
 | [] => rfl
 | i :: S => by
  have := agL_len n L S
  unfold agL at this ⊢
  rw [List.flatMap_cons, List.length_append, this]; simp [agA]; omega
theorem agL_ok {n : Nt} (ok : OkN n) {S : List Int} (hS : ∀ i ∈ S, 0 ≤ i ∧ i < (n.cs.length : Int)) {L : Int} (hL : 0 ≤ L ∧ L ≤ 10000) : ∀ a ∈ agL n S L, OkA n.ls.length 20000 a := fun a ha => by
 obtain ⟨i, hi, ha⟩ := List.mem_flatMap.1 ha
 have hb := hS i hi
 have hm : crI n i ∈ n.cs := by unfold crI; rw [List.getD_eq_getElem?_getD, List.getElem?_eq_getElem (by omega)]; exact List.getElem_mem _
 have o := ok.rg _ hm
 have o1 := o.l0
 have o2 := o.l1
 have o3 := o.t0
 have o4 := o.t1
 have o5 := o.df
 have hne : (crI n i).ln ≠ (crI n i).ti := fun e => by
  have h := ok.kd _ hm
  rw [e] at h
  rw [h.1] at h
  exact absurd h.2 (by simp)
 simp only [agA, List.mem_cons, List.not_mem_nil, or_false] at ha
 rcases ha with rfl | rfl <;> constructor <;> simp only <;> omega
theorem agP_feas {n : Nt} {S : List Int} {L : Int} {p : Int → Int} : AgP n S L p ↔ Feas (agL n S L) p := by
 constructor
 ·intro h a ha
  obtain ⟨i, hi, ha⟩ := List.mem_flatMap.1 ha
  have := h i hi
  unfold resP at this
  simp only [agA, List.mem_cons, List.not_mem_nil, or_false] at ha
  rcases ha with rfl | rfl <;> simp only <;> omega
 ·intro h i hi
  have h1 := h ⟨(crI n i).ti, (crI n i).ln, (crI n i).df - L, 0, 0⟩ (List.mem_flatMap.2 ⟨i, hi, by simp [agA]⟩)
  have h2 := h ⟨(crI n i).ln, (crI n i).ti, -(crI n i).df - L, 0, 0⟩ (List.mem_flatMap.2 ⟨i, hi, by simp [agA]⟩)
  simp only at h1 h2
  unfold resP
  omega
theorem ag_iff {n : Nt} (ok : OkN n) {S : List Int} (hS : ∀ i ∈ S, 0 ≤ i ∧ i < (n.cs.length : Int)) (hl : S.length ≤ 32) {L : Int} (hL : 0 ≤ L ∧ L ≤ 10000) :
  lgC (agL n S L) n.ls.length (upL n.ls.length) = [] ↔ AgN n S L := by
 have hO := agL_ok ok hS hL
 constructor
 ·intro hC
  rcases lg_out (m := n.ls.length) (fs := upL n.ls.length) (show (0 : Int) ≤ 20000 by omega) hO with ⟨-, ⟨q, t, -, HI⟩, h⟩ | ⟨P, c, p, h, H⟩
  ·refine ⟨fun v => cAt (lgS (agL n S L) n.ls.length (upL n.ls.length)).1.L v, agP_feas.2 fun a ha => h a ha ?_⟩
   have o := hO a ha
   have := HI.mon a.fr
   rw [srcL_up _ o.f0 o.f1] at this
   omega
  ·have h2 : (lgC (agL n S L) n.ls.length (upL n.ls.length)).length = p := by rw [h, cycL_len]
   rw [hC] at h2
   have := H.p0
   simp at h2; omega
 ·rintro ⟨p, hp⟩
  exact (lg_feas (B := 20000) (by omega) (by omega) ok.l8 (by rw [agL_len]; omega) hO (upL_mem _) (agP_feas.1 hp)).1
def evS (n : Nt) : List Int := (List.range n.cs.length).map fun i : Nat => (i : Int)
theorem evS_in (n : Nt) : ∀ i ∈ evS n, 0 ≤ i ∧ i < (n.cs.length : Int) := fun i hi => by
 obtain ⟨j, hj, rfl⟩ := List.mem_map.1 hi
 have := List.mem_range.1 hj
 omega
theorem agN_mono {n : Nt} {S : List Int} {L L' : Int} (h : L ≤ L') : AgN n S L → AgN n S L' := fun ⟨p, hp⟩ => ⟨p, fun i hi => by have := hp i hi; omega⟩
theorem agN_top {n : Nt} (ok : OkN n) {S : List Int} (hS : ∀ i ∈ S, 0 ≤ i ∧ i < (n.cs.length : Int)) : AgN n S 10000 := ⟨fun _ => 0, fun i hi => by
 have hb := hS i hi
 have hm : crI n i ∈ n.cs := by unfold crI; rw [List.getD_eq_getElem?_getD, List.getElem?_eq_getElem (by omega)]; exact List.getElem_mem _
 have := (ok.rg _ hm).df
 have e : resP (crI n i) (fun _ => 0) = (crI n i).df := by unfold resP; simp
 rw [e]
 omega⟩
structure IsLim (n : Nt) (L : Int) : Prop where
 lo : 0 ≤ L
 hi : L ≤ 10000
 ag : AgN n (evS n) L
 least : ∀ L', 0 ≤ L' → AgN n (evS n) L' → L ≤ L'
theorem IsLim.uniq {n : Nt} {a b : Int} (ha : IsLim n a) (hb : IsLim n b) : a = b := by
 have := ha.least b hb.lo hb.ag
 have := hb.least a ha.lo ha.ag
 omega
end Go.Proofs.YtfchdbghjeophaaDoor

/- Contracts: sizes, sums of weights times sizes, clones, other differences. -/
namespace Go.Proofs.YtfchdbghjeophaaDoor
open Go.RowKit
set_option linter.unusedVariables false
set_option linter.unusedSimpArgs false
theorem mx_abs (z : Int) : mx z (0 - z) = absI z := by unfold mx absI; split <;> split <;> omega
theorem absI_bd {z B : Int} (h1 : -B ≤ z) (h2 : z ≤ B) : 0 ≤ absI z ∧ absI z ≤ B := by unfold absI; split <;> omega
theorem mf_size : MT.mf 48 = some ⟨7, [(.tmp 2)], (.seq (.reg [gO 2 (.mv (cI 0))]) (.seq (.reg [gO 3 (.mv (.s 0)), gO 4 (.mv (.s 0)), gO 5 (.un .neg (.s 4)), gO 6 (.mx (.s 3) (.s 5)), gO 2 (.mv (.s 6))]) .ret))⟩ := by kernel_rfl
theorem size_c (k : Nat) (z : Int) (h1 : -1000000000000 ≤ z) (h2 : z ≤ 1000000000000) (h : MHeap) : orA (k + 1) 48 [I64 z] h = some (I64 (absI z), h) := by
 refine callL (args' := [I64 z]) (frzL_lt rfl) rfl (runZ_of mf_size (by simp) ?_)
 simp only [argsL]
 repeat (first | apply ef_seq | (apply ef_mv; exact rfl; exact rfl) | (apply ef_neg; exact rfl; exact rfl; exact wrap_of (by omega) (by omega)) | (apply ef_mx; (iterate 3 exact rfl)) | apply ef_nil | apply seqQ.normal | apply ef_ret)
 (refine fin1 rfl (by exact rfl) rfl ?_)
 rw [mx_abs]
theorem mf_bSize : MT.mf 8 = some ⟨7, [(.tmp 2)], (.seq (.reg [gO 2 (.mv (cI 0))]) (.seq (.reg [gO 3 (.mv (.s 0)), gO 4 (.mv (.s 0)), gO 5 (.un .neg (.s 4)), gO 6 (.mx (.s 3) (.s 5)), gO 2 (.mv (.s 6))]) .ret))⟩ := by kernel_rfl
theorem bSize_c (k : Nat) (z : Int) (h1 : -1000000000000 ≤ z) (h2 : z ≤ 1000000000000) (h : MHeap) : orA (k + 1) 8 [I64 z] h = some (I64 (absI z), h) := by
 refine callL (args' := [I64 z]) (frzL_lt rfl) rfl (runZ_of mf_bSize (by simp) ?_)
 simp only [argsL]
 repeat (first | apply ef_seq | (apply ef_mv; exact rfl; exact rfl) | (apply ef_neg; exact rfl; exact rfl; exact wrap_of (by omega) (by omega)) | (apply ef_mx; (iterate 3 exact rfl)) | apply ef_nil | apply seqQ.normal | apply ef_ret)
 (refine fin1 rfl (by exact rfl) rfl ?_)
 rw [mx_abs]
def wsU (cs : List Cr) (ds : List Int) : Nat → Int
 | 0 => 0
 | i + 1 => wsU cs ds i + (cs.getD i default).wt * absI (cAt ds i)
theorem wsU_next {cs : List Cr} {ds : List Int} {i : Nat} {x : Cr} (h : cs[i]? = some x) : wsU cs ds (i + 1) = wsU cs ds i + x.wt * absI (cAt ds i) := by
 rw [wsU, List.getD_eq_getElem?_getD, h]; rfl
theorem wsU_bd {n : Nt} (ok : OkN n) {ds : List Int} (hb : ∀ v, -1000000000000 ≤ cAt ds v ∧ cAt ds v ≤ 1000000000000) : ∀ i, i ≤ n.cs.length → 0 ≤ wsU n.cs ds i ∧ wsU n.cs ds i ≤ 10000000000000 * (i : Int)
 | 0, _ => by simp [wsU]
 | i + 1, hi => by
  have ih := wsU_bd ok hb i (by omega)
  have hx := (ok.rg n.cs[i] (List.getElem_mem (by omega))).wt
  rw [wsU_next (List.getElem?_eq_getElem (by omega))]
  have ha := absI_bd (hb (i : Int)).1 (hb (i : Int)).2
  have := mul_bd (a := n.cs[i].wt) (b := absI (cAt ds i)) (A := 10) (B := 1000000000000) (by omega) (by omega) (by omega) (by omega)
  have := Int.mul_nonneg (show 0 ≤ n.cs[i].wt by omega) ha.1
  omega
theorem mf_cost : MT.mf 33 = some ⟨29, [(.tmp 4)], (.seq (.reg [gO 2 (.box 2 (.s 0)), gO 4 (.mv (cI 0))]) (.seq (.reg [gO 5 (.mv (cI 0))]) (.seq (.seq (.reg [gO 8 (.fa 0 (.s 2)), gO 9 (.fa 1 (.s 8)), gO 10 (.ld none (.s 9)), gO 11 (.len (.s 10)), gO 12 (.mv (cI 0))]) (.block 0 (.loop [12, 11, 10, 5, 1] (.seq (.reg [gO 13 (.bin .lss (.s 12) (.s 11))]) (.seq (.cond (.s 13) .skip (.exit 0)) (.seq (.block 1 (.seq (.reg [gO 14 (.mv (.s 12)), gO 15 (.ia 6 (.s 10) (.s 12)), gO 16 (.ld (some 6) (.s 15)), gO 7 (.new (.agg [(.lit (.int .i64 0)), (.lit (.int .i64 0)), (.lit (.int .i64 0)), (.lit (.int .i64 0)), (.lit (.int .i64 0)), (.lit (.int .i64 0))])), gO 6 (.mv (.s 14)), ⟨none, none, .st 6 (.s 7) (.s 16)⟩]) (.reg [gO 17 (.mv (.s 5)), gO 18 (.fa 5 (.s 7)), gO 19 (.ld none (.s 18)), gO 20 (.mv (.s 1)), gO 21 (.mv (.s 6)), gO 22 (.ia 1 (.s 20) (.s 21)), gO 23 (.ld none (.s 22)), gO 24 (.call 48 [.s 23]), gO 25 (.bin .mul (.s 19) (.s 24)), gO 26 (.bin .add (.s 17) (.s 25)), gO 5 (.mv (.s 26))]))) (.reg [gO 27 (.bin .add (.s 12) (cI 1)), gO 12 (.mv (.s 27))]))))))) (.seq (.reg [gO 28 (.mv (.s 5)), gO 4 (.mv (.s 28))]) .ret))))⟩ := by kernel_rfl
set_option maxHeartbeats 1000000 in
theorem cost_z (k : Nat) (n : Nt) (ok : OkN n) (ds : List Int) (hl : ds.length = n.cs.length) (hb : ∀ v, -1000000000000 ≤ cAt ds v ∧ cAt ds v ≤ 1000000000000) :
  runZ MT (orA (k + 1)) (itA (k + 1)) 4000000 33 [encN n, .sl (ds.map I64)] [] = some (I64 (wsU n.cs ds n.cs.length), []) := by
 have hs2 : (MV.sl (n.cs.map encCr)).slen = some n.cs.length := by simp [MV.slen]
 have c16 := ok.c16
 refine runZ_of mf_cost (by simp) ?_
 simp only [argsL]
 repeat (first | apply ef_seq | (apply ef_mv; exact rfl; exact rfl) | (apply ef_len; exact rfl; exact rfl; (assumption)) | (apply ef_ldp; exact rfl; exact rfl; (exact rfl); exact rfl; (exact rfl); (exact rfl)) | (apply ef_fap; exact rfl; exact rfl) | (apply ef_box; (iterate 4 exact rfl)) | apply ef_nil | apply seqQ.normal | apply ef_block)
 refine ef_loopf (α := Nat × Int) (fun p => p.1 ≤ n.cs.length ∧ p.2 = wsU n.cs ds p.1) (fun p => [(12, I64 (p.1 : Int)), (5, I64 p.2)]) [(11, I64 (n.cs.length : Int)), (10, .sl (n.cs.map encCr)), (1, .sl (ds.map I64))] (fun _ => [⟨0, false, 2, [encN n]⟩]) (fun p => n.cs.length - p.1) (0, 0) [12, 5] (fun _ => rfl) (by ((repeat (refine Hold.cons (by exact rfl) ?_)); exact Hold.nil)) (by ((repeat (refine Hold.cons (by exact rfl) ?_)); exact Hold.nil)) rfl rfl ⟨by omega, rfl⟩ (by simp; omega) ?_
 rintro ⟨i, q⟩ ⟨hi, hq⟩
 try simp only at hi hq ⊢
 by_cases hlt : i < n.cs.length
 ·have e1 := at_map encCr n.cs i hlt
  have hat : n.cs[i]? = some n.cs[i] := List.getElem?_eq_getElem hlt
  have hx := ok.rg n.cs[i] (List.getElem_mem hlt)
  have e2 := cAt_at hl (i := (i : Int)) (by omega) (by omega)
  have hv := wsU_bd ok hb i hi
  have hvn := wsU_bd ok hb (i + 1) hlt
  have hbi := hb (i : Int)
  generalize n.cs[i] = x at e1 hat hx
  have HN := Lib.hid (wsU_next (ds := ds) hat)
  rw [HN.out] at hvn
  have w2 := hx.wt
  rw [← hq] at hv hvn
  generalize cAt ds i = f at e2 HN hvn hbi
  have ha := absI_bd hbi.1 hbi.2
  have w3 := fun h => size_c k f (by omega) (by omega) h
  generalize absI f = g at *
  have m1 := mul_w (a := x.wt) (b := g) 10 1000000000000 (by omega) (by omega) (by omega) (by omega) (by omega)
  repeat (first | apply ef_seq | (apply ef_mv; exact rfl; exact rfl) | (apply ef_bin; (iterate 3 exact rfl); (first | exact cmp_t rfl (by first | exact rfl | (simp only [cmpP]; omega)) | ((with_reducible refine bin_add (wrap_of ?_ ?_)) <;> omega) | ((with_reducible refine bin_mul (wrap_of ?_ ?_)) <;> omega))) | (apply ef_ldr; exact rfl; exact rfl; (first | exact rd_6 rfl rfl rfl rfl rfl rfl | exact rfl)) | (apply ef_ldp; exact rfl; exact rfl; (exact rfl); exact rfl; (exact rfl); (exact rfl)) | (apply ef_ias; (iterate 3 exact rfl); (omega); assumption; exact rfl) | (apply ef_fap; exact rfl; exact rfl) | (apply ef_new; exact rfl) | (apply ef_st; (iterate 6 exact rfl); (exact rfl); exact rfl) | apply ef_nil | apply seqQ.normal | apply blockQ.normal | apply ef_block | apply ef_skip | (apply ef_condt; exact rfl; (exact (rfl : true = true))) | (apply ef_call; exact rfl; ((repeat (apply XVs.cons; exact rfl)); exact XVs.nil); (with_reducible exact w3 _)))
  (refine loopQ.normal _ _ ⟨(i + 1, q + x.wt * g), ⟨hlt, by rw [HN.out, hq]⟩, (by first | (simp only; omega) | omega), ⟨by ((repeat (refine Hold.cons (by exact rfl) ?_)); exact Hold.nil), by ((repeat (refine Hold.cons (by exact rfl) ?_)); exact Hold.nil)⟩, .inr ⟨by ((repeat (refine hdl_cons rfl (by first | rfl | (simp [MV.lt, ltL, ltL_Ln, ltL_Cr, ltL_I, splice, MV.cells])) ?_)); exact hdl_nil), by (simp [hltL, ltL, MV.lt, ltL, ltL_Ln, ltL_Cr, ltL_I, splice, MV.cells])⟩, by exact rfl⟩)
 ·obtain rfl : i = n.cs.length := by omega
  repeat (first | apply ef_seq | (apply ef_mv; exact rfl; exact rfl) | (apply ef_bin; (iterate 3 exact rfl); (exact cmp_f rfl (by simp only [cmpP]; omega))) | apply ef_nil | apply seqQ.normal | apply loopQ.exit | apply ef_ret | apply ef_exit | apply seqQ.exit | apply blockQ.here | (apply ef_condf; exact rfl; (exact (rfl : false = false))))
  (refine fin1 rfl (by exact rfl) rfl ?_)
  rw [hq]
theorem cost_c (k : Nat) (n : Nt) (ok : OkN n) (ds : List Int) (hl : ds.length = n.cs.length) (hb : ∀ v, -1000000000000 ≤ cAt ds v ∧ cAt ds v ≤ 1000000000000) (h : MHeap) {v : MV} (hv : frz 0 [] h 8 v = some (.sl (ds.map I64))) :
  orA (k + 2) 33 [encN n, v] h = some (I64 (wsU n.cs ds n.cs.length), h) :=
 callL (args' := [encN n, .sl (ds.map I64)]) (by simp [List.mapM_cons, hv, frz_lt (ltL_N n 0)]) rfl (cost_z k n ok ds hl hb)
def anB (z : Int) : Bool := !inB z (-10000) 10000
def anE (m : Nat) (ds : List Int) : Int := if ds.length = m then (if ds.any anB then 2 else 0) else 10
theorem mf_kp1 : MT.mf 26 = some ⟨6, [(.tmp 2)], (.seq (.reg [gO 2 (.mv cF)]) (.seq (.reg [gO 3 (.mv (.s 0)), gO 4 (.call 27 [.s 3, (cI 10000)]), gO 5 (.un .not (.s 4)), gO 2 (.mv (.s 5))]) .ret))⟩ := by kernel_rfl
theorem kp1_c (k : Nat) (z : Int) (h : MHeap) : orA (k + 3) 26 [I64 z] h = some (Bo (anB z), h) := by
 refine callL (args' := [I64 z]) (frzL_lt rfl) rfl (runZ_of mf_kp1 (by simp) ?_)
 simp only [argsL]
 have hw := fun h => isSized_c k z 10000 h (by omega) (by omega) rfl
 have e : anB z = !inB z (-(10000 : Int)) 10000 := rfl
 rw [e]
 generalize inB z (-(10000 : Int)) 10000 = b at *
 repeat (first | apply ef_seq | (apply ef_mv; exact rfl; exact rfl) | (apply ef_not; (iterate 3 exact rfl)) | apply ef_nil | apply seqQ.normal | apply ef_ret | (apply ef_call; exact rfl; ((repeat (apply XVs.cons; exact rfl)); exact XVs.nil); (with_reducible exact hw _)))
 (refine fin1 rfl (by exact rfl) rfl ?_)
 rfl
end Go.Proofs.YtfchdbghjeophaaDoor

/- Contracts: clones; a net with other differences. -/
namespace Go.Proofs.YtfchdbghjeophaaDoor
open Go.RowKit
set_option linter.unusedVariables false
set_option linter.unusedSimpArgs false
theorem ef_eqns {O : Oracle} {I : Iter} {N n : Nat} {lk : Nat → Bool} {A : Sl} {h : MHeap} {Q : MX2 → Sl → MHeap → Prop} {os : List GO} {t : Nat} {neg : Bool} {x : MX} {e : MV} {es : List MV} (ht : Nat.blt t n = true) (hx : XV A x (.sl (e :: es))) (hE : Ef O I N n lk (.reg os) ((t, .lit (.bool neg)) :: A) h Q) : Ef O I N n lk (.reg (⟨none, some t, .eqn neg x⟩ :: os)) A h Q :=
 ef_op (fun S HS => by simp only [evO, HS.x hx]) ht hE
theorem mf_CloneL : MT.mf 45 = some ⟨8, [(.tmp 2)], (.seq (.reg [gO 2 (.nil0 2)]) (.seq (.seq (.reg [gO 3 (.mv (.s 0)), gO 4 (.eqn false (.s 3))]) (.cond (.s 4) (.seq (.reg [gO 2 (.nil0 2)]) .ret) .skip)) (.seq (.reg [gO 5 (.bsl (.agg [(.lit (.string ⟨#[]⟩)), (.lit (.bool false))]) 2 0 []), gO 6 (.mv (.s 0)), gO 7 (.app 2 (.s 5) (.s 6)), gO 2 (.mv (.s 7))]) .ret)))⟩ := by kernel_rfl
theorem mf_CloneC : MT.mf 46 = some ⟨8, [(.tmp 2)], (.seq (.reg [gO 2 (.nil0 6)]) (.seq (.seq (.reg [gO 3 (.mv (.s 0)), gO 4 (.eqn false (.s 3))]) (.cond (.s 4) (.seq (.reg [gO 2 (.nil0 6)]) .ret) .skip)) (.seq (.reg [gO 5 (.bsl (.agg [(.lit (.int .i64 0)), (.lit (.int .i64 0)), (.lit (.int .i64 0)), (.lit (.int .i64 0)), (.lit (.int .i64 0)), (.lit (.int .i64 0))]) 6 0 []), gO 6 (.mv (.s 0)), gO 7 (.app 6 (.s 5) (.s 6)), gO 2 (.mv (.s 7))]) .ret)))⟩ := by kernel_rfl
theorem CloneL_z (k : Nat) (l : Ln) (ls : List Ln) (hl : (l :: ls).length ≤ 1000) : runZ MT (orA k) (itA k) 4000000 45 [.sl ((l :: ls).map encLn)] [] = some (.arr 0 0 (l :: ls).length 0, [⟨0, false, 2, (l :: ls).map encLn⟩]) := by
 have q1 := sOk_Ln (l :: ls)
 refine runZ_of mf_CloneL (by simp) ?_
 simp only [argsL]
 repeat (first | apply ef_seq | (apply ef_mv; exact rfl; exact rfl) | (apply ef_nil0; exact rfl) | apply ef_nil | apply seqQ.normal)
 refine ef_eqns (by exact rfl) (by exact rfl) ?_
 repeat (first | apply ef_seq | (apply ef_mv; exact rfl; exact rfl) | (apply ef_bsl; exact rfl; (repeat (apply XVs.cons; exact rfl)); exact XVs.nil; exact rfl) | apply ef_nil | apply seqQ.normal | apply ef_skip | (apply ef_condf; exact rfl; (exact (rfl : false = false))))
 (apply ef_app; (· exact rfl); (· exact rfl); (· exact rfl); (· exact rfl); (· exact rfl); (· exact rfl); (· exact rfl); (· exact rfl); (· (simp at hl ⊢; omega)); (· exact q1); (· exact rfl))
 repeat (first | (apply ef_mv; exact rfl; exact rfl) | apply ef_nil | apply seqQ.normal | apply ef_ret)
 (apply fin_arr; (· exact rfl); (· exact rfl); (· exact rfl); (· exact rfl); (· simp); (· (exact ltL_Ln 0 (l :: ls))); (· (simp; rw [List.take_of_length_le (by simp)])); (· exact rfl); (· exact rfl); (· (simp)))
theorem CloneC_z (k : Nat) (l : Cr) (ls : List Cr) (hl : (l :: ls).length ≤ 1000) : runZ MT (orA k) (itA k) 4000000 46 [.sl ((l :: ls).map encCr)] [] = some (.arr 0 0 (l :: ls).length 0, [⟨0, false, 6, (l :: ls).map encCr⟩]) := by
 have q1 := sOk_Cr (l :: ls)
 refine runZ_of mf_CloneC (by simp) ?_
 simp only [argsL]
 repeat (first | apply ef_seq | (apply ef_mv; exact rfl; exact rfl) | (apply ef_nil0; exact rfl) | apply ef_nil | apply seqQ.normal)
 refine ef_eqns (by exact rfl) (by exact rfl) ?_
 repeat (first | apply ef_seq | (apply ef_mv; exact rfl; exact rfl) | (apply ef_bsl; exact rfl; (repeat (apply XVs.cons; exact rfl)); exact XVs.nil; exact rfl) | apply ef_nil | apply seqQ.normal | apply ef_skip | (apply ef_condf; exact rfl; (exact (rfl : false = false))))
 (apply ef_app; (· exact rfl); (· exact rfl); (· exact rfl); (· exact rfl); (· exact rfl); (· exact rfl); (· exact rfl); (· exact rfl); (· (simp at hl ⊢; omega)); (· exact q1); (· exact rfl))
 repeat (first | (apply ef_mv; exact rfl; exact rfl) | apply ef_nil | apply seqQ.normal | apply ef_ret)
 (apply fin_arr; (· exact rfl); (· exact rfl); (· exact rfl); (· exact rfl); (· simp); (· (exact ltL_Cr 0 (l :: ls))); (· (simp; rw [List.take_of_length_le (by simp)])); (· exact rfl); (· exact rfl); (· (simp)))
theorem CloneL_c (k : Nat) (l : Ln) (ls : List Ln) (hl : (l :: ls).length ≤ 1000) (h : MHeap) : orA (k + 1) 45 [.sl ((l :: ls).map encLn)] h = some (.arr h.length 0 (l :: ls).length 0, h ++ [⟨0, false, 2, (l :: ls).map encLn⟩]) := by
 have := callA (k := k) (h := h) (args := [.sl ((l :: ls).map encLn)]) (frzL_lt (by simp [ltL, MV.lt, ltL_Ln])) rfl (CloneL_z k l ls hl) rfl (by simp [okH, ltL, MV.lt, ltL_Ln, pureL, MV.pure, pureL_Ln])
 simpa [shV, sh1] using this
theorem CloneC_c (k : Nat) (l : Cr) (ls : List Cr) (hl : (l :: ls).length ≤ 1000) (h : MHeap) : orA (k + 1) 46 [.sl ((l :: ls).map encCr)] h = some (.arr h.length 0 (l :: ls).length 0, h ++ [⟨0, false, 6, (l :: ls).map encCr⟩]) := by
 have := callA (k := k) (h := h) (args := [.sl ((l :: ls).map encCr)]) (frzL_lt (by simp [ltL, MV.lt, ltL_Cr])) rfl (CloneC_z k l ls hl) rfl (by simp [okH, ltL, MV.lt, ltL_Cr, pureL, MV.pure, pureL_Cr])
 simpa [shV, sh1] using this
theorem CloneC_e (k : Nat) (h : MHeap) : orA (k + 1) 46 [.sl []] h = some (.sl [], h) := by
 have := callT (f := 46) (k := k) (h := h) (args := [.sl []]) (args' := [.sl []]) (m := .sl []) (news := []) rfl rfl rfl rfl
 simpa [shV, sh1] using this
end Go.Proofs.YtfchdbghjeophaaDoor

/- Contracts: a net with other differences. -/
namespace Go.Proofs.YtfchdbghjeophaaDoor
open Go.RowKit
set_option linter.unusedVariables false
set_option linter.unusedSimpArgs false
def setD (x : Cr) (d : Int) : Cr := ⟨x.ln, x.ti, x.pa, x.pt, d, x.wt⟩
def wiU (cs : List Cr) (ds : List Int) : Nat → List Cr
 | 0 => cs
 | i + 1 => (wiU cs ds i).set i (setD (cs.getD i default) (cAt ds i))
def nW (n : Nt) (ds : List Int) : Nt := ⟨n.ls, wiU n.cs ds n.cs.length⟩
theorem wiU_len (cs : List Cr) (ds : List Int) : ∀ i, (wiU cs ds i).length = cs.length
 | 0 => rfl
 | i + 1 => by rw [wiU, List.length_set, wiU_len cs ds i]
theorem wiU_at (cs : List Cr) (ds : List Int) : ∀ i j, i ≤ j → (wiU cs ds i)[j]? = cs[j]?
 | 0, j, _ => rfl
 | i + 1, j, h => by rw [wiU, List.getElem?_set_ne (by omega)]; exact wiU_at cs ds i j (by omega)
theorem wiU_next {cs : List Cr} {ds : List Int} {i : Nat} {x : Cr} (h : cs[i]? = some x) : wiU cs ds (i + 1) = (wiU cs ds i).set i (setD x (cAt ds i)) := by
 rw [wiU, List.getD_eq_getElem?_getD, h]; rfl
theorem mf_with : MT.mf 30 = some ⟨34, [(.cell 4 (some 2))], (.seq (.reg [gO 2 (.box 2 (.s 0)), gO 4 (.new (.agg [(.lit (.slice none 0 0)), (.lit (.slice none 0 0))]))]) (.seq (.reg [gO 5 (.new (.agg [(.lit (.slice none 0 0)), (.lit (.slice none 0 0))])), gO 8 (.fa 0 (.s 2)), gO 9 (.fa 0 (.s 8)), gO 10 (.ld none (.s 9)), gO 11 (.call 45 [.s 10]), gO 12 (.fa 0 (.s 2)), gO 13 (.fa 1 (.s 12)), gO 14 (.ld none (.s 13)), gO 15 (.call 46 [.s 14]), gO 16 (.build [(.lit (.slice none 0 0)), (.lit (.slice none 0 0))] [(0, (1, (.s 11))), (1, (1, (.s 15)))]), gO 17 (.build [(.lit (.slice none 0 0)), (.lit (.slice none 0 0))] [(0, (2, (.s 16)))]), gO 5 (.nilck (.s 5)), ⟨none, none, .st 2 (.s 5) (.s 17)⟩]) (.seq (.seq (.reg [gO 18 (.mv (.s 1)), gO 19 (.len (.s 18)), gO 20 (.mv (cI 0))]) (.block 0 (.loop [20, 19, 18, 5, 4] (.seq (.reg [gO 21 (.bin .lss (.s 20) (.s 19))]) (.seq (.cond (.s 21) .skip (.exit 0)) (.seq (.block 1 (.seq (.reg [gO 22 (.mv (.s 20)), gO 23 (.ia 1 (.s 18) (.s 20)), gO 24 (.ld none (.s 23)), gO 6 (.mv (.s 22)), gO 7 (.mv (.s 24))]) (.reg [gO 25 (.fa 0 (.s 5)), gO 26 (.fa 1 (.s 25)), gO 27 (.ld none (.s 26)), gO 28 (.mv (.s 6)), gO 29 (.mv (.s 7)), gO 30 (.ia 6 (.s 27) (.s 28)), gO 31 (.fa 4 (.s 30)), ⟨none, none, .st 1 (.s 31) (.s 29)⟩]))) (.reg [gO 32 (.bin .add (.s 20) (cI 1)), gO 20 (.mv (.s 32))]))))))) (.seq (.reg [gO 33 (.ld (some 2) (.s 5)), ⟨none, none, .st 2 (.s 4) (.s 33)⟩]) .ret))))⟩ := by kernel_rfl
set_option maxHeartbeats 2000000 in
theorem with_z (k : Nat) (l : Ln) (ls : List Ln) (c : Cr) (cs : List Cr) (h1 : (l :: ls).length ≤ 1000) (h2 : (c :: cs).length ≤ 1000) (ds : List Int) (hd : ds.length = (c :: cs).length) :
  runZ MT (orA (k + 1)) (itA (k + 1)) 4000000 30 [encN ⟨l :: ls, c :: cs⟩, .sl (ds.map I64)] [] = some (encN (nW ⟨l :: ls, c :: cs⟩ ds), []) := by
 have hs3 : (MV.sl (ds.map I64)).slen = some ds.length := by simp [MV.slen]
 have w1 := fun h => CloneL_c k l ls h1 h
 have w2 := fun h => CloneC_c k c cs h2 h
 refine runZ_of mf_with (by simp) ?_
 simp only [argsL]
 generalize hL : l :: ls = L at *
 generalize hC : c :: cs = C at *
 repeat (first | apply ef_seq | (apply ef_mv; exact rfl; exact rfl) | (apply ef_len; exact rfl; exact rfl; (assumption)) | (apply ef_ldp; exact rfl; exact rfl; (exact rfl); exact rfl; (exact rfl); (exact rfl)) | (apply ef_fap; exact rfl; exact rfl) | (apply ef_box; (iterate 4 exact rfl)) | (apply ef_new; exact rfl) | (apply ef_build; exact rfl; (repeat (apply XVs.cons; exact rfl)); exact XVs.nil; exact rfl; exact rfl) | (apply ef_nilck; (iterate 3 exact rfl)) | (apply ef_st; (iterate 6 exact rfl); (exact rfl); exact rfl) | apply ef_nil | apply seqQ.normal | apply ef_block | (apply ef_call; exact rfl; ((repeat (apply XVs.cons; exact rfl)); exact XVs.nil); (with_reducible first | exact w1 _ | exact w2 _)))
 refine ef_loopf (α := Nat × List MV) (fun p => p.1 ≤ C.length ∧ p.2 = (wiU C ds p.1).map encCr) (fun p => [(20, I64 (p.1 : Int))]) [(19, I64 (ds.length : Int)), (18, .sl (ds.map I64)), (5, .ptr 2 0 0 0), (4, .ptr 1 0 0 0)] (fun p => [⟨0, false, 2, [encN ⟨L, C⟩]⟩, ⟨0, false, 2, [.agg [.lit (.slice none 0 0), .lit (.slice none 0 0)]]⟩, ⟨0, false, 2, [.agg [.arr 3 0 L.length 0, .arr 4 0 C.length 0]]⟩, ⟨0, false, 2, L.map encLn⟩, ⟨0, false, 6, p.2⟩]) (fun p => C.length - p.1) (0, C.map encCr) [20] (fun _ => rfl) (by ((repeat (refine Hold.cons (by exact rfl) ?_)); exact Hold.nil)) (by ((repeat (refine Hold.cons (by exact rfl) ?_)); exact Hold.nil)) rfl rfl ⟨by omega, rfl⟩ (by simp; omega) ?_
 rintro ⟨i, rs⟩ ⟨hi, hrs⟩
 try simp only at hi hrs ⊢
 have hrl : rs.length = C.length := by rw [hrs]; simp [wiU_len]
 by_cases hlt : i < C.length
 ·have e1 := at_map I64 ds i (by omega)
  have hat : C[i]? = some C[i] := List.getElem?_eq_getElem hlt
  have e2 : rs[0 + ((i : Nat) : Int).toNat]? = some (encCr C[i]) := by
   rw [hrs, Nat.zero_add, Int.toNat_natCast, List.getElem?_map, wiU_at C ds i i (Nat.le_refl _), hat]; rfl
  have hcd : cAt ds (i : Int) = ds[i] := by unfold cAt; rw [Int.toNat_natCast, List.getD_eq_getElem?_getD, List.getElem?_eq_getElem (by omega)]; rfl
  have HN := Lib.hid (wiU_next (ds := ds) hat)
  rw [hcd] at HN
  generalize C[i] = x at e2 HN
  generalize ds[i] = d at e1 HN
  have hls : ∀ (j i : Nat) (a b c d e f : Int), ltL j (rs.set i (.agg [I64 a, I64 b, I64 c, I64 d, I64 e, I64 f])) = true := fun j i a b c d e f => ltL_set (by rw [hrs]; exact ltL_Cr j _) rfl
  repeat (first | apply ef_seq | (apply ef_mv; exact rfl; exact rfl) | (apply ef_bin; (iterate 3 exact rfl); (first | exact cmp_t rfl (by first | exact rfl | (simp only [cmpP]; omega)) | ((with_reducible refine bin_add (wrap_of ?_ ?_)) <;> omega))) | (apply ef_ldr; exact rfl; exact rfl; (exact rfl)) | (apply ef_ldp; exact rfl; exact rfl; (exact rfl); exact rfl; (exact rfl); (exact rfl)) | (apply ef_ias; (iterate 3 exact rfl); (omega); assumption; exact rfl) | (apply ef_iaa; (iterate 3 exact rfl); (omega); (omega); (exact rfl)) | (apply ef_fap; exact rfl; exact rfl) | (apply ef_st; (iterate 6 exact rfl); (assumption); exact rfl) | apply ef_nil | apply seqQ.normal | apply blockQ.normal | apply ef_block | apply ef_skip | (apply ef_condt; exact rfl; (exact (rfl : true = true))))
  (refine loopQ.normal _ _ ⟨(i + 1, rs.set (0 + ((i : Nat) : Int).toNat) (encCr (setD x d))), ⟨hlt, by rw [HN.out, hrs, Nat.zero_add, Int.toNat_natCast, List.map_set]⟩, (by first | (simp only; omega) | omega), ⟨by ((repeat (refine Hold.cons (by exact rfl) ?_)); exact Hold.nil), by ((repeat (refine Hold.cons (by exact rfl) ?_)); exact Hold.nil)⟩, .inr ⟨by ((repeat (refine hdl_cons rfl (by first | rfl | (simp [MV.lt, ltL, ltL_Ln, ltL_Cr, ltL_I, hls, splice, MV.cells])) ?_)); exact hdl_nil), by (simp [hltL, ltL, MV.lt, ltL, ltL_Ln, ltL_Cr, ltL_I, hls, splice, MV.cells])⟩, by exact rfl⟩)
 ·obtain rfl : i = C.length := by omega
  repeat (first | apply ef_seq | (apply ef_bin; (iterate 3 exact rfl); (exact cmp_f rfl (by simp only [cmpP]; omega))) | (apply ef_ldp; exact rfl; exact rfl; (exact rfl); exact rfl; (exact rfl); (exact rd_2 rfl rfl)) | (apply ef_st; (iterate 6 exact rfl); (exact rfl); exact rfl) | apply ef_nil | apply seqQ.normal | apply loopQ.exit | apply ef_ret | apply ef_exit | apply seqQ.exit | apply blockQ.here | (apply ef_condf; exact rfl; (exact (rfl : false = false))))
  (apply fin_cellz; (· exact rfl); (· exact ⟨1, 0, 0, 0, _, _, by exact rfl, by exact rfl, rfl, rfl, rd_2 rfl rfl⟩))
  exact frzF_agg2 rfl (frzF_arr (o := ⟨0, false, 2, L.map encLn⟩) rfl rfl (by simp [nW]) (ltL_Ln 0 _) rfl) (frzF_arr (o := ⟨0, false, 6, rs⟩) rfl rfl (by simp [nW, wiU_len]) (ltL_Cr 0 _) hrs)
theorem with0_z (k : Nat) (l : Ln) (ls : List Ln) (h1 : (l :: ls).length ≤ 1000) :
  runZ MT (orA (k + 1)) (itA (k + 1)) 4000000 30 [encN ⟨l :: ls, []⟩, .sl []] [] = some (encN ⟨l :: ls, []⟩, []) := by
 have w1 := fun h => CloneL_c k l ls h1 h
 have w2 : ∀ h, orA (k + 1) 46 [.sl (([] : List Cr).map encCr)] h = some (.sl [], h) := fun h => CloneC_e k h
 refine runZ_of mf_with (by simp) ?_
 simp only [argsL]
 generalize hL : l :: ls = L at *
 repeat (first | apply ef_seq | (apply ef_mv; exact rfl; exact rfl) | (apply ef_len; exact rfl; exact rfl; (exact rfl)) | (apply ef_ldp; exact rfl; exact rfl; (exact rfl); exact rfl; (exact rfl); (exact rfl)) | (apply ef_fap; exact rfl; exact rfl) | (apply ef_box; (iterate 4 exact rfl)) | (apply ef_new; exact rfl) | (apply ef_build; exact rfl; (repeat (apply XVs.cons; exact rfl)); exact XVs.nil; exact rfl; exact rfl) | (apply ef_nilck; (iterate 3 exact rfl)) | (apply ef_st; (iterate 6 exact rfl); (exact rfl); exact rfl) | apply ef_nil | apply seqQ.normal | apply ef_block | (apply ef_call; exact rfl; ((repeat (apply XVs.cons; exact rfl)); exact XVs.nil); (with_reducible first | exact w1 _ | exact w2 _)))
 refine ef_loop (α := Unit) (fun _ => True) (fun _ => [(20, I64 0), (19, I64 0), (5, .ptr 2 0 0 0), (4, .ptr 1 0 0 0)]) (fun _ => [⟨0, false, 2, [encN ⟨L, []⟩]⟩, ⟨0, false, 2, [.agg [.lit (.slice none 0 0), .lit (.slice none 0 0)]]⟩, ⟨0, false, 2, [.agg [.arr 3 0 L.length 0, .sl []]]⟩, ⟨0, false, 2, L.map encLn⟩]) (fun _ => 0) () [20, 19, 5, 4] (fun _ => rfl) rfl trivial (by simp) (by ((repeat (refine Hold.cons (by exact rfl) ?_)); exact Hold.nil)) rfl ?_
 rintro ⟨⟩ -
 repeat (first | apply ef_seq | (apply ef_bin; (iterate 3 exact rfl); (exact cmp_f rfl (by simp only [cmpP]; omega))) | (apply ef_ldp; exact rfl; exact rfl; (exact rfl); exact rfl; (exact rfl); (exact rd_2 rfl rfl)) | (apply ef_st; (iterate 6 exact rfl); (exact rfl); exact rfl) | apply ef_nil | apply seqQ.normal | apply loopQ.exit | apply ef_ret | apply ef_exit | apply seqQ.exit | apply blockQ.here | (apply ef_condf; exact rfl; (exact (rfl : false = false))))
 (apply fin_cellz; (· exact rfl); (· exact ⟨1, 0, 0, 0, _, _, by exact rfl, by exact rfl, rfl, rfl, rd_2 rfl rfl⟩))
 exact frzF_agg2 rfl (frzF_arr (o := ⟨0, false, 2, L.map encLn⟩) rfl rfl (by simp) (ltL_Ln 0 _) rfl) (frzF_lt rfl)
theorem withN_z (k : Nat) (n : Nt) (h0 : 0 < n.ls.length) (h1 : n.ls.length ≤ 1000) (h2 : n.cs.length ≤ 1000) (ds : List Int) (hd : ds.length = n.cs.length) :
  runZ MT (orA (k + 1)) (itA (k + 1)) 4000000 30 [encN n, .sl (ds.map I64)] [] = some (encN (nW n ds), []) := by
 obtain ⟨ls, cs⟩ := n
 cases ls with
 | nil => simp at h0
 | cons l ls =>
  cases cs with
  | nil =>
   obtain rfl : ds = [] := List.length_eq_zero_iff.1 hd
   exact with0_z k l ls h1
  | cons c cs => exact with_z k l ls c cs h1 h2 ds hd
theorem withN_c (k : Nat) (n : Nt) (h0 : 0 < n.ls.length) (h1 : n.ls.length ≤ 1000) (h2 : n.cs.length ≤ 1000) (ds : List Int) (hd : ds.length = n.cs.length) (h : MHeap) :
  orA (k + 2) 30 [encN n, .sl (ds.map I64)] h = some (encN (nW n ds), h) := by
 have := callA (k := k + 1) (h := h) (args := [encN n, .sl (ds.map I64)]) (args' := [encN n, .sl (ds.map I64)]) (frzL_lt (by simp [ltL, MV.lt, ltL_Ln, ltL_Cr, ltL_I])) rfl (withN_z k n h0 h1 h2 ds hd) (by simp [okV, ok1, MV.lt, ltL, ltL_Ln, ltL_Cr, ltL_I]) rfl
 simpa [shV, sh1] using this
theorem wiU_get (cs : List Cr) (ds : List Int) : ∀ (N i : Nat) (hi : i < cs.length), i < N → (wiU cs ds N)[i]? = some (setD cs[i] (cAt ds i))
 | 0, i, _, h => by omega
 | N + 1, i, hi, h => by
  rw [wiU]
  by_cases e : i = N
  ·subst e
   rw [List.getElem?_set_self (by rw [wiU_len]; exact hi), List.getD_eq_getElem?_getD, List.getElem?_eq_getElem hi]; rfl
  ·rw [List.getElem?_set_ne (by omega)]
   exact wiU_get cs ds N i hi (by omega)
theorem nW_get (n : Nt) (ds : List Int) (i : Nat) (hi : i < n.cs.length) (hi2 : i < (nW n ds).cs.length) : (nW n ds).cs[i] = setD n.cs[i] (cAt ds i) := by
 have := wiU_get n.cs ds n.cs.length i hi hi
 rw [List.getElem?_eq_getElem (by rw [wiU_len]; exact hi)] at this
 exact Option.some.inj this
theorem nW_ok {n : Nt} (ok : OkN n) {ds : List Int} (hb : ∀ v, -10000 ≤ cAt ds v ∧ cAt ds v ≤ 10000) : OkN (nW n ds) := by
 have hlen : (nW n ds).cs.length = n.cs.length := wiU_len _ _ _
 have key : ∀ x ∈ (nW n ds).cs, ∃ (i : Nat) (h : i < n.cs.length), x = setD n.cs[i] (cAt ds i) := fun x hx => by
  obtain ⟨i, hi, rfl⟩ := List.getElem_of_mem hx
  exact ⟨i, by omega, nW_get n ds i (by omega) hi⟩
 refine ⟨ok.l1, ok.l8, by rw [hlen]; exact ok.c16, fun x hx => ?_, fun x hx => ?_, fun i j hi hj hij => ?_⟩
 ·obtain ⟨i, hi, rfl⟩ := key x hx
  have o := ok.rg _ (List.getElem_mem hi)
  exact ⟨o.l0, o.l1, o.t0, o.t1, o.pa, o.pt, hb _, o.wt⟩
 ·obtain ⟨i, hi, rfl⟩ := key x hx
  have hk := ok.kd n.cs[i] (List.getElem_mem hi)
  exact hk
 ·rw [nW_get n ds i (by omega) hi, nW_get n ds j (by omega) hj]
  exact ok.ds i j (by omega) (by omega) hij
end Go.Proofs.YtfchdbghjeophaaDoor

/- Contracts: which flows are accepted, and their values; the program, and the document. -/
namespace Go.Proofs.YtfchdbghjeophaaDoor
open Go.RowKit
set_option linter.unusedVariables false
set_option linter.unusedSimpArgs false
end Go.Proofs.YtfchdbghjeophaaDoor

/- Contracts of the document: the error and the value of a flow. -/
namespace Go.Proofs.YtfchdbghjeophaaDoor
open Go.RowKit
set_option linter.unusedVariables false
set_option linter.unusedSimpArgs false
end Go.Proofs.YtfchdbghjeophaaDoor

/- Contracts: the misclosure of a walk; the program, and the document. -/
namespace Go.Proofs.YtfchdbghjeophaaDoor
open Go.RowKit
set_option linter.unusedVariables false
set_option linter.unusedSimpArgs false
end Go.Proofs.YtfchdbghjeophaaDoor

/- What is kept of an anomaly: its bounds, walks, corrections' own differences; without a program. -/
namespace Go.Proofs.YtfchdbghjeophaaDoor
set_option linter.unusedVariables false
set_option linter.unusedSimpArgs false
def kpV (n : Nt) (a : List Int) : Int := valU (nW n a).cs (flZ (nW n a)) (nW n a).cs.length
theorem nW_len (n : Nt) (a : List Int) : (nW n a).cs.length = n.cs.length := wiU_len _ _ _
theorem nW_getD (n : Nt) (a : List Int) {i : Nat} (h : i < n.cs.length) : (nW n a).cs.getD i default = setD (n.cs.getD i default) (cAt a i) := by
 rw [List.getD_eq_getElem?_getD, List.getElem?_eq_getElem (by rw [nW_len]; exact h), nW_get n a i h, List.getD_eq_getElem?_getD, List.getElem?_eq_getElem h]; rfl
def sumA (fl a : List Int) : Nat → Int
 | 0 => 0
 | i + 1 => sumA fl a i + cAt fl i * cAt a i
theorem valU_nW (n : Nt) (a fl : List Int) : ∀ i, i ≤ n.cs.length → valU (nW n a).cs fl i = sumA fl a i
 | 0, _ => rfl
 | i + 1, h => by rw [valU, sumA, valU_nW n a fl i (by omega), nW_getD n a (by omega)]; rfl
theorem sumV_nW (n : Nt) (a fl : List Int) (v : Int) : ∀ i, i ≤ n.cs.length → sumV (nW n a).cs fl v i = sumV n.cs fl v i
 | 0, _ => rfl
 | i + 1, h => by rw [sumV, sumV, sumV_nW n a fl v i (by omega), nW_getD n a (by omega)]; rfl
theorem flOk_nW {n : Nt} {a fl : List Int} : FlOk (nW n a) fl ↔ FlOk n fl := by
 constructor
 ·rintro ⟨h1, h2, h3⟩
  refine ⟨by rw [h1, nW_len], fun i hi => ?_, fun v => ?_⟩
  ·have := h2 i (by rw [nW_len]; exact hi)
   rw [nW_get n a i hi] at this
   exact this
  ·have := h3 v
   rw [nW_len, sumV_nW n a fl v _ (Nat.le_refl _)] at this
   exact this
 ·rintro ⟨h1, h2, h3⟩
  refine ⟨by rw [h1, nW_len], fun i hi => ?_, fun v => ?_⟩
  ·rw [nW_len] at hi
   rw [nW_get n a i hi]
   exact h2 i hi
  ·rw [nW_len, sumV_nW n a fl v _ (Nat.le_refl _)]
   exact h3 v
theorem kp_max {n : Nt} {a : List Int} (ok : OkN (nW n a)) {fl : List Int} (hf : FlOk n fl) : sumA fl a n.cs.length ≤ kpV n a := by
 have := (flZ_max ok).1 fl (flOk_nW.2 hf)
 unfold kpV
 rw [nW_len, valU_nW n a fl _ (Nat.le_refl _)] at this
 rw [nW_len]; exact this
theorem kp_is {n : Nt} {a : List Int} (ok : OkN (nW n a)) : ∃ fl, FlOk n fl ∧ kpV n a = sumA fl a n.cs.length := by
 refine ⟨flZ (nW n a), flOk_nW.1 (flZ_ok ok).1, ?_⟩
 unfold kpV
 rw [nW_len, valU_nW n a _ _ (Nat.le_refl _)]
theorem kp_nn {n : Nt} {a : List Int} (ok : OkN (nW n a)) : 0 ≤ kpV n a := by
 have := (flZ_max ok).1 _ (fl_zero ok)
 rwa [val_zero] at this
theorem resP_nW (n : Nt) (a : List Int) (p : Int → Int) {i : Nat} (h : i < n.cs.length) : resP ((nW n a).cs.getD i default) p = cAt a i - p (n.cs.getD i default).ln + p (n.cs.getD i default).ti := by
 rw [nW_getD n a h]; rfl
theorem kp_le {n : Nt} {a : List Int} (ok : OkN (nW n a)) : kpV n a ≤ wsU n.cs a n.cs.length := by
 have h1 := weak ok (flZ_ok ok).1 (fun _ => 0)
 have h2 : ∀ i, i ≤ n.cs.length → costP (nW n a).cs (fun _ => 0) i = wsU n.cs a i := fun i => by
  induction i with
  | zero => intro _; rfl
  | succ i ih =>
   intro hi
   rw [costP, wsU, ih (by omega), resP_nW n a _ (by omega), nW_getD n a (by omega)]
   simp only [Int.sub_zero, Int.add_zero]
   rfl
 rw [nW_len, h2 _ (Nat.le_refl _)] at h1
 unfold kpV
 rw [nW_len]; exact h1
theorem sumA_add {fl a d b : List Int} : ∀ k, (∀ i : Nat, i < k → cAt b i = cAt a i + cAt d i) → sumA fl b k = sumA fl a k + sumA fl d k
 | 0, _ => rfl
 | k + 1, h => by rw [sumA, sumA, sumA, sumA_add k (fun i hi => h i (by omega)), h k (by omega), Int.mul_add]; omega
theorem scanE_all {α : Type} {f : List α → α → Int} : ∀ (xs pre : List α), (∀ (i : Nat) (h : i < xs.length), f (pre ++ xs.take i) xs[i] = 0) → scanE f pre xs = (0, 0)
 | [], pre, _ => rfl
 | x :: xs, pre, h => by
  have h0 := h 0 (by simp)
  simp only [List.take_zero, List.append_nil, List.getElem_cons_zero] at h0
  rw [scanE, if_pos h0]
  refine scanE_all xs (pre ++ [x]) fun i hi => ?_
  have := h (i + 1) (by simpa using hi)
  simpa using this
theorem net_of {n : Nt} (hl : (scanE lineE [] n.ls).2 = 0) (ok : OkN n) : (netF n).2 = 0 := by
 have h1 := ok.l1
 have h8 := ok.l8
 have h16 := ok.c16
 unfold netF
 rw [if_neg (by omega), if_neg (by omega), if_pos hl, scanE_all n.cs [] fun i hi => ?_]
 have o := ok.rg _ (List.getElem_mem hi)
 have k := ok.kd _ (List.getElem_mem hi)
 have o1 := o.l1
 have o2 := o.t1
 unfold crossE
 rw [if_pos (by rw [inB_iff.2 ⟨o.l0, by omega⟩, inB_iff.2 ⟨o.t0, by omega⟩]; rfl), k.1, k.2]
 have h2 : rngB n.cs[i] = true := by
  unfold rngB
  rw [inB_iff.2 o.pa, inB_iff.2 o.pt, inB_iff.2 o.df, inB_iff.2 o.wt]; rfl
 have h3 : ([] ++ n.cs.take i).any (dblB n.cs[i]) = false := by
  rw [List.any_eq_false]
  intro x hx
  rw [List.nil_append] at hx
  obtain ⟨j, hj, rfl⟩ := List.getElem_of_mem hx
  rw [List.length_take] at hj
  rw [List.getElem_take, ok.ds i j hi (by omega) (by omega)]
  simp
 rw [h2, h3]
 rfl
theorem net_lines {n : Nt} (h : (netF n).2 = 0) : (scanE lineE [] n.ls).2 = 0 := by
 obtain ⟨q1, q2, q3⟩ := netF_pos h
 unfold netF at h
 rw [if_neg (by omega), if_neg (by omega)] at h
 split at h
 ·assumption
 ·exact h
theorem nW_net {n : Nt} (h : (netF n).2 = 0) {ds : List Int} (hb : ∀ v, -10000 ≤ cAt ds v ∧ cAt ds v ≤ 10000) : (netF (nW n ds)).2 = 0 :=
 net_of (n := nW n ds) (net_lines (n := n) h) (nW_ok (net_ok h) hb)
end Go.Proofs.YtfchdbghjeophaaDoor

/- Corrected nets (plain): the same misclosures, costs and limits; walks there and back. -/
namespace Go.Proofs.YtfchdbghjeophaaDoor
open Go.RowKit
set_option linter.unusedVariables false
set_option linter.unusedSimpArgs false
structure Shf (q : Int → Int) (cs cs' : List Cr) : Prop where
 len : cs'.length = cs.length
 ln : ∀ i : Nat, i < cs.length → (cs'.getD i default).ln = (cs.getD i default).ln
 ti : ∀ i : Nat, i < cs.length → (cs'.getD i default).ti = (cs.getD i default).ti
 df : ∀ i : Nat, i < cs.length → (cs'.getD i default).df = resP (cs.getD i default) q
 wt : ∀ i : Nat, i < cs.length → (cs'.getD i default).wt = (cs.getD i default).wt
inductive Wk (cs : List Cr) : Nat → Int → Int → List Int → Int → Int → Prop
 | nil (k : Nat) (a s : Int) : Wk cs k a s [] a s
 | odd {k : Nat} {i e t s : Int} {w : List Int} (hin : inB i 0 ((cs.length : Int) - 1) = true) (hk : k % 2 = 1) (h : Wk cs (k + 1) (cs.getD i.toNat default).ln (s + (0 - (cs.getD i.toNat default).df)) w e t) : Wk cs k (cs.getD i.toNat default).ti s (i :: w) e t
 | even {k : Nat} {i e t s : Int} {w : List Int} (hin : inB i 0 ((cs.length : Int) - 1) = true) (hk : k % 2 = 0) (h : Wk cs (k + 1) (cs.getD i.toNat default).ti (s + (cs.getD i.toNat default).df) w e t) : Wk cs k (cs.getD i.toNat default).ln s (i :: w) e t
theorem Wk.app {cs : List Cr} {v : List Int} {e' t' : Int} : ∀ {w : List Int} {k : Nat} {a s e t : Int}, Wk cs k a s w e t → Wk cs (k + w.length) e t v e' t' → Wk cs k a s (w ++ v) e' t'
 | _, _, _, _, _, _, .nil k a s, h => by simpa using h
 | _, _, _, _, _, _, .odd hin hk h1, h => .odd hin hk (h1.app (by simpa [Nat.add_assoc, Nat.add_comm 1] using h))
 | _, _, _, _, _, _, .even hin hk h1, h => .even hin hk (h1.app (by simpa [Nat.add_assoc, Nat.add_comm 1] using h))
end Go.Proofs.YtfchdbghjeophaaDoor

/- Small helpers about memory. -/
namespace Go.Proofs.YtfchdbghjeophaaDoor
open Go.RowKit
set_option linter.unusedVariables false
structure Bx (p : Prop) : Prop where
 out : p
end Go.Proofs.YtfchdbghjeophaaDoor

/- Contracts: the document's net with other differences. -/
namespace Go.Proofs.YtfchdbghjeophaaDoor
open Go.RowKit
set_option linter.unusedVariables false
set_option linter.unusedSimpArgs false
theorem mf_rWith : MT.mf 11 = some ⟨25, [(.cell 4 (some 2))], (.seq (.reg [gO 2 (.box 2 (.s 0)), gO 4 (.new (.agg [(.lit (.slice none 0 0)), (.lit (.slice none 0 0))]))]) (.seq (.reg [gO 7 (.ld (some 2) (.s 2)), gO 8 (.call 10 [.s 7]), gO 5 (.new (.agg [(.lit (.slice none 0 0)), (.lit (.slice none 0 0))])), ⟨none, none, .st 2 (.s 5) (.s 8)⟩]) (.seq (.seq (.reg [gO 6 (.mv (cI 0))]) (.block 0 (.loop [6, 1, 5, 4] (.seq (.seq (.reg [gO 9 (.mv (.s 6)), gO 10 (.mv (.s 1)), gO 11 (.len (.s 10)), gO 12 (.bin .lss (.s 9) (.s 11))]) (.cond (.s 12) .skip (.exit 0))) (.seq (.block 1 (.reg [gO 15 (.fa 1 (.s 5)), gO 16 (.ld none (.s 15)), gO 17 (.mv (.s 6)), gO 18 (.mv (.s 1)), gO 19 (.mv (.s 6)), gO 20 (.ia 1 (.s 18) (.s 19)), gO 21 (.ld none (.s 20)), gO 22 (.ia 6 (.s 16) (.s 17)), gO 23 (.fa 4 (.s 22)), ⟨none, none, .st 1 (.s 23) (.s 21)⟩])) (.reg [gO 13 (.mv (.s 6)), gO 14 (.bin .add (.s 13) (cI 1)), gO 6 (.mv (.s 14))])))))) (.seq (.reg [gO 24 (.ld (some 2) (.s 5)), ⟨none, none, .st 2 (.s 4) (.s 24)⟩]) .ret))))⟩ := by kernel_rfl
set_option maxHeartbeats 2000000 in
theorem rWith_z (k : Nat) (l : Ln) (ls : List Ln) (c : Cr) (cs : List Cr) (hb : BdN ⟨l :: ls, c :: cs⟩) (h2 : (c :: cs).length ≤ 1000) (ds : List Int) (hd : ds.length = (c :: cs).length) :
  runZ MT (orA (k + 1)) (itA (k + 1)) 4000000 11 [encN ⟨l :: ls, c :: cs⟩, .sl (ds.map I64)] [] = some (encN (nW ⟨l :: ls, c :: cs⟩ ds), []) := by
 have hs3 : (MV.sl (ds.map I64)).slen = some ds.length := by simp [MV.slen]
 have w1 := fun h => Copy_c k ⟨l :: ls, c :: cs⟩ hb h
 simp only [cpV, cpH] at w1
 refine runZ_of mf_rWith (by simp) ?_
 simp only [argsL]
 generalize hL : l :: ls = L at *
 generalize hC : c :: cs = C at *
 repeat (first | apply ef_seq | (apply ef_mv; exact rfl; exact rfl) | (apply ef_ldp; exact rfl; exact rfl; (exact rfl); exact rfl; (exact rfl); (exact rd_2 rfl rfl)) | (apply ef_box; (iterate 4 exact rfl)) | (apply ef_new; exact rfl) | (apply ef_st; (iterate 6 exact rfl); (exact rfl); exact rfl) | apply ef_nil | apply seqQ.normal | apply ef_block | (apply ef_call; exact rfl; ((repeat (apply XVs.cons; exact rfl)); exact XVs.nil); (with_reducible exact w1 _)))
 refine ef_loopf (α := Nat × List MV) (fun p => p.1 ≤ C.length ∧ p.2 = (wiU C ds p.1).map encCr) (fun p => [(6, I64 (p.1 : Int))]) [(1, .sl (ds.map I64)), (5, .ptr 4 0 0 0), (4, .ptr 1 0 0 0)] (fun p => [⟨0, false, 2, [encN ⟨L, C⟩]⟩, ⟨0, false, 2, [.agg [.lit (.slice none 0 0), .lit (.slice none 0 0)]]⟩, ⟨0, false, 2, L.map encLn⟩, ⟨0, false, 6, p.2⟩, ⟨0, false, 2, [.agg [.arr 2 0 L.length 0, .arr 3 0 C.length 0]]⟩]) (fun p => C.length - p.1) (0, C.map encCr) [6] (fun _ => rfl) (by ((repeat (refine Hold.cons (by exact rfl) ?_)); exact Hold.nil)) (by ((repeat (refine Hold.cons (by exact rfl) ?_)); exact Hold.nil)) rfl rfl ⟨by omega, rfl⟩ (by simp; omega) ?_
 rintro ⟨i, rs⟩ ⟨hi, hrs⟩
 try simp only at hi hrs ⊢
 have hrl : rs.length = C.length := by rw [hrs]; simp [wiU_len]
 by_cases hlt : i < C.length
 ·have e1 := at_map I64 ds i (by omega)
  have hat : C[i]? = some C[i] := List.getElem?_eq_getElem hlt
  have e2 : rs[0 + ((i : Nat) : Int).toNat]? = some (encCr C[i]) := by
   rw [hrs, Nat.zero_add, Int.toNat_natCast, List.getElem?_map, wiU_at C ds i i (Nat.le_refl _), hat]; rfl
  have hcd : cAt ds (i : Int) = ds[i] := by unfold cAt; rw [Int.toNat_natCast, List.getD_eq_getElem?_getD, List.getElem?_eq_getElem (by omega)]; rfl
  have HN := Lib.hid (wiU_next (ds := ds) hat)
  rw [hcd] at HN
  generalize C[i] = x at e2 HN
  generalize ds[i] = d at e1 HN
  have hls : ∀ (j i : Nat) (a b c d e f : Int), ltL j (rs.set i (.agg [I64 a, I64 b, I64 c, I64 d, I64 e, I64 f])) = true := fun j i a b c d e f => ltL_set (by rw [hrs]; exact ltL_Cr j _) rfl
  repeat (first | apply ef_seq | (apply ef_mv; exact rfl; exact rfl) | (apply ef_bin; (iterate 3 exact rfl); (first | exact cmp_t rfl (by first | exact rfl | (simp only [cmpP]; omega)) | ((with_reducible refine bin_add (wrap_of ?_ ?_)) <;> omega))) | (apply ef_len; exact rfl; exact rfl; (assumption)) | (apply ef_ldr; exact rfl; exact rfl; (exact rfl)) | (apply ef_ldp; exact rfl; exact rfl; (exact rfl); exact rfl; (exact rfl); (exact rfl)) | (apply ef_ias; (iterate 3 exact rfl); (omega); assumption; exact rfl) | (apply ef_iaa; (iterate 3 exact rfl); (omega); (omega); (exact rfl)) | (apply ef_fap; exact rfl; exact rfl) | (apply ef_st; (iterate 6 exact rfl); (assumption); exact rfl) | apply ef_nil | apply seqQ.normal | apply blockQ.normal | apply ef_block | apply ef_skip | (apply ef_condt; exact rfl; (exact (rfl : true = true))))
  (refine loopQ.normal _ _ ⟨(i + 1, rs.set (0 + ((i : Nat) : Int).toNat) (encCr (setD x d))), ⟨hlt, by rw [HN.out, hrs, Nat.zero_add, Int.toNat_natCast, List.map_set]⟩, (by first | (simp only; omega) | omega), ⟨by ((repeat (refine Hold.cons (by exact rfl) ?_)); exact Hold.nil), by ((repeat (refine Hold.cons (by exact rfl) ?_)); exact Hold.nil)⟩, .inr ⟨by ((repeat (refine hdl_cons rfl (by first | rfl | (simp [MV.lt, ltL, ltL_Ln, ltL_Cr, ltL_I, hls, splice, MV.cells])) ?_)); exact hdl_nil), by (simp [hltL, ltL, MV.lt, ltL, ltL_Ln, ltL_Cr, ltL_I, hls, splice, MV.cells])⟩, by exact rfl⟩)
 ·obtain rfl : i = C.length := by omega
  repeat (first | apply ef_seq | (apply ef_mv; exact rfl; exact rfl) | (apply ef_bin; (iterate 3 exact rfl); (exact cmp_f rfl (by simp only [cmpP]; omega))) | (apply ef_len; exact rfl; exact rfl; (assumption)) | (apply ef_ldp; exact rfl; exact rfl; (exact rfl); exact rfl; (exact rfl); (exact rd_2 rfl rfl)) | (apply ef_st; (iterate 6 exact rfl); (exact rfl); exact rfl) | apply ef_nil | apply seqQ.normal | apply loopQ.exit | apply ef_ret | apply ef_exit | apply seqQ.exit | apply blockQ.here | (apply ef_condf; exact rfl; (exact (rfl : false = false))))
  (apply fin_cellz; (· exact rfl); (· exact ⟨1, 0, 0, 0, _, _, by exact rfl, by exact rfl, rfl, rfl, rd_2 rfl rfl⟩))
  exact frzF_agg2 rfl (frzF_arr (o := ⟨0, false, 2, L.map encLn⟩) rfl rfl (by simp [nW]) (ltL_Ln 0 _) rfl) (frzF_arr (o := ⟨0, false, 6, rs⟩) rfl rfl (by simp [nW, wiU_len]) (ltL_Cr 0 _) hrs)
theorem rWith0_z (k : Nat) (l : Ln) (ls : List Ln) (hb : BdN ⟨l :: ls, []⟩) :
  runZ MT (orA (k + 1)) (itA (k + 1)) 4000000 11 [encN ⟨l :: ls, []⟩, .sl []] [] = some (encN ⟨l :: ls, []⟩, []) := by
 have w1 := fun h => Copy_c k ⟨l :: ls, []⟩ hb h
 simp only [cpV, cpH] at w1
 refine runZ_of mf_rWith (by simp) ?_
 simp only [argsL]
 generalize hL : l :: ls = L at *
 repeat (first | apply ef_seq | (apply ef_mv; exact rfl; exact rfl) | (apply ef_ldp; exact rfl; exact rfl; (exact rfl); exact rfl; (exact rfl); (exact rd_2 rfl rfl)) | (apply ef_box; (iterate 4 exact rfl)) | (apply ef_new; exact rfl) | (apply ef_st; (iterate 6 exact rfl); (exact rfl); exact rfl) | apply ef_nil | apply seqQ.normal | apply ef_block | (apply ef_call; exact rfl; ((repeat (apply XVs.cons; exact rfl)); exact XVs.nil); (with_reducible exact w1 _)))
 refine ef_loop (α := Unit) (fun _ => True) (fun _ => [(6, I64 0), (1, .sl []), (4, .ptr 1 0 0 0), (5, .ptr 3 0 0 0)]) (fun _ => [⟨0, false, 2, [encN ⟨L, []⟩]⟩, ⟨0, false, 2, [.agg [.lit (.slice none 0 0), .lit (.slice none 0 0)]]⟩, ⟨0, false, 2, L.map encLn⟩, ⟨0, false, 2, [.agg [.arr 2 0 L.length 0, .sl []]]⟩]) (fun _ => 0) () [6, 1, 4, 5] (fun _ => rfl) rfl trivial (by simp) (by ((repeat (refine Hold.cons (by exact rfl) ?_)); exact Hold.nil)) rfl ?_
 rintro ⟨⟩ -
 repeat (first | apply ef_seq | (apply ef_mv; exact rfl; exact rfl) | (apply ef_bin; (iterate 3 exact rfl); (exact rfl)) | (apply ef_len; exact rfl; exact rfl; (exact rfl)) | (apply ef_ldp; exact rfl; exact rfl; (exact rfl); exact rfl; (exact rfl); (exact rd_2 rfl rfl)) | (apply ef_st; (iterate 6 exact rfl); (exact rfl); exact rfl) | apply ef_nil | apply seqQ.normal | apply loopQ.exit | apply ef_ret | apply ef_exit | apply seqQ.exit | apply blockQ.here | (apply ef_condf; exact rfl; (exact (rfl : false = false))))
 (apply fin_cellz; (· exact rfl); (· exact ⟨1, 0, 0, 0, _, _, by exact rfl, by exact rfl, rfl, rfl, rd_2 rfl rfl⟩))
 exact frzF_agg2 rfl (frzF_arr (o := ⟨0, false, 2, L.map encLn⟩) rfl rfl (by simp) (ltL_Ln 0 _) rfl) (frzF_lt rfl)
theorem rWithN_z (k : Nat) (n : Nt) (hb : BdN n) (h0 : 0 < n.ls.length) (h2 : n.cs.length ≤ 1000) (ds : List Int) (hd : ds.length = n.cs.length) :
  runZ MT (orA (k + 1)) (itA (k + 1)) 4000000 11 [encN n, .sl (ds.map I64)] [] = some (encN (nW n ds), []) := by
 obtain ⟨ls, cs⟩ := n
 cases ls with
 | nil => simp at h0
 | cons l ls =>
  cases cs with
  | nil =>
   obtain rfl : ds = [] := List.length_eq_zero_iff.1 hd
   exact rWith0_z k l ls hb
  | cons c cs => exact rWith_z k l ls c cs hb h2 ds hd
theorem rWithN_c (k : Nat) (n : Nt) (hb : BdN n) (h0 : 0 < n.ls.length) (h2 : n.cs.length ≤ 1000) (ds : List Int) (hd : ds.length = n.cs.length) (h : MHeap) :
  orA (k + 2) 11 [encN n, .sl (ds.map I64)] h = some (encN (nW n ds), h) := by
 have := callA (k := k + 1) (h := h) (args := [encN n, .sl (ds.map I64)]) (args' := [encN n, .sl (ds.map I64)]) (frzL_lt (by simp [ltL, MV.lt, ltL_Ln, ltL_Cr, ltL_I])) rfl (rWithN_z k n hb h0 h2 ds hd) (by simp [okV, ok1, MV.lt, ltL, ltL_Ln, ltL_Cr, ltL_I]) rfl
 simpa [shV, sh1] using this
end Go.Proofs.YtfchdbghjeophaaDoor

/- Calls whose answer is frozen: what a copy hands back speaks of no memory. -/
namespace Go.Proofs.YtfchdbghjeophaaDoor
open Go.RowKit
set_option linter.unusedVariables false
def frzRun (run : List MV → Option (MV × MHeap)) (args : List MV) : Option (MV × MHeap) :=
 match run args with
 | some (m, news) => match frz 0 [] news 8 m with
  | some m' => some (m', [])
  | none => none
 | none => none
theorem post_frz {E : Env} {w : World} {m m' : MV} {news : MHeap} {e : Ending} {w' : World} (hr : HRel E [] w) (hf : frz 0 [] news 8 m = some m') (hP : Post E w m news e w') : Post E w m' [] e w' := by
 obtain ⟨v, E', rfl, h1, h2, h3⟩ := hP
 obtain ⟨S0, hS0⟩ : ∃ S0 : Nat → Prop, S0 = fun b => E'.S b ∨ ∃ id, E'.K id ∧ 0 < E'.cp id ∧ E'.ρ id = b := ⟨_, rfl⟩
 have hK : ∀ id, ¬ E.K id := fun id hk => absurd (hr.klt id hk) (by simp)
 have ht : E'.top = 0 := by rw [h3.top]; exact Nat.le_zero.1 hr.top
 refine ⟨v, { E' with K := fun _ => False, S := S0 }, rfl, ?_, ?_, ?_⟩
 ·refine frz_okG (Es := { E' with K := fun _ => False, S := S0 }) h2 (fun m v hv hl => V.env (E := E'.res 0) (E2 := { E' with K := fun _ => False, S := S0 }) ⟨fun b hb => (by rw [hS0]; exact .inl hb : S0 b), fun id hk => absurd hk.2 (by omega), rfl⟩ (hv.res hl)) (fun b hb => ?_) (fun id hk _ _ hc0 => ?_) 8 _ _ _ h1 hf
  ·show S0 b
   rw [hS0]; exact .inl hb
  ·show S0 (E'.ρ id)
   rw [hS0]; exact .inr ⟨id, hk, hc0, rfl⟩
 ·refine ⟨fun _ hk => hk.elim, by rw [show ({ E' with K := fun _ => False, S := S0 } : Env).top = E'.top from rfl, ht]; exact Nat.zero_le _, fun _ hk => hk.elim, fun _ _ hk => hk.elim, fun _ hk => hk.elim, fun b hb => ?_, fun p hp => V.env (E := E'.res 0) (E2 := { E' with K := fun _ => False, S := S0 }) ⟨fun b hb => (by rw [hS0]; exact .inl hb : S0 b), fun id hk => absurd hk.2 (by omega), rfl⟩ ((h2.tab p hp).res (TABS_lt 0 p hp))⟩
  have hb : S0 b := hb
  rw [hS0] at hb
  rcases hb with hb | ⟨id, hk, hc, rfl⟩
  ·exact h2.slt b hb
  ·exact h2.lt hk hc
 ·refine ⟨h3.os, h3.tape, h3.output, h3.size, h3.keep, fun b hb => (by rw [hS0]; exact .inl (h3.S b hb) : S0 b), fun id hk => absurd hk (hK id), fun id hk => absurd hk (hK id), fun id hk => absurd hk (hK id), fun id hk => hk.elim, h3.top, fun id hk => hk.elim, h3.yl, fun b hb => ?_⟩
  have hb : S0 b := hb
  rw [hS0] at hb
  rcases hb with hb | ⟨id, hk, hc, rfl⟩
  ·exact h3.srcS b hb
  ·rcases h3.src id hk hc with ⟨q, _⟩ | q
   ·exact absurd q (hK id)
   ·exact .inr (.inr q)
noncomputable def orC (L : List Nat) (k : Nat) : Oracle := fun f args h =>
 if L.contains f then frzCall (frzRun (tabZ MT tA (orA k) (itA k) 4000000 f)) args h else orA (k + 1) f args h
theorem orC_ok (L : List Nat) (k : Nat) : SoundO Tryd.prog (orC L k) ∧ AppO (orC L k) := by
 have hz := fun k => orZ_ok (N := 4000000) (P := Tryd.prog) (by kernel_rfl) (tabOf_ok Tryd.prog) tA_ok tI_ok k
 have hI : SoundI Tryd.prog (itA k) := orI_ok (by kernel_rfl) (tabOf_ok Tryd.prog) tI_ok (hz k).1 (hz k).2
 have hrun : ∀ f args' m news, frzRun (tabZ MT tA (orA k) (itA k) 4000000 f) args' = some (m, news) → hasBody Tryd.prog f = true ∧ ∀ E w vs, HRel E [] w → Vs E w args' vs → Calls Tryd.prog f vs.toArray w (Post E w m news) := fun f args' m news he => by
  unfold frzRun at he
  split at he
  case h_2 => cases he
  rename_i m0 n0 h0
  split at he
  case h_2 => cases he
  rename_i m1 h1
  cases he
  obtain ⟨hb, hc⟩ := tabZ_ok (by kernel_rfl) (tabOf_ok Tryd.prog) tA_ok (hz k).1 (hz k).2 hI h0
  exact ⟨hb, fun E w vs hr hv => (hc E w vs hr hv).mono fun e w' hP => post_frz hr h1 hP⟩
 refine ⟨⟨fun f args h m h' he => ?_, tA_ok.2⟩, fun f args h m h' he => ?_⟩
 ·unfold orC at he
  split at he
  ·have hb : hasBody Tryd.prog f = true := by
    unfold frzCall at he
    split at he
    case h_2 => cases he
    split at he
    case h_2 => cases he
    rename_i hr
    exact (hrun _ _ _ _ hr).1
   exact ⟨hb, fun E w vs hr hv => frzCall_ok (fun args' m news hq => (hrun f args' m news hq).2) he hr hv⟩
  ·exact (hz (k + 1)).1.1 f args h m h' he
 ·unfold orC at he
  split at he
  ·exact frzCall_app he
  ·exact (hz (k + 1)).2 f args h m h' he
theorem orC_of {L : List Nat} {k f : Nat} {args : List MV} {h : MHeap} {r : MV × MHeap} (hf : L.contains f = false) (h1 : orA (k + 1) f args h = some r) : orC L k f args h = some r := by
 unfold orC
 rw [hf]
 exact h1
theorem orC_frz {L : List Nat} {k f : Nat} {args args' : List MV} {h : MHeap} {m m' : MV} {news : MHeap} (hf : L.contains f = true) (h1 : args.mapM (frz 0 [] h 8) = some args') (hT : tA f args' [] = none) (h2 : runZ MT (orA k) (itA k) 4000000 f args' [] = some (m, news))
  (h3 : frz 0 [] news 8 m = some m') (h4 : okV (ltL 0 args) m' = true) (h5 : shV h.length m' = m') : orC L k f args h = some (m', h) := by
 unfold orC
 rw [hf]
 have e : tabZ MT tA (orA k) (itA k) 4000000 f args' = some (m, news) := by unfold tabZ; rw [hT]; exact h2
 simp only [if_true, frzCall, h1, frzRun, e, h3, h4, okH, List.all_nil, Bool.and_self, h5, List.append_nil]
end Go.Proofs.YtfchdbghjeophaaDoor

/- Copies of nets that are frozen; whether a slice has a number. -/
namespace Go.Proofs.YtfchdbghjeophaaDoor
open Go.RowKit
set_option linter.unusedVariables false
set_option linter.unusedSimpArgs false
abbrev LZ : List Nat := [10]
theorem frz_cp (ls : List Ln) (cs : List Cr) : frz 0 [] (cpH ls cs) 8 (cpV 0 ls cs) = some (encN ⟨ls, cs⟩) := by
 cases ls with
 | nil =>
  cases cs with
  | nil => rfl
  | cons c cs => exact frzF_agg2 rfl (frzF_lt rfl) (frzF_arr (o := ⟨0, false, 6, (c :: cs).map encCr⟩) rfl rfl (by simp) (ltL_Cr 0 _) rfl)
 | cons l ls =>
  cases cs with
  | nil => exact frzF_agg2 rfl (frzF_arr (o := ⟨0, false, 2, (l :: ls).map encLn⟩) rfl rfl (by simp) (ltL_Ln 0 _) rfl) (frzF_lt rfl)
  | cons c cs => exact frzF_agg2 rfl (frzF_arr (o := ⟨0, false, 2, (l :: ls).map encLn⟩) rfl rfl (by simp) (ltL_Ln 0 _) rfl) (frzF_arr (o := ⟨0, false, 6, (c :: cs).map encCr⟩) rfl rfl (by simp) (ltL_Cr 0 _) rfl)
theorem Copy_cc (k : Nat) (n : Nt) (hb : BdN n) (h : MHeap) : orC LZ k 10 [encN n] h = some (encN n, h) :=
 orC_frz (args' := [encN n]) rfl (frzL_lt (by simp [ltL, MV.lt, ltL_Ln, ltL_Cr])) rfl (Copy_z k n hb) (frz_cp n.ls n.cs) (by simp [okV, ok1, MV.lt, ltL, ltL_Ln, ltL_Cr]) rfl
theorem mf_bHas : MT.mf 39 = some ⟨18, [(.tmp 4)], (.seq (.reg [gO 4 (.mv cF)]) (.seq (.seq (.reg [gO 5 (.mv (cI 0))]) (.block 0 (.loop [5, 0, 1] (.seq (.seq (.reg [gO 6 (.mv (.s 5)), gO 7 (.mv (.s 0)), gO 8 (.len (.s 7)), gO 9 (.bin .lss (.s 6) (.s 8))]) (.cond (.s 9) .skip (.exit 0))) (.seq (.block 1 (.seq (.reg [gO 12 (.mv (.s 0)), gO 13 (.mv (.s 5)), gO 14 (.ia 1 (.s 12) (.s 13)), gO 15 (.ld none (.s 14)), gO 16 (.mv (.s 1)), gO 17 (.bin .eql (.s 15) (.s 16))]) (.cond (.s 17) (.seq (.reg [gO 4 (.mv cT)]) .ret) .skip))) (.reg [gO 10 (.mv (.s 5)), gO 11 (.bin .add (.s 10) (cI 1)), gO 5 (.mv (.s 11))])))))) (.seq (.reg [gO 4 (.mv cF)]) .ret)))⟩ := by kernel_rfl
theorem bHas_z (k : Nat) (xs : List Int) (z : Int) (hx : xs.length ≤ 1000) : runZ MT (orA k) (itA k) 4000000 39 [.sl (xs.map I64), I64 z] [] = some (Bo (xs.any (· == z)), []) := by
 have hl : (MV.sl (xs.map I64)).slen = some xs.length := by simp [MV.slen]
 refine runZ_of mf_bHas (by simp) ?_
 simp only [argsL]
 repeat (first | apply ef_seq | (apply ef_mv; exact rfl; exact rfl) | apply ef_nil | apply seqQ.normal | apply ef_block)
 refine ef_loop (α := Nat) (fun i => i ≤ xs.length ∧ xs.any (· == z) = (xs.drop i).any (· == z)) (fun i => [(5, I64 (i : Int)), (0, .sl (xs.map I64)), (1, I64 z)]) (fun _ => []) (fun i => xs.length - i) 0 [5, 0, 1] (fun _ => rfl) rfl ⟨by omega, rfl⟩ (by simp; omega) (by ((repeat (refine Hold.cons (by exact rfl) ?_)); exact Hold.nil)) rfl ?_
 rintro i ⟨hi, hz⟩
 by_cases hlt : i < xs.length
 ·have e1 := at_map I64 xs i hlt
  have HS := Lib.hid (drop_at xs i hlt)
  have HZ := Lib.hid hz
  clear hz
  generalize xs[i] = y at e1 HS
  by_cases h3 : y = z
  ·repeat (first | apply ef_seq | (apply ef_mv; exact rfl; exact rfl) | (apply ef_bin; (iterate 3 exact rfl); (exact cmp_t rfl (by first | exact rfl | (simp only [cmpP]; omega)))) | (apply ef_len; exact rfl; exact rfl; (assumption)) | (apply ef_ldr; exact rfl; exact rfl; (exact rfl)) | (apply ef_ias; (iterate 3 exact rfl); (omega); assumption; exact rfl) | apply ef_nil | apply seqQ.normal | apply loopQ.ret | apply ef_ret | apply seqQ.ret | apply blockQ.ret | apply ef_block | apply ef_skip | (apply ef_condt; exact rfl; (exact (rfl : true = true))))
   (refine fin1 rfl (by exact rfl) rfl ?_)
   rw [HZ.out, HS.out, List.any_cons, h3]; simp
  ·repeat (first | apply ef_seq | (apply ef_mv; exact rfl; exact rfl) | (apply ef_bin; (iterate 3 exact rfl); (first | exact cmp_t rfl (by first | exact rfl | (simp only [cmpP]; omega)) | exact cmp_f rfl (by simp only [cmpP]; omega) | ((with_reducible refine bin_add (wrap_of ?_ ?_)) <;> omega))) | (apply ef_len; exact rfl; exact rfl; (assumption)) | (apply ef_ldr; exact rfl; exact rfl; (exact rfl)) | (apply ef_ias; (iterate 3 exact rfl); (omega); assumption; exact rfl) | apply ef_nil | apply seqQ.normal | apply blockQ.normal | apply ef_block | apply ef_skip | (apply ef_condt; exact rfl; (exact (rfl : true = true))) | (apply ef_condf; exact rfl; (exact (rfl : false = false))))
   (refine loopQ.normal _ _ ⟨i + 1, ⟨hlt, by rw [HZ.out, HS.out, List.any_cons, show (y == z) = false by simpa using h3]; rfl⟩, (by first | (simp only; omega) | omega), by ((repeat (refine Hold.cons (by exact rfl) ?_)); exact Hold.nil), .inl (Nat.le_refl _), (by first | exact List.take_length | exact rfl)⟩)
 ·repeat (first | apply ef_seq | (apply ef_mv; exact rfl; exact rfl) | (apply ef_bin; (iterate 3 exact rfl); (exact cmp_f rfl (by simp only [cmpP]; omega))) | (apply ef_len; exact rfl; exact rfl; (assumption)) | apply ef_nil | apply seqQ.normal | apply loopQ.exit | apply ef_ret | apply ef_exit | apply seqQ.exit | apply blockQ.here | (apply ef_condf; exact rfl; (exact (rfl : false = false))))
  (refine fin1 rfl (by exact rfl) rfl ?_)
  rw [hz, List.drop_eq_nil_of_le (by omega)]; rfl
theorem bHas_c (k : Nat) (xs : List Int) (z : Int) (hx : xs.length ≤ 1000) (h : MHeap) {v : MV} (hv : frz 0 [] h 8 v = some (.sl (xs.map I64))) {t : Bool} (ht : xs.any (· == z) = t) : orA (k + 1) 39 [v, I64 z] h = some (Bo t, h) :=
 callL (args' := [.sl (xs.map I64), I64 z]) (by simp [List.mapM_cons, hv, frz_lt (m := I64 z) rfl]) rfl (by rw [← ht]; exact bHas_z k xs z hx)
end Go.Proofs.YtfchdbghjeophaaDoor

/- Contracts of the document: residuals and the cost; corrections of which a set of lines is moved. -/
namespace Go.Proofs.YtfchdbghjeophaaDoor
open Go.RowKit
set_option linter.unusedVariables false
set_option linter.unusedSimpArgs false
structure OkB (m : Nat) (c : List Int) : Prop where
 len : c.length = m
 bd : ∀ v, -40000000000 ≤ cAt c v ∧ cAt c v ≤ 40000000000
end Go.Proofs.YtfchdbghjeophaaDoor

/- Contracts of the document: corrections of which a set of lines is moved. -/
namespace Go.Proofs.YtfchdbghjeophaaDoor
open Go.RowKit
set_option linter.unusedVariables false
set_option linter.unusedSimpArgs false
end Go.Proofs.YtfchdbghjeophaaDoor

/- Contracts of the document: a set of lines that makes corrections cheaper, or as cheap and lower. -/
namespace Go.Proofs.YtfchdbghjeophaaDoor
open Go.RowKit
set_option linter.unusedVariables false
set_option linter.unusedSimpArgs false
section
variable {O : Oracle} {I : Iter} {N n : Nat}
theorem runZ_ofE {α : Type} {M : Tab} {f : Nat} {rs : List MRes} {b : MC} {args : List MV} {p : α → Prop} {m : α → MV} {news : α → MHeap} (hmf : M.mf f = some ⟨n, rs, b⟩) (hn : args.length ≤ n)
  (hE : Ef O I N n (fun _ => false) b (argsL 0 args) [] (fun x A h => ∃ a, p a ∧ FinF rs (m a) (news a) x A h)) : ∃ a, p a ∧ runZ M O I N f args [] = some (m a, news a) := by
 obtain ⟨x, s', h', k1, A', k2, a, hp, hx, vs, vs', r1, r2, r3, r4⟩ := hE.run (args ++ List.replicate (n - args.length) (.lit undef)) ⟨by simp; omega, fun t v ht => by
  obtain ⟨_, h1⟩ := look_args _ _ _ _ ht
  rw [Nat.sub_zero] at h1
  have hl := (List.getElem?_eq_some_iff.1 h1).1
  rw [List.getD_eq_getElem?_getD, List.getElem?_append_left hl, h1]
  rfl⟩
 refine ⟨a, hp, ?_⟩
 unfold runZ
 rw [hmf]
 unfold runF
 have elk : (fun id => decide (id < ([] : MHeap).length)) = fun _ => false := by funext id; simp
 dsimp only
 rw [elk, k1]
 have hx' : x = .ret ∨ x = .normal := by cases x <;> simp [outX] at hx <;> simp
 dsimp only
 obtain ⟨o1, o2⟩ := r1.opn
 rw [if_pos hx', ResVs.ok k2 r1]
 simp only [List.length_nil, o1, o2, r2, if_true, r3, r4, List.nil_append]
end
end Go.Proofs.YtfchdbghjeophaaDoor

/- Contracts: the numbers of a set, all crossings, whether crossings agree, the limit of a net; the program. -/
namespace Go.Proofs.YtfchdbghjeophaaDoor
open Go.RowKit Go.Lib
set_option linter.unusedVariables false
set_option linter.unusedSimpArgs false
abbrev U64 (n : Int) : MV := .lit (.int .u64 n)
theorem u64_wrap {z : Int} (h0 : 0 ≤ z) (h1 : z < 18446744073709551616) : IntKind.u64.wrap z = z := by rw [IntKind.wrap_u64]; omega
theorem u64_and {a b : Nat} (ha : a < 18446744073709551616) (hb : b < 18446744073709551616) : binI .and .u64 (a : Int) (b : Int) = some (.int .u64 ((a &&& b : Nat) : Int)) := by
 have := bits_and_u64_nat a b ha hb
 have e : binI .and .u64 (a : Int) (b : Int) = some (.int .u64 (bits .and .u64 (a : Int) (b : Int))) := rfl
 rw [e, this]
theorem u64_sub {a b : Int} (h0 : 0 ≤ a - b) (h1 : a - b < 18446744073709551616) : binI .sub .u64 a b = some (.int .u64 (a - b)) := by
 have e : binI .sub .u64 a b = some (.int .u64 (IntKind.u64.wrap (a - b))) := rfl
 rw [e, u64_wrap h0 h1]
theorem u64_shl {m : Nat} (hm : m ≤ 63) : shfI .shl .u64 1 (m : Int) = some (.int .u64 ((2 ^ m : Nat) : Int)) := by
 have h2 : 2 ^ m ≤ 2 ^ 63 := Nat.pow_le_pow_right (by omega) hm
 have hq : ∀ q : Nat, q ≤ 2 ^ 63 → IntKind.u64.wrap (q : Int) = q := fun q hq => u64_wrap (by omega) (by omega)
 have e : shfI .shl .u64 1 (m : Int) = some (.int .u64 (IntKind.u64.wrap (1 * 2 ^ min m 64))) := by
  unfold shfI
  rw [if_neg (by omega)]
  rfl
 have e2 : ((2 : Int) ^ m) = ((2 ^ m : Nat) : Int) := by rw [Int.natCast_pow]; rfl
 rw [e, Nat.min_eq_left (by omega), Int.one_mul, e2, hq _ h2]
theorem tz64_c (k : Nat) (x : Nat) (hx : x < 18446744073709551616) (h : MHeap) : orA (k + 1) 60 [U64 x] h = some (I64 (ctz 64 x : Nat), h) := by
 have hT : tA 60 [U64 x] [] = some (I64 (ctz 64 x : Nat), []) := by
  unfold tA tTz
  rw [if_pos rfl, if_pos rfl]
  show (if 0 ≤ (x : Int) ∧ (x : Int) < 18446744073709551616 then _ else _) = _
  rw [if_pos (by omega)]; rfl
 have := callT (k := k) (h := h) (args := [U64 x]) (args' := [U64 x]) (frzL_lt rfl) hT (by simp [okV, ok1, MV.lt, MV.pure]) rfl
 simpa [shV, sh1] using this
theorem mf_tz : MT.mf 49 = some ⟨8, [(.tmp 2)], (.seq (.reg [gO 2 (.mv (cI 0))]) (.seq (.cond cF (.seq (.reg [gO 3 (.mv (.s 0)), gO 4 (.cv .u32 (.s 3)), gO 5 (.call 59 [.s 4]), gO 2 (.mv (.s 5))]) .ret) .skip) (.seq (.reg [gO 6 (.mv (.s 0)), gO 7 (.call 60 [.s 6]), gO 2 (.mv (.s 7))]) .ret)))⟩ := by kernel_rfl
theorem tz_c (k : Nat) (x : Nat) (hx : x < 18446744073709551616) (h : MHeap) : orA (k + 2) 49 [U64 x] h = some (I64 (ctz 64 x : Nat), h) := by
 refine callL (args' := [U64 x]) (frzL_lt rfl) rfl (runZ_of mf_tz (by simp) ?_)
 simp only [argsL]
 have w := fun h => tz64_c k x hx h
 generalize ctz 64 x = z at *
 repeat (first | apply ef_seq | (apply ef_mv; exact rfl; exact rfl) | apply ef_nil | apply seqQ.normal | apply ef_ret | apply ef_skip | (apply ef_condf; exact rfl; (exact (rfl : false = false))) | (apply ef_call; exact rfl; ((repeat (apply XVs.cons; exact rfl)); exact XVs.nil); (with_reducible exact w _)))
 (refine fin1 rfl (by exact rfl) rfl ?_)
 rfl
abbrev mbI (x : Nat) : List Int := (mbL x).map fun i : Nat => (i : Int)
theorem mf_members : MT.mf 35 = some ⟨16, [(.tmp 2)], (.seq (.reg [gO 2 (.nil0 1)]) (.seq (.reg [gO 3 (.nil0 1)]) (.seq (.block 0 (.loop [0, 3] (.seq (.seq (.reg [gO 4 (.mv (.s 0)), gO 5 (.bin .neq (.s 4) (.c (.lit (.int .u64 0))))]) (.cond (.s 5) .skip (.exit 0))) (.seq (.block 1 (.reg [gO 10 (.mv (.s 3)), gO 11 (.mv (.s 0)), gO 12 (.call 49 [.s 11]), gO 13 (.bsl (.lit (.int .i64 0)) 1 1 [(0, (.s 12))]), gO 14 (.app 1 (.s 10) (.s 13)), gO 3 (.mv (.s 14))])) (.reg [gO 6 (.mv (.s 0)), gO 7 (.mv (.s 0)), gO 8 (.bin .sub (.s 7) (.c (.lit (.int .u64 1)))), gO 9 (.bin .and (.s 6) (.s 8)), gO 0 (.mv (.s 9))]))))) (.seq (.reg [gO 15 (.mv (.s 3)), gO 2 (.mv (.s 15))]) .ret))))⟩ := by kernel_rfl
set_option maxHeartbeats 1000000 in
theorem members_z (k X : Nat) (hX : X < 18446744073709551616) :
  runZ MT (orA (k + 2)) (itA (k + 2)) 4000000 35 [U64 X] [] = some (.arr 0 0 (mbL X).length 0, [⟨0, decide ((mbL X).length = 0), 1, (mbI X).map I64⟩]) := by
 refine runZ_of mf_members (by simp) ?_
 simp only [argsL]
 repeat (first | apply ef_seq | (apply ef_nil0; exact rfl) | apply ef_nil | apply seqQ.normal | apply ef_block)
 refine ef_loopf (α := Nat × Nat × List Nat × List MV) (fun p => p.1 < 18446744073709551616 ∧ p.2.1 = p.2.2.1.length ∧ mbL X = p.2.2.1 ++ mbL p.1 ∧ p.2.2.2 = (p.2.2.1.map fun i : Nat => (i : Int)).map I64) (fun p => [(0, U64 (p.1 : Nat)), (3, .arr 1 0 p.2.1 p.2.1)]) [] (fun p => [⟨0, true, 1, []⟩, ⟨p.2.1, decide (p.2.1 = 0), 1, p.2.2.2⟩]) (fun p => (mbL p.1).length) (X, 0, [], []) [0, 3] (fun _ => rfl) (by ((repeat (refine Hold.cons (by exact rfl) ?_)); exact Hold.nil)) (by ((repeat (refine Hold.cons (by exact rfl) ?_)); exact Hold.nil)) rfl rfl ⟨hX, rfl, rfl, rfl⟩ (by show (mbL X).length < 4000000; have := mbL_len64 hX; omega) ?_
 rintro ⟨x, q, ds, rs⟩ ⟨hx, hql, hz, hrs⟩
 try simp only at hx hql hz hrs ⊢
 have hrl : rs.length = q := by rw [hrs, List.length_map, List.length_map, hql]
 have hlr : ∀ j, ltL j rs = true := fun j => by rw [hrs]; exact ltL_I j _
 have hdl : q ≤ 64 := by
  have h1 := mbL_len64 hX
  rw [hz, List.length_append] at h1
  omega
 by_cases h0 : x = 0
 ·subst h0
  rw [mbL_zero, List.append_nil] at hz
  have hmi : mbI X = ds.map fun i : Nat => (i : Int) := by unfold mbI; rw [hz]
  rw [hmi, hz, ← hql]
  repeat (first | apply ef_seq | (apply ef_mv; exact rfl; exact rfl) | (apply ef_bin; (iterate 3 exact rfl); (exact cmp_f rfl (by simp only [cmpP]; omega))) | apply ef_nil | apply seqQ.normal | apply loopQ.exit | apply ef_ret | apply ef_exit | apply seqQ.exit | apply blockQ.here | (apply ef_condf; exact rfl; (exact (rfl : false = false))))
  (apply fin_arr; (· exact rfl); (· exact rfl); (· exact rfl); (· exact rfl); (· (show 0 + _ ≤ rs.length; omega)); (· (exact hlr 0)); (· (show (rs.drop 0).take _ = _; rw [List.drop_zero, List.take_of_length_le (by omega), hrs])); (· exact rfl); (· exact rfl); (· rfl))
 ·have e1 : binI .sub .u64 (x : Int) 1 = some (.int .u64 ((x - 1 : Nat) : Int)) := by rw [u64_sub (by omega) (by omega), show (x : Int) - 1 = ((x - 1 : Nat) : Int) by omega]
  have e2 : binI .and .u64 (x : Int) ((x - 1 : Nat) : Int) = some (.int .u64 (clrB x : Nat)) := u64_and hx (by omega)
  have w1 := fun h => tz_c k x hx h
  have hl := clrB_lt h0
  have hm := mbL_pos h0
  generalize clrB x = y at *
  generalize ctz 64 x = z at *
  repeat (first | apply ef_seq | (apply ef_mv; exact rfl; exact rfl) | (apply ef_bin; (iterate 3 exact rfl); (exact cmp_t rfl (by first | exact rfl | (simp only [cmpP]; omega)))) | (apply ef_bsl; exact rfl; (repeat (apply XVs.cons; exact rfl)); exact XVs.nil; exact rfl) | apply ef_nil | apply seqQ.normal | apply ef_block | apply ef_skip | (apply ef_condt; exact rfl; (exact (rfl : true = true))) | (apply ef_call; exact rfl; ((repeat (apply XVs.cons; exact rfl)); exact XVs.nil); (with_reducible exact w1 _)))
  (apply ef_app; (· exact rfl); (· exact rfl); (· exact rfl); (· exact rfl); (· exact rfl); (· exact rfl); (· (simp [hrl])); (· exact rfl); (· (simp [hrl]; omega)); (· (exact rfl)); (· exact rfl))
  repeat (first | (apply ef_mv; exact rfl; exact rfl) | (apply ef_bin; (iterate 3 exact rfl); (assumption)) | apply ef_nil | apply seqQ.normal | apply blockQ.normal)
  (refine loopQ.normal _ _ ⟨(y, q + 1, ds ++ [z], rs ++ [I64 (z : Nat)]), ⟨by omega, by simp [hql], by rw [hz, hm, List.append_assoc]; rfl, by rw [hrs]; simp⟩, (by show (mbL y).length < (mbL x).length; rw [hm]; simp), ⟨by ((repeat (refine Hold.cons (by exact rfl) ?_)); exact Hold.nil), by ((repeat (refine Hold.cons (by exact rfl) ?_)); exact Hold.nil)⟩, .inr ⟨by ((repeat (refine hdl_cons rfl (by first | rfl | (simp [MV.lt, ltL, hlr, ltL_app2, splice, MV.cells])) ?_)); exact hdl_nil), by (simp [hltL, ltL, MV.lt, ltL, hlr, ltL_app2, splice, MV.cells])⟩, by exact rfl⟩)
theorem members_c (k X : Nat) (hX : X < 18446744073709551616) (h : MHeap) :
  orA (k + 3) 35 [U64 X] h = some (.arr h.length 0 (mbL X).length 0, h ++ [⟨0, decide ((mbL X).length = 0), 1, (mbI X).map I64⟩]) := by
 have := callA (k := k + 2) (h := h) (args := [U64 X]) (args' := [U64 X]) (frzL_lt rfl) rfl (members_z k X hX) rfl (by simp [okH, ltL_I, pureL_I, -List.map_map])
 simpa [shV, sh1] using this
theorem mf_everything : MT.mf 36 = some ⟨9, [(.tmp 2)], (.seq (.reg [gO 1 (.box 2 (.s 0)), gO 2 (.mv (.c (.lit (.int .u64 0))))]) (.seq (.reg [gO 3 (.fa 0 (.s 1)), gO 4 (.fa 1 (.s 3)), gO 5 (.ld none (.s 4)), gO 6 (.len (.s 5)), gO 7 (.shf .shl (.c (.lit (.int .u64 1))) (.s 6)), gO 8 (.bin .sub (.s 7) (.c (.lit (.int .u64 1)))), gO 2 (.mv (.s 8))]) .ret))⟩ := by kernel_rfl
theorem everything_c (k : Nat) (n : Nt) (hc : n.cs.length ≤ 16) (h : MHeap) : orA (k + 1) 36 [encN n] h = some (U64 ((2 ^ n.cs.length - 1 : Nat) : Int), h) := by
 have hs2 : (MV.sl (n.cs.map encCr)).slen = some n.cs.length := by simp [MV.slen]
 refine callL (args' := [encN n]) (frzL_lt (by simp [ltL, MV.lt, ltL_Ln, ltL_Cr])) rfl (runZ_of mf_everything (by simp) ?_)
 simp only [argsL]
 have e1 := u64_shl (m := n.cs.length) (by omega)
 have hp := Nat.two_pow_pos n.cs.length
 have h2 : 2 ^ n.cs.length ≤ 2 ^ 16 := Nat.pow_le_pow_right (by omega) hc
 have e2 : ∀ q : Nat, 0 < q → q ≤ 2 ^ 16 → IntKind.u64.wrap ((q : Int) - 1) = ((q - 1 : Nat) : Int) := fun q h1 h2 => by rw [u64_wrap (by omega) (by omega)]; omega
 repeat (first | apply ef_seq | (apply ef_mv; exact rfl; exact rfl) | (apply ef_bin; (iterate 3 exact rfl); (exact rfl)) | (apply ef_len; exact rfl; exact rfl; (assumption)) | (apply ef_ldp; exact rfl; exact rfl; (exact rfl); exact rfl; (exact rfl); (exact rfl)) | (apply ef_fap; exact rfl; exact rfl) | (apply ef_box; (iterate 4 exact rfl)) | (apply ef_shf; (iterate 3 exact rfl); (assumption)) | apply ef_nil | apply seqQ.normal | apply ef_ret)
 (refine fin1 rfl (by exact rfl) rfl ?_)
 rw [e2 _ hp h2]
theorem mbI_full {n : Nt} (hc : n.cs.length ≤ 16) : mbI (2 ^ n.cs.length - 1) = evS n := by
 unfold mbI evS
 rw [mbL_full _ (by omega)]
def agB (n : Nt) (S : List Int) (L : Int) : Bool := (lgC (agL n S L) n.ls.length (upL n.ls.length)).isEmpty
theorem agB_iff {n : Nt} (ok : OkN n) {S : List Int} (hS : ∀ i ∈ S, 0 ≤ i ∧ i < (n.cs.length : Int)) (hl : S.length ≤ 32) {L : Int} (hL : 0 ≤ L ∧ L ≤ 10000) : agB n S L = true ↔ AgN n S L := by
 unfold agB
 rw [List.isEmpty_iff]
 exact ag_iff ok hS hl hL
theorem agL_next (n : Nt) (S : List Int) (L : Int) {i : Nat} (h : i < S.length) : agL n (S.take (i + 1)) L = agL n (S.take i) L ++ agA (crI n S[i]) L := by
 unfold agL
 rw [List.take_succ_eq_append_getElem h, List.flatMap_append]; simp
theorem mf_agree : MT.mf 34 = some ⟨61, [(.tmp 6)], (.seq (.reg [gO 3 (.box 2 (.s 0)), gO 6 (.mv cF)]) (.seq (.reg [gO 7 (.nil0 5)]) (.seq (.seq (.reg [gO 13 (.mv (.s 1)), gO 14 (.len (.s 13)), gO 15 (.mv (cI 0))]) (.block 0 (.loop [15, 14, 13, 3, 7, 2] (.seq (.reg [gO 16 (.bin .lss (.s 15) (.s 14))]) (.seq (.cond (.s 16) .skip (.exit 0)) (.seq (.block 1 (.seq (.reg [gO 17 (.ia 1 (.s 13) (.s 15)), gO 18 (.ld none (.s 17)), gO 9 (.mv (.s 18))]) (.seq (.reg [gO 19 (.fa 0 (.s 3)), gO 20 (.fa 1 (.s 19)), gO 21 (.ld none (.s 20)), gO 22 (.mv (.s 9)), gO 23 (.ia 6 (.s 21) (.s 22)), gO 24 (.ld (some 6) (.s 23)), gO 10 (.new (.agg [(.lit (.int .i64 0)), (.lit (.int .i64 0)), (.lit (.int .i64 0)), (.lit (.int .i64 0)), (.lit (.int .i64 0)), (.lit (.int .i64 0))])), ⟨none, none, .st 6 (.s 10) (.s 24)⟩]) (.reg [gO 25 (.mv (.s 7)), gO 26 (.fa 1 (.s 10)), gO 27 (.ld none (.s 26)), gO 28 (.fa 0 (.s 10)), gO 29 (.ld none (.s 28)), gO 30 (.fa 4 (.s 10)), gO 31 (.ld none (.s 30)), gO 32 (.mv (.s 2)), gO 33 (.bin .sub (.s 31) (.s 32)), gO 34 (.build [(.lit (.int .i64 0)), (.lit (.int .i64 0)), (.lit (.int .i64 0)), (.lit (.int .i64 0)), (.lit (.int .i64 0))] [(0, (1, (.s 27))), (1, (1, (.s 29))), (2, (1, (.s 33)))]), gO 35 (.fa 0 (.s 10)), gO 36 (.ld none (.s 35)), gO 37 (.fa 1 (.s 10)), gO 38 (.ld none (.s 37)), gO 39 (.fa 4 (.s 10)), gO 40 (.ld none (.s 39)), gO 41 (.un .neg (.s 40)), gO 42 (.mv (.s 2)), gO 43 (.bin .sub (.s 41) (.s 42)), gO 44 (.build [(.lit (.int .i64 0)), (.lit (.int .i64 0)), (.lit (.int .i64 0)), (.lit (.int .i64 0)), (.lit (.int .i64 0))] [(0, (1, (.s 36))), (1, (1, (.s 38))), (2, (1, (.s 43)))]), gO 45 (.bsl (.agg [(.lit (.int .i64 0)), (.lit (.int .i64 0)), (.lit (.int .i64 0)), (.lit (.int .i64 0)), (.lit (.int .i64 0))]) 5 2 [(0, (.s 34)), (1, (.s 44))]), gO 46 (.app 5 (.s 25) (.s 45)), gO 7 (.mv (.s 46))])))) (.reg [gO 47 (.bin .add (.s 15) (cI 1)), gO 15 (.mv (.s 47))]))))))) (.seq (.reg [gO 49 (.fa 0 (.s 3)), gO 50 (.fa 0 (.s 49)), gO 51 (.ld none (.s 50)), gO 52 (.len (.s 51)), gO 53 (.mv (.s 7)), gO 54 (.ld (some 2) (.s 3)), gO 55 (.call 47 [.s 54]), gO 56 (.call 23 [.s 52, .s 53, .s 55]), gO 48 (.mv (.s 56)), gO 57 (.ext (.s 48) 0), gO 58 (.ext (.s 48) 1), gO 11 (.mv (.s 57)), gO 12 (.mv (.s 58))]) (.seq (.reg [gO 59 (.mv (.s 12)), gO 60 (.eqn false (.s 59)), gO 6 (.mv (.s 60))]) .ret)))))⟩ := by kernel_rfl
set_option maxHeartbeats 2000000 in
theorem agree_z (k : Nat) (n : Nt) (ok : OkN n) (S : List Int) (hS : ∀ i ∈ S, 0 ≤ i ∧ i < (n.cs.length : Int)) (hl : S.length ≤ 32) (L : Int) (hL : 0 ≤ L ∧ L ≤ 10000) :
  runZ MT (orA (k + 5)) (itA (k + 5)) 4000000 34 [encN n, .sl (S.map I64), I64 L] [] = some (Bo (agB n S L), []) := by
 have hs1 : (MV.sl (n.ls.map encLn)).slen = some n.ls.length := by simp [MV.slen]
 have hs2 : (MV.sl (S.map I64)).slen = some S.length := by simp [MV.slen]
 have l1 := ok.l1
 have l8 := ok.l8
 have hal := agL_len n L S
 have w1 := fun h => all_c (k + 4) n (by omega) h
 have w2 := fun h v w hv hw => longest_c k n.ls.length l1 l8 (agL n S L) 20000 (by omega) (by omega) (agL_ok ok hS hL) (by omega) (upL n.ls.length) (upL_mem _) (by rw [upL_len]; omega) h (v := v) (w := w) hv hw
 have HB := Bx.mk (show agB n S L = (lgC (agL n S L) n.ls.length (upL n.ls.length)).isEmpty from rfl)
 generalize agB n S L = bb at *
 have hul := upL_len n.ls.length
 refine runZ_of mf_agree (by simp) ?_
 simp only [argsL]
 repeat (first | apply ef_seq | (apply ef_mv; exact rfl; exact rfl) | (apply ef_len; exact rfl; exact rfl; (assumption)) | (apply ef_box; (iterate 4 exact rfl)) | (apply ef_nil0; exact rfl) | apply ef_nil | apply seqQ.normal | apply ef_block)
 refine ef_loopf (α := Nat × List MV) (fun p => p.1 ≤ S.length ∧ p.2 = (agL n (S.take p.1) L).map encA) (fun p => [(15, I64 (p.1 : Int)), (7, .arr 1 0 (2 * p.1) p.1)]) [(14, I64 (S.length : Int)), (13, .sl (S.map I64)), (3, .ptr 0 0 0 0), (2, I64 L)] (fun p => [⟨0, false, 2, [encN n]⟩, ⟨p.1, decide (p.1 = 0), 5, p.2⟩]) (fun p => S.length - p.1) (0, []) [15, 7] (fun _ => rfl) (by ((repeat (refine Hold.cons (by exact rfl) ?_)); exact Hold.nil)) (by ((repeat (refine Hold.cons (by exact rfl) ?_)); exact Hold.nil)) rfl rfl ⟨by omega, rfl⟩ (by show S.length - 0 < 4000000; omega) ?_
 rintro ⟨i, rs⟩ ⟨hi, hrs⟩
 try simp only at hi hrs ⊢
 have hrl : rs.length = 2 * i := by rw [hrs, List.length_map, agL_len, List.length_take]; omega
 have hlr : ∀ j, ltL j rs = true := fun j => by rw [hrs]; exact ltL_A j _
 by_cases hlt : i < S.length
 ·have e1 := at_map I64 S i hlt
  have hb := hS S[i] (List.getElem_mem hlt)
  have HN := Bx.mk (agL_next n S L hlt)
  generalize S[i] = c at e1 hb HN
  have hcl : c.toNat < n.cs.length := by omega
  have e2 : (n.cs.map encCr)[c.toNat]? = some (encCr (crI n c)) := by
   unfold crI
   rw [List.getElem?_map, List.getD_eq_getElem?_getD, List.getElem?_eq_getElem hcl]; rfl
  have hm : crI n c ∈ n.cs := by unfold crI; rw [List.getD_eq_getElem?_getD, List.getElem?_eq_getElem hcl]; exact List.getElem_mem _
  have hd := (ok.rg _ hm).df
  generalize crI n c = x at e2 HN hd
  clear hm
  repeat (first | apply ef_seq | (apply ef_mv; exact rfl; exact rfl) | (apply ef_bin; (iterate 3 exact rfl); (first | exact cmp_t rfl (by first | exact rfl | (simp only [cmpP]; omega)) | ((with_reducible refine bin_sub (wrap_of ?_ ?_)) <;> omega))) | (apply ef_ldr; exact rfl; exact rfl; (first | exact rd_6 rfl rfl rfl rfl rfl rfl | exact rfl)) | (apply ef_ldp; exact rfl; exact rfl; (exact rfl); exact rfl; (exact rfl); (exact rfl)) | (apply ef_ias; (iterate 3 exact rfl); (omega); assumption; exact rfl) | (apply ef_fap; exact rfl; exact rfl) | (apply ef_neg; exact rfl; exact rfl; exact wrap_of (by omega) (by omega)) | (apply ef_new; exact rfl) | (apply ef_build; exact rfl; (repeat (apply XVs.cons; exact rfl)); exact XVs.nil; exact rfl; exact rfl) | (apply ef_bsl; exact rfl; (repeat (apply XVs.cons; exact rfl)); exact XVs.nil; exact rfl) | (apply ef_st; (iterate 6 exact rfl); (exact rfl); exact rfl) | apply ef_nil | apply seqQ.normal | apply ef_block | apply ef_skip | (apply ef_condt; exact rfl; (exact (rfl : true = true))))
  (apply ef_app; (· exact rfl); (· exact rfl); (· exact rfl); (· exact rfl); (· exact rfl); (· exact rfl); (· (simp [hrl])); (· exact rfl); (· (simp [hrl]; omega)); (· (exact rfl)); (· exact rfl))
  repeat (first | (apply ef_mv; exact rfl; exact rfl) | (apply ef_bin; (iterate 3 exact rfl); (((with_reducible refine bin_add (wrap_of ?_ ?_)) <;> omega))) | apply ef_nil | apply seqQ.normal | apply blockQ.normal)
  (refine loopQ.normal _ _ ⟨(i + 1, rs ++ [encA ⟨x.ti, x.ln, x.df - L, 0, 0⟩, encA ⟨x.ln, x.ti, 0 - x.df - L, 0, 0⟩]), ⟨hlt, by rw [HN.out, hrs]; simp [agA]⟩, (by first | (simp only; omega) | omega), ⟨by ((repeat (refine Hold.cons (by exact rfl) ?_)); exact Hold.nil), by ((repeat (refine Hold.cons (by exact rfl) ?_)); exact Hold.nil)⟩, .inr ⟨by ((repeat (refine hdl_cons rfl (by first | rfl | (simp [MV.lt, ltL, ltL_Ln, ltL_Cr, ltL_I, hlr, ltL_app2, splice, MV.cells])) ?_)); exact hdl_nil), by (simp [hltL, ltL, MV.lt, ltL, ltL_Ln, ltL_Cr, ltL_I, hlr, ltL_app2, splice, MV.cells])⟩, by exact rfl⟩)
 ·obtain rfl : i = S.length := by omega
  rw [List.take_of_length_le (Nat.le_refl _)] at hrs
  repeat (first | apply ef_seq | (apply ef_mv; exact rfl; exact rfl) | (apply ef_bin; (iterate 3 exact rfl); (exact cmp_f rfl (by simp only [cmpP]; omega))) | (apply ef_len; exact rfl; exact rfl; (assumption)) | (apply ef_ldp; exact rfl; exact rfl; (exact rfl); exact rfl; (exact rfl); (first | exact rd_2 rfl rfl | exact rfl)) | (apply ef_fap; exact rfl; exact rfl) | apply ef_nil | apply seqQ.normal | apply loopQ.exit | apply ef_exit | apply seqQ.exit | apply blockQ.here | (apply ef_condf; exact rfl; (exact (rfl : false = false))) | (apply ef_call; exact rfl; ((repeat (apply XVs.cons; exact rfl)); exact XVs.nil); (with_reducible exact w1 _)))
  (apply ef_call; (· exact rfl); (· ((repeat (apply XVs.cons; exact rfl)); exact XVs.nil)); · exact w2 _ _ _ (frz_row (o := ⟨S.length, decide (S.length = 0), 5, rs⟩) rfl rfl (by simp [hal]) (ltL_A 0 _) hrs) (frz_row (o := ⟨0, decide (n.ls.length = 0), 1, (upL n.ls.length).map I64⟩) rfl rfl (by simp [hul]) (ltL_I 0 _) rfl))
  repeat (first | apply ef_seq | (apply ef_mv; exact rfl; exact rfl) | (apply ef_ext; (iterate 3 exact rfl)) | apply ef_nil | apply seqQ.normal)
  generalize lgC (agL n S L) n.ls.length (upL n.ls.length) = C at *
  have HE := HB.out
  cases C with
  | nil =>
   refine ef_eqna (ht := by exact rfl) (by exact rfl) (by exact rfl) (by exact rfl) (by exact Nat.le_refl _) ?_
   repeat (first | (apply ef_mv; exact rfl; exact rfl) | apply ef_nil | apply seqQ.normal | apply ef_ret)
   (refine fin1 rfl (by exact rfl) rfl ?_)
   rw [HE]; rfl
  | cons a C =>
   refine ef_eqna (ht := by exact rfl) (by exact rfl) (by exact rfl) (by exact rfl) (by show 0 + (C.length + 1) ≤ _; simp) ?_
   repeat (first | (apply ef_mv; exact rfl; exact rfl) | apply ef_nil | apply seqQ.normal | apply ef_ret)
   (refine fin1 rfl (by exact rfl) rfl ?_)
   rw [HE]; rfl
theorem agree_c (k : Nat) (n : Nt) (ok : OkN n) (S : List Int) (hS : ∀ i ∈ S, 0 ≤ i ∧ i < (n.cs.length : Int)) (hl : S.length ≤ 32) (L : Int) (hL : 0 ≤ L ∧ L ≤ 10000) (h : MHeap) {v : MV} (hv : frz 0 [] h 8 v = some (.sl (S.map I64))) :
  orA (k + 6) 34 [encN n, v, I64 L] h = some (Bo (agB n S L), h) :=
 callL (args' := [encN n, .sl (S.map I64), I64 L]) (by simp [List.mapM_cons, hv, frz_lt (ltL_N n 0), frz_lt (m := I64 L) rfl]) rfl (agree_z k n ok S hS hl L hL)
noncomputable def limV (n : Nt) : Int := if (netF n).2 = 0 then Classical.epsilon (IsLim n) else 0
theorem limV_eq {n : Nt} (hn : (netF n).2 = 0) {L : Int} (h : IsLim n L) : limV n = L := by
 unfold limV
 rw [if_pos hn]
 exact (Classical.epsilon_spec ⟨L, h⟩ : IsLim n (Classical.epsilon (IsLim n))).uniq h
theorem mf_LimitOf : MT.mf 14 = some ⟨34, [(.tmp 2), (.tmp 3)], (.seq (.reg [gO 1 (.box 2 (.s 0)), gO 2 (.mv (cI 0)), gO 3 (.mv (cI 0))]) (.seq (.reg [gO 10 (.ld (some 2) (.s 1)), gO 11 (.call 24 [.s 10]), gO 9 (.mv (.s 11)), gO 12 (.ext (.s 9) 0), gO 13 (.ext (.s 9) 1), gO 4 (.new (.agg [(.lit (.slice none 0 0)), (.lit (.slice none 0 0))])), ⟨none, none, .st 2 (.s 4) (.s 12)⟩, gO 5 (.mv (.s 13))]) (.seq (.seq (.reg [gO 14 (.mv (.s 5)), gO 15 (.bin .neq (.s 14) (cI 0))]) (.cond (.s 15) (.seq (.reg [gO 16 (.mv (.s 5)), gO 2 (.mv (cI 0)), gO 3 (.mv (.s 16))]) .ret) .skip)) (.seq (.reg [gO 6 (.mv (cI 0)), gO 7 (.mv (cI 10000))]) (.seq (.block 0 (.loop [6, 7, 4] (.seq (.seq (.reg [gO 17 (.mv (.s 6)), gO 18 (.mv (.s 7)), gO 19 (.bin .lss (.s 17) (.s 18))]) (.cond (.s 19) .skip (.exit 0))) (.block 1 (.seq (.reg [gO 20 (.mv (.s 6)), gO 21 (.mv (.s 7)), gO 22 (.bin .add (.s 20) (.s 21)), gO 23 (.bin .quo (.s 22) (cI 2)), gO 8 (.mv (.s 23))]) (.seq (.reg [gO 24 (.ld (some 2) (.s 4)), gO 25 (.ld (some 2) (.s 4)), gO 26 (.call 36 [.s 25]), gO 27 (.call 35 [.s 26]), gO 28 (.mv (.s 8)), gO 29 (.call 34 [.s 24, .s 27, .s 28])]) (.cond (.s 29) (.reg [gO 30 (.mv (.s 8)), gO 7 (.mv (.s 30))]) (.reg [gO 31 (.mv (.s 8)), gO 32 (.bin .add (.s 31) (cI 1)), gO 6 (.mv (.s 32))])))))))) (.seq (.reg [gO 33 (.mv (.s 6)), gO 2 (.mv (.s 33)), gO 3 (.mv (cI 0))]) .ret))))))⟩ := by kernel_rfl
set_option maxHeartbeats 2000000 in
theorem LimitOf_z (k : Nat) (n : Nt) (hb : BdN n) :
  (runZ MT (orA (k + 6)) (itA (k + 6)) 4000000 14 [encN n] [] = some (.tup [I64 (limV n), I64 (netF n).2], [])) ∧ ((netF n).2 = 0 → IsLim n (limV n)) := by
 have w1 := fun h => open_c k n hb h
 by_cases h0 : (netF n).2 = 0
 rotate_left
 ·refine ⟨?_, fun h => absurd h h0⟩
  have e : limV n = 0 := by unfold limV; rw [if_neg h0]
  rw [e]
  refine runZ_of mf_LimitOf (by simp) ?_
  simp only [argsL]
  generalize (netF n).2 = e at *
  repeat (first | apply ef_seq | (apply ef_mv; exact rfl; exact rfl) | (apply ef_bin; (iterate 3 exact rfl); (exact cmp_t rfl (by first | exact rfl | (simp only [cmpP]; omega)))) | (apply ef_ldp; exact rfl; exact rfl; (exact rfl); exact rfl; (exact rfl); (exact rd_2 rfl rfl)) | (apply ef_ext; (iterate 3 exact rfl)) | (apply ef_box; (iterate 4 exact rfl)) | (apply ef_new; exact rfl) | (apply ef_st; (iterate 6 exact rfl); (exact rfl); exact rfl) | apply ef_nil | apply seqQ.normal | apply ef_ret | apply seqQ.ret | (apply ef_condt; exact rfl; (exact (rfl : true = true))) | (apply ef_call; exact rfl; ((repeat (apply XVs.cons; exact rfl)); exact XVs.nil); (with_reducible exact w1 _)))
  (refine fin2 rfl (by exact rfl) (by exact rfl) ?_)
  rfl
 have ok := net_ok h0
 have c16 := ok.c16
 have hes := evS_in n
 have hel : (evS n).length = n.cs.length := by simp [evS]
 have h2 : 2 ^ n.cs.length ≤ 2 ^ 16 := Nat.pow_le_pow_right (by omega) c16
 have w2 := fun h => everything_c (k + 5) n c16 h
 have w3 := fun h => members_c (k + 3) (2 ^ n.cs.length - 1) (by omega) h
 have hmf := mbI_full c16
 have hml : (mbL (2 ^ n.cs.length - 1)).length = n.cs.length := by rw [mbL_full _ (by omega), List.length_range]
 rw [hmf, hml] at w3
 have w4 := fun h v L hL hv => agree_c k n ok (evS n) hes (by omega) L hL h (v := v) hv
 obtain ⟨L, hL, hrun⟩ : ∃ L, IsLim n L ∧ runZ MT (orA (k + 6)) (itA (k + 6)) 4000000 14 [encN n] [] = some (.tup [I64 L, I64 (netF n).2], []) := by
  rw [h0] at w1 ⊢
  refine runZ_ofE (p := IsLim n) (m := fun L => .tup [I64 L, I64 0]) (news := fun _ => []) mf_LimitOf (by simp) ?_
  simp only [argsL]
  repeat (first | apply ef_seq | (apply ef_mv; exact rfl; exact rfl) | (apply ef_bin; (iterate 3 exact rfl); (exact cmp_f rfl (by simp only [cmpP]; omega))) | (apply ef_ldp; exact rfl; exact rfl; (exact rfl); exact rfl; (exact rfl); (exact rd_2 rfl rfl)) | (apply ef_ext; (iterate 3 exact rfl)) | (apply ef_box; (iterate 4 exact rfl)) | (apply ef_new; exact rfl) | (apply ef_st; (iterate 6 exact rfl); (exact rfl); exact rfl) | apply ef_nil | apply seqQ.normal | apply ef_block | apply ef_skip | (apply ef_condf; exact rfl; (exact (rfl : false = false))) | (apply ef_call; exact rfl; ((repeat (apply XVs.cons; exact rfl)); exact XVs.nil); (with_reducible exact w1 _)))
  refine ef_loopf (α := Int × Int) (fun p => 0 ≤ p.1 ∧ p.1 ≤ p.2 ∧ p.2 ≤ 10000 ∧ AgN n (evS n) p.2 ∧ ∀ L', 0 ≤ L' → AgN n (evS n) L' → p.1 ≤ L') (fun p => [(6, I64 p.1), (7, I64 p.2)]) [(4, .ptr 1 0 0 0)] (fun _ => [⟨0, false, 2, [encN n]⟩, ⟨0, false, 2, [encN n]⟩]) (fun p => (p.2 - p.1).toNat) (0, 10000) [6, 7] (fun _ => rfl) (by ((repeat (refine Hold.cons (by exact rfl) ?_)); exact Hold.nil)) (by ((repeat (refine Hold.cons (by exact rfl) ?_)); exact Hold.nil)) rfl rfl ⟨by omega, by omega, by omega, agN_top ok hes, fun L' h _ => h⟩ (by show (10000 - 0 : Int).toNat < 4000000; omega) ?_
  rintro ⟨lo, hi⟩ ⟨q1, q2, q3, q4, q5⟩
  try simp only at q1 q2 q3 q4 q5 ⊢
  by_cases hlt : lo < hi
  ·have hq : binI .quo .i64 (lo + hi) 2 = some (.int .i64 ((lo + hi) / 2)) := by
    have e : binI .quo .i64 (lo + hi) 2 = some (.int .i64 (IntKind.i64.wrap ((lo + hi).tdiv 2))) := rfl
    rw [e, Int.tdiv_eq_ediv_of_nonneg (by omega), wrap_of (by omega) (by omega)]
   have hm1 : lo ≤ (lo + hi) / 2 ∧ (lo + hi) / 2 < hi := by omega
   have HA := Bx.mk (agB_iff (L := (lo + hi) / 2) ok hes (by omega) (by omega))
   have w5 := fun h v hv => w4 h v ((lo + hi) / 2) (by omega) hv
   generalize (lo + hi) / 2 = mid at *
   repeat (first | apply ef_seq | (apply ef_mv; exact rfl; exact rfl) | (apply ef_bin; (iterate 3 exact rfl); (first | assumption | exact cmp_t rfl (by first | exact rfl | (simp only [cmpP]; omega)) | ((with_reducible refine bin_add (wrap_of ?_ ?_)) <;> omega))) | (apply ef_ldp; exact rfl; exact rfl; (exact rfl); exact rfl; (exact rfl); (exact rd_2 rfl rfl)) | apply ef_nil | apply seqQ.normal | apply ef_block | apply ef_skip | (apply ef_condt; exact rfl; (exact (rfl : true = true))) | (apply ef_call; exact rfl; ((repeat (apply XVs.cons; exact rfl)); exact XVs.nil); (with_reducible first | exact w2 _ | exact w3 _)))
   (apply ef_call; (· exact rfl); (· ((repeat (apply XVs.cons; exact rfl)); exact XVs.nil)); · exact w5 _ _ (frz_row (o := ⟨0, decide (n.cs.length = 0), 1, (evS n).map I64⟩) rfl rfl (by simp [hel]) (ltL_I 0 _) rfl))
   have HG := HA.out
   cases hg : agB n (evS n) mid
   ·have hna : ¬ AgN n (evS n) mid := fun h => by have := HG.2 h; rw [hg] at this; cases this
    repeat (first | (apply ef_mv; exact rfl; exact rfl) | (apply ef_bin; (iterate 3 exact rfl); (((with_reducible refine bin_add (wrap_of ?_ ?_)) <;> omega))) | apply ef_nil | apply seqQ.normal | apply blockQ.normal | (apply ef_condf; exact rfl; (exact (rfl : false = false))))
    (refine loopQ.normal _ _ ⟨(mid + 1, hi), ⟨by omega, by omega, q3, q4, fun L' h1 h2 => by
     apply Classical.byContradiction
     intro hn
     exact hna (agN_mono (by omega) h2)⟩, (by show (hi - (mid + 1)).toNat < (hi - lo).toNat; omega), ⟨by ((repeat (refine Hold.cons (by exact rfl) ?_)); exact Hold.nil), by ((repeat (refine Hold.cons (by exact rfl) ?_)); exact Hold.nil)⟩, .inr ⟨by ((repeat (refine hdl_cons rfl (by first | rfl | (simp [MV.lt, ltL, ltL_Ln, ltL_Cr, ltL_I, splice, MV.cells])) ?_)); exact hdl_nil), by (simp [hltL, ltL, MV.lt, ltL, ltL_Ln, ltL_Cr, ltL_I, splice, MV.cells])⟩, by exact rfl⟩)
   ·repeat (first | (apply ef_mv; exact rfl; exact rfl) | apply ef_nil | apply seqQ.normal | apply blockQ.normal | (apply ef_condt; exact rfl; (exact (rfl : true = true))))
    (refine loopQ.normal _ _ ⟨(lo, mid), ⟨q1, by omega, by omega, HG.1 hg, q5⟩, (by show (mid - lo).toNat < (hi - lo).toNat; omega), ⟨by ((repeat (refine Hold.cons (by exact rfl) ?_)); exact Hold.nil), by ((repeat (refine Hold.cons (by exact rfl) ?_)); exact Hold.nil)⟩, .inr ⟨by ((repeat (refine hdl_cons rfl (by first | rfl | (simp [MV.lt, ltL, ltL_Ln, ltL_Cr, ltL_I, splice, MV.cells])) ?_)); exact hdl_nil), by (simp [hltL, ltL, MV.lt, ltL, ltL_Ln, ltL_Cr, ltL_I, splice, MV.cells])⟩, by exact rfl⟩)
  ·obtain rfl : lo = hi := by omega
   repeat (first | apply ef_seq | (apply ef_mv; exact rfl; exact rfl) | (apply ef_bin; (iterate 3 exact rfl); (exact cmp_f rfl (by simp only [cmpP]; omega))) | apply ef_nil | apply seqQ.normal | apply loopQ.exit | apply ef_ret | apply ef_exit | apply seqQ.exit | apply blockQ.here | (apply ef_condf; exact rfl; (exact (rfl : false = false))))
   refine ⟨lo, ⟨q1, q3, q4, q5⟩, ?_⟩
   (refine fin2 rfl (by exact rfl) (by exact rfl) ?_)
   rfl
 have e := limV_eq h0 hL
 rw [e]
 exact ⟨hrun, fun _ => hL⟩
theorem LimitOf_c (k : Nat) (n : Nt) (hb : BdN n) (h : MHeap) : orA (k + 7) 14 [encN n] h = some (.tup [I64 (limV n), I64 (netF n).2], h) :=
 callTT (args' := [encN n]) (frzL_lt (by simp [ltL, MV.lt, ltL_Ln, ltL_Cr])) rfl (LimitOf_z k n hb).1
theorem limV_is {n : Nt} (hb : BdN n) (h0 : (netF n).2 = 0) : IsLim n (limV n) := (LimitOf_z 0 n hb).2 h0
end Go.Proofs.YtfchdbghjeophaaDoor

/- Anomalies that are added to a net (plain): what is kept, the cost, the limit. -/
namespace Go.Proofs.YtfchdbghjeophaaDoor
open Go.RowKit
set_option linter.unusedVariables false
set_option linter.unusedSimpArgs false
theorem kp_sub {n : Nt} {a d b : List Int} (okA : OkN (nW n a)) (okD : OkN (nW n d)) (okB : OkN (nW n b)) (h : ∀ i : Nat, i < n.cs.length → cAt b i = cAt a i + cAt d i) : kpV n b ≤ kpV n a + kpV n d := by
 obtain ⟨fl, hf, he⟩ := kp_is okB
 have h1 := kp_max okA hf
 have h2 := kp_max okD hf
 rw [he, sumA_add _ h]
 omega
theorem cAt_mneg (fl : List Int) (v : Int) : cAt (fl.map (- ·)) v = - cAt fl v := by
 unfold cAt
 rw [List.getD_eq_getElem?_getD, List.getElem?_map, List.getD_eq_getElem?_getD]
 cases fl[v.toNat]? <;> simp
theorem sumV_mneg (cs : List Cr) (fl : List Int) (v : Int) : ∀ i, sumV cs (fl.map (- ·)) v i = - sumV cs fl v i
 | 0 => rfl
 | i + 1 => by
  rw [sumV, sumV, sumV_mneg cs fl v i, cAt_mneg]
  unfold att
  (repeat' split) <;> omega
theorem flOk_mneg {n : Nt} {fl : List Int} (h : FlOk n fl) : FlOk n (fl.map (- ·)) :=
 ⟨by simp [h.len], fun i hi => by have := h.bd i hi; rw [cAt_mneg]; omega, fun v => by rw [sumV_mneg, h.sum]; rfl⟩
theorem kp_neg_le {n : Nt} {a b : List Int} (okA : OkN (nW n a)) (okB : OkN (nW n b)) (h : ∀ i : Nat, i < n.cs.length → cAt b i = - cAt a i) : kpV n a ≤ kpV n b := by
 obtain ⟨fl, hf, he⟩ := kp_is okA
 have h1 := kp_max okB (flOk_mneg hf)
 have e : ∀ k, k ≤ n.cs.length → sumA (fl.map (- ·)) b k = sumA fl a k := fun k => by
  induction k with
  | zero => intro _; rfl
  | succ k ih =>
   intro hk
   rw [sumA, sumA, ih (by omega), cAt_mneg, h k (by omega), Int.neg_mul_neg]
 rw [e _ (Nat.le_refl _)] at h1
 omega
theorem kp_opp {n : Nt} {a b : List Int} (okA : OkN (nW n a)) (okB : OkN (nW n b)) (h : ∀ i : Nat, i < n.cs.length → cAt b i = - cAt a i) : kpV n b = kpV n a := by
 have h1 := kp_neg_le okA okB h
 have h2 := kp_neg_le okB okA (fun i hi => by have := h i hi; omega)
 omega
def dfL (n : Nt) : List Int := n.cs.map (·.df)
theorem dfL_at {n : Nt} {i : Nat} (h : i < n.cs.length) : cAt (dfL n) i = (n.cs.getD i default).df := by
 unfold cAt dfL
 rw [Int.toNat_natCast, List.getD_eq_getElem?_getD, List.getElem?_map, List.getD_eq_getElem?_getD, List.getElem?_eq_getElem h]; rfl
theorem nW_self (n : Nt) : nW n (dfL n) = n := by
 obtain ⟨ls, cs⟩ := n
 unfold nW
 congr 1
 refine List.ext_getElem (by simp [wiU_len]) fun i h1 h2 => ?_
 have := nW_get ⟨ls, cs⟩ (dfL ⟨ls, cs⟩) i h2 h1
 unfold nW at this
 rw [this]
 have e := dfL_at (n := ⟨ls, cs⟩) h2
 rw [e, List.getD_eq_getElem?_getD, List.getElem?_eq_getElem h2]; rfl
theorem minC_kp (n : Nt) : minC n = kpV n (dfL n) := by unfold minC kpV; rw [nW_self]
theorem cost_add {n : Nt} {a m : List Int} (ok : OkN n) (okA : OkN (nW n a)) (okM : OkN (nW n m)) (okO : OkN (nW n (a.map (- ·)))) (h : ∀ i : Nat, i < n.cs.length → cAt m i = (n.cs.getD i default).df + cAt a i) : absI (minC n - minC (nW n m)) ≤ kpV n a := by
 have ok' : OkN (nW n (dfL n)) := by rw [nW_self]; exact ok
 have h1 := kp_sub ok' okA okM (fun i hi => by rw [dfL_at hi]; exact h i hi)
 have h2 := kp_sub okM okO ok' (fun i hi => by rw [dfL_at hi, cAt_mneg, h i hi]; omega)
 have h3 := kp_opp okA okO (fun i _ => cAt_mneg a i)
 rw [← minC_kp] at h1 h2
 have e : minC (nW n m) = kpV n m := rfl
 rw [e]
 unfold absI
 split <;> omega
theorem lim_add {n : Nt} {a m : List Int} {x y B : Int} (hx : IsLim n x) (hy : IsLim (nW n m) y) (hB : 0 ≤ B) (ha : ∀ i : Nat, i < n.cs.length → -B ≤ cAt a i ∧ cAt a i ≤ B) (h : ∀ i : Nat, i < n.cs.length → cAt m i = (n.cs.getD i default).df + cAt a i) : absI (x - y) ≤ B := by
 have hlen := nW_len n m
 have hr : ∀ (p : Int → Int) (i : Int), 0 ≤ i → i < (n.cs.length : Int) → resP (crI (nW n m) i) p = resP (crI n i) p + cAt a i := fun p i h0 h1 => by
  have e := nW_getD n m (i := i.toNat) (by omega)
  have := h i.toNat (by omega)
  rw [show ((i.toNat : Nat) : Int) = i by omega] at this e
  unfold crI resP
  rw [e]
  simp only [setD]
  omega
 have h1 : y ≤ x + B := by
  obtain ⟨p, hp⟩ := hx.ag
  have := hx.lo
  refine hy.least _ (by omega) ⟨p, fun i hi => ?_⟩
  have hb := evS_in _ i hi
  rw [hlen] at hb
  have h2 := hp i (List.mem_map.2 ⟨i.toNat, List.mem_range.2 (by omega), by omega⟩)
  have h3 := ha i.toNat (by omega)
  rw [show ((i.toNat : Nat) : Int) = i by omega] at h3
  rw [hr p i hb.1 hb.2]
  omega
 have h2 : x ≤ y + B := by
  obtain ⟨p, hp⟩ := hy.ag
  have := hy.lo
  refine hx.least _ (by omega) ⟨p, fun i hi => ?_⟩
  have hb := evS_in _ i hi
  have h2 := hp i (List.mem_map.2 ⟨i.toNat, List.mem_range.2 (by rw [hlen]; omega), by omega⟩)
  have h3 := ha i.toNat (by omega)
  rw [show ((i.toNat : Nat) : Int) = i by omega] at h3
  rw [hr p i hb.1 hb.2] at h2
  omega
 unfold absI
 split <;> omega
end Go.Proofs.YtfchdbghjeophaaDoor

/- Contracts: nets that must be joined; the lowest best corrections; the ranges; the program. -/
namespace Go.Proofs.YtfchdbghjeophaaDoor
open Go.RowKit
set_option linter.unusedVariables false
set_option linter.unusedSimpArgs false
def minU (L : List Int) : Nat → Int
 | 0 => cAt L 0
 | i + 1 => mn (minU L i) (cAt L (i + 1))
theorem minU_far {L : List Int} : ∀ i, (∀ v : Nat, v ≤ i → -1099511627776 ≤ cAt L v) → (minU L i = -1099511627776 ↔ ∃ v : Nat, v ≤ i ∧ cAt L v = -1099511627776) ∧ -1099511627776 ≤ minU L i
 | 0, h => ⟨⟨fun e => ⟨0, Nat.le_refl _, e⟩, fun ⟨v, h1, h2⟩ => (by have e : v = 0 := (by omega); subst e; exact h2)⟩, h 0 (Nat.le_refl _)⟩
 | i + 1, h => by
  obtain ⟨h1, h2⟩ := minU_far i (fun v hv => h v (by omega))
  have h3 := h (i + 1) (Nat.le_refl _)
  have e : ((i + 1 : Nat) : Int) = (i : Int) + 1 := by omega
  rw [e] at h3
  rw [minU]
  unfold mn
  refine ⟨⟨fun hm => ?_, fun ⟨v, hv, he⟩ => ?_⟩, by split <;> omega⟩
  ·split at hm
   ·exact ⟨i + 1, Nat.le_refl _, by rw [e]; exact hm⟩
   ·obtain ⟨v, hv, he⟩ := h1.1 hm
    exact ⟨v, by omega, he⟩
  ·by_cases ev : v = i + 1
   ·subst ev
    rw [e] at he
    split <;> omega
   ·have := h1.2 ⟨v, by omega, he⟩
    split <;> omega
theorem mf_Min : MT.mf 40 = some mfW_l40 := mfW_q40
theorem Min_z (k : Nat) (L : List Int) (h1 : 0 < L.length) (h8 : L.length ≤ 1000) : runZ MT (orA k) (itA k) 4000000 40 [.sl (L.map I64)] [] = some (I64 (minU L (L.length - 1)), []) := by
 have hl : (MV.sl (L.map I64)).slen = some L.length := by simp [MV.slen]
 have e0 : (L.map I64)[(0 : Int).toNat]? = some (I64 (cAt L 0)) := cAt_at rfl (by omega) (by omega)
 refine runZ_of mf_Min (by simp) ?_
 simp only [argsL]
 repeat (first | apply ef_seq | (apply ef_mv; exact rfl; exact rfl) | (apply ef_bin; (iterate 3 exact rfl); (exact cmp_f rfl (by simp only [cmpP]; omega))) | (apply ef_len; exact rfl; exact rfl; (assumption)) | (apply ef_ldr; exact rfl; exact rfl; (exact rfl)) | (apply ef_ias; (iterate 3 exact rfl); (omega); assumption; exact rfl) | apply ef_nil | apply seqQ.normal | apply ef_block | apply ef_skip | (apply ef_condf; exact rfl; (exact (rfl : false = false))))
 refine ef_loopf (α := Nat) (fun i => i < L.length) (fun i => [(4, I64 ((i : Int) + 1)), (3, I64 (minU L i))]) [(0, .sl (L.map I64))] (fun _ => []) (fun i => L.length - i) 0 [4, 3] (fun _ => rfl) (by ((repeat (refine Hold.cons (by exact rfl) ?_)); exact Hold.nil)) (by ((repeat (refine Hold.cons (by exact rfl) ?_)); exact Hold.nil)) rfl rfl h1 (by show L.length - 0 < 4000000; omega) ?_
 intro i hi
 try simp only at hi ⊢
 by_cases hlt : i + 1 < L.length
 ·have e1 : (L.map I64)[((i : Int) + 1).toNat]? = some (I64 (cAt L ((i : Int) + 1))) := cAt_at rfl (by omega) (by omega)
  have HN := Bx.mk (show minU L (i + 1) = mn (minU L i) (cAt L ((i : Int) + 1)) from rfl)
  generalize cAt L ((i : Int) + 1) = z at e1 HN
  generalize minU L i = w at *
  repeat (first | apply ef_seq | (apply ef_mv; exact rfl; exact rfl) | (apply ef_bin; (iterate 3 exact rfl); (first | exact cmp_t rfl (by first | exact rfl | (simp only [cmpP]; omega)) | ((with_reducible refine bin_add (wrap_of ?_ ?_)) <;> omega))) | (apply ef_len; exact rfl; exact rfl; (assumption)) | (apply ef_ldr; exact rfl; exact rfl; (exact rfl)) | (apply ef_ias; (iterate 3 exact rfl); (omega); assumption; exact rfl) | (apply ef_mn; (iterate 3 exact rfl)) | apply ef_nil | apply seqQ.normal | apply blockQ.normal | apply ef_block | apply ef_skip | (apply ef_condt; exact rfl; (exact (rfl : true = true))))
  refine loopQ.normal _ _ ⟨i + 1, hlt, by (show L.length - (i + 1) < L.length - i; omega), ⟨?_, by ((repeat (refine Hold.cons (by exact rfl) ?_)); exact Hold.nil)⟩, .inl (Nat.le_refl _), by exact rfl⟩
  rw [HN.out, show ((i + 1 : Nat) : Int) = (i : Int) + 1 by omega]
  ((repeat (refine Hold.cons (by exact rfl) ?_)); exact Hold.nil)
 ·have e : L.length - 1 = i := by omega
  rw [e]
  repeat (first | apply ef_seq | (apply ef_mv; exact rfl; exact rfl) | (apply ef_bin; (iterate 3 exact rfl); (exact cmp_f rfl (by simp only [cmpP]; omega))) | (apply ef_len; exact rfl; exact rfl; (assumption)) | apply ef_nil | apply seqQ.normal | apply loopQ.exit | apply ef_ret | apply ef_exit | apply seqQ.exit | apply blockQ.here | (apply ef_condf; exact rfl; (exact (rfl : false = false))))
  (refine fin1 rfl (by exact rfl) rfl ?_)
  rfl
theorem Min_c (k : Nat) (L : List Int) (h1 : 0 < L.length) (h8 : L.length ≤ 1000) (h : MHeap) {v : MV} (hv : frz 0 [] h 8 v = some (.sl (L.map I64))) : orA (k + 1) 40 [v] h = some (I64 (minU L (L.length - 1)), h) :=
 callL (args' := [.sl (L.map I64)]) (by simp [List.mapM_cons, hv]) rfl (Min_z k L h1 h8)
def wayA (x : Cr) : List Ac := [⟨x.ln, x.ti, 0, 0, 0⟩, ⟨x.ti, x.ln, 0, 0, 0⟩]
def waysU (cs : List Cr) : Nat → List Ac
 | 0 => []
 | i + 1 => waysU cs i ++ wayA (cs.getD i default)
theorem waysU_len (cs : List Cr) : ∀ i, (waysU cs i).length = 2 * i
 | 0 => rfl
 | i + 1 => by rw [waysU, List.length_append, waysU_len cs i]; simp [wayA]; omega
theorem waysU_next {cs : List Cr} {i : Nat} {x : Cr} (h : cs[i]? = some x) : waysU cs (i + 1) = waysU cs i ++ wayA x := by
 rw [waysU, List.getD_eq_getElem?_getD, h]; rfl
theorem waysU_mem {n : Nt} : ∀ i, i ≤ n.cs.length → ∀ a, a ∈ waysU n.cs i ↔ ∃ j, j < i ∧ ∃ h : j < n.cs.length, a ∈ wayA n.cs[j]
 | 0, _, a => by simp [waysU]
 | i + 1, hi, a => by
  have ih := waysU_mem (n := n) i (by omega) a
  rw [waysU_next (List.getElem?_eq_getElem (show i < n.cs.length by omega)), List.mem_append, ih]
  constructor
  ·rintro (⟨j, h1, h2, h3⟩ | h)
   ·exact ⟨j, by omega, h2, h3⟩
   ·exact ⟨i, by omega, by omega, h⟩
  ·rintro ⟨j, h1, h2, h3⟩
   by_cases e : j = i
   ·subst e; exact .inr h3
   ·exact .inl ⟨j, by omega, h2, h3⟩
theorem ways_ok {n : Nt} (ok : OkN n) : ∀ a ∈ waysU n.cs n.cs.length, OkA n.ls.length 0 a := fun a ha => by
 obtain ⟨j, -, hj, hm⟩ := (waysU_mem _ (Nat.le_refl _) a).1 ha
 have o := ok.rg _ (List.getElem_mem hj)
 have k := ok.kd _ (List.getElem_mem hj)
 have hne : n.cs[j].ln ≠ n.cs[j].ti := fun e => by rw [e] at k; rw [k.1] at k; exact absurd k.2 (by simp)
 simp only [wayA, List.mem_cons, List.not_mem_nil, or_false] at hm
 rcases hm with rfl | rfl
 ·exact ⟨o.l0, o.l1, o.t0, o.t1, by simp, by simp, hne⟩
 ·exact ⟨o.t0, o.t1, o.l0, o.l1, by simp, by simp, hne.symm⟩
abbrev lgW (n : Nt) : List Int := (lgS (waysU n.cs n.cs.length) n.ls.length [0]).1.L
theorem lgW_ok {n : Nt} (ok : OkN n) : lgC (waysU n.cs n.cs.length) n.ls.length [0] = [] ∧ LgOk (waysU n.cs n.cs.length) n.ls.length [0] (lgW n) := by
 have l1 := ok.l1
 have c16 := ok.c16
 refine lg_feas (f := fun _ => 0) (B := 0) (by omega) (by omega) ok.l8 (by rw [waysU_len]; omega) (ways_ok ok) (fun v hv => by rw [List.mem_singleton] at hv; subst hv; omega) (fun a ha => ?_)
 have o := ways_ok ok a ha
 have := o.l1
 simp only; omega
def jnB (n : Nt) : Bool := decide (minU (lgW n) (n.ls.length - 1) ≠ -1099511627776)
theorem jnB_iff {n : Nt} (ok : OkN n) : jnB n = true ↔ Jn n := by
 have l1 := ok.l1
 obtain ⟨-, hL⟩ := lgW_ok ok
 have hm := (minU_far (L := lgW n) (n.ls.length - 1) (fun v _ => hL.far v)).1
 unfold jnB
 rw [decide_eq_true_eq]
 constructor
 ·intro hne S h0 hc v v0 v1
  refine Classical.byContradiction fun hS => ?_
  have hlow := hL.low (fun v => if S v then 0 else -1099511627776) (fun a ha => by
   obtain ⟨j, -, hj, hmem⟩ := (waysU_mem _ (Nat.le_refl _) a).1 ha
   have e := hc _ (List.getElem_mem hj)
   simp only [wayA, List.mem_cons, List.not_mem_nil, or_false] at hmem
   rcases hmem with rfl | rfl
   ·simp only; rw [e]; omega
   ·simp only; rw [e]; omega) (fun u u0 u1 => by
   rw [srcL_one (by omega) (by omega) u0]
   split
   ·rename_i e; subst e; simp [h0]
   ·(repeat' split) <;> omega) v v0 v1
  try simp only at hlow
  rw [if_neg hS] at hlow
  have := hL.far v
  refine hne (hm.2 ⟨v.toNat, by omega, ?_⟩)
  rw [show ((v.toNat : Nat) : Int) = v by omega]
  omega
 ·intro hj he
  obtain ⟨v, hv, hf⟩ := hm.1 he
  have := hj (fun v => decide (cAt (lgW n) v > -549755813888)) (by have := hL.src 0 (by simp); simp only [decide_eq_true_eq]; omega) (fun x hx => by
   obtain ⟨j, hj2, rfl⟩ := List.getElem_of_mem hx
   have m1 := (waysU_mem (n := n) _ (Nat.le_refl _) ⟨n.cs[j].ln, n.cs[j].ti, 0, 0, 0⟩).2 ⟨j, hj2, hj2, by simp [wayA]⟩
   have m2 := (waysU_mem (n := n) _ (Nat.le_refl _) ⟨n.cs[j].ti, n.cs[j].ln, 0, 0, 0⟩).2 ⟨j, hj2, hj2, by simp [wayA]⟩
   have s1 := hL.sat _ m1
   have s2 := hL.sat _ m2
   simp only at s1 s2
   by_cases c1 : cAt (lgW n) n.cs[j].ln > -549755813888
   ·have := s1 c1
    rw [decide_eq_true c1, decide_eq_true (by omega)]
   ·by_cases c2 : cAt (lgW n) n.cs[j].ti > -549755813888
    ·have := s2 c2; omega
    ·rw [decide_eq_false c1, decide_eq_false c2]) v (by omega) (by omega)
  simp only [decide_eq_true_eq] at this
  omega
end Go.Proofs.YtfchdbghjeophaaDoor

/- Contracts: nets that must be joined; the lowest best corrections; the program. -/
namespace Go.Proofs.YtfchdbghjeophaaDoor
open Go.RowKit
set_option linter.unusedVariables false
set_option linter.unusedSimpArgs false
def joE (n : Nt) : Int := if (netF n).2 = 0 then (if jnB n then 0 else 21) else (netF n).2
theorem joE_ok {n : Nt} (h : joE n = 0) : (netF n).2 = 0 ∧ OkN n ∧ Jn n := by
 unfold joE at h
 split at h
 ·rename_i h0
  split at h
  ·rename_i hj; exact ⟨h0, net_ok h0, (jnB_iff (net_ok h0)).1 hj⟩
  ·cases h
 ·rename_i h0; exact absurd h h0
abbrev opH (n : Nt) (i : Nat) (rs : List MV) : MHeap := [⟨0, false, 2, [encN n]⟩, ⟨0, false, 2, [.agg [.lit (.slice none 0 0), .lit (.slice none 0 0)]]⟩, ⟨0, true, 5, []⟩, ⟨0, false, 2, [encN n]⟩, ⟨i, decide (i = 0), 5, rs⟩]
theorem fin_op {x : MX2} {A : Sl} {h : MHeap} {r : MRes} {t u w id k g : Nat} {o : MObj} {es : List MV} {nl : Bool} {sz : Nat} {m : MV} {a b : Value} (hx : outX x = true) (hr : ResV A h r m) (hm : m.lt 0 = true) (hna : impIds 0 [m] = []) (hv : look A t = some (.arr id 0 k g)) (ha : look A u = some (.lit a)) (hb : look A w = some (.lit b)) (ho : h[id]? = some o) (hg : o.g = g) (hk : k = es.length) (hl : ltL 0 es = true) (he : o.es = es) (hz : o.sz = sz) (hn : o.nl = nl) (hex : expL 0 [id] h [m, .arr id 0 k g, .lit a, .lit b] 0 = some ([m, .arr 0 0 k 0, .lit a, .lit b], [⟨0, nl, sz, es⟩])) (hi : impIds 0 [m, .arr id 0 k g, .lit a, .lit b] = [id]) :
  FinF [r, .tmp t, .tmp u, .tmp w] (.tup [m, .arr 0 0 k 0, .lit a, .lit b]) [⟨0, nl, sz, es⟩] x A h := by
 refine ⟨hx, [m, .arr id 0 k g, .lit a, .lit b], [m, .arr 0 0 k 0, .lit a, .lit b], ⟨_, _, rfl, hr, _, _, rfl, hv, _, _, rfl, ha, _, [], rfl, hb, rfl⟩, ?_, ?_, rfl⟩
 ·rw [hi]; simp
 ·rw [hi]; exact hex
theorem fin_opN {x : MX2} {A : Sl} {h : MHeap} {r : MRes} {t u w id k g : Nat} {o : MObj} {es : List MV} {nl : Bool} {sz : Nat} {n : Nt} {a b : Value} (hx : outX x = true) (hr : ResV A h r (encN n)) (hv : look A t = some (.arr id 0 k g)) (ha : look A u = some (.lit a)) (hb : look A w = some (.lit b)) (ho : h[id]? = some o) (hg : o.g = g) (hk : k = es.length) (hl : ltL 0 es = true) (he : o.es = es) (hz : o.sz = sz) (hn : o.nl = nl) :
  FinF [r, .tmp t, .tmp u, .tmp w] (.tup [encN n, .arr 0 0 k 0, .lit a, .lit b]) [⟨0, nl, sz, es⟩] x A h := by
 subst hz hn he hk
 refine fin_op hx hr (ltL_N n 0) (by simp [impIds]) hv ha hb ho hg rfl hl rfl rfl rfl ?_ (by simp [impIds])
 simp [expL, ho, hg, hl, frz, MV.lt, ltL, ltL_Ln, ltL_Cr]
theorem mf_openJoined : MT.mf 22 = some mfW_l22 := mfW_q22
set_option maxHeartbeats 4000000 in
theorem openJoined_z (k : Nat) (n : Nt) (hb : BdN n) (h0 : (netF n).2 = 0) :
  runZ MT (orA (k + 6)) (itA (k + 6)) 4000000 22 [encN n] [] = some (if jnB n then (.tup [encN n, .arr 0 0 (arZ n).length 0, I64 (minC n), I64 0], [⟨0, decide ((arZ n).length = 0), 5, (arZ n).map encA⟩]) else (.tup [encN n, .arr 0 0 0 0, I64 0, I64 21], [⟨0, true, 5, []⟩])) := by
 have ok := net_ok h0
 have c16 := ok.c16
 have l1 := ok.l1
 have l8 := ok.l8
 have hs1 : (MV.sl (n.ls.map encLn)).slen = some n.ls.length := by simp [MV.slen]
 have hs2 : (MV.sl (n.cs.map encCr)).slen = some n.cs.length := by simp [MV.slen]
 have w1 := fun h => open_c k n hb h
 rw [h0] at w1
 have w2 := fun h v w hv hw => longest_c (k + 1) n.ls.length l1 l8 (waysU n.cs n.cs.length) 0 (by omega) (by omega) (ways_ok ok) (by rw [waysU_len]; omega) [0] (fun v hv => by rw [List.mem_singleton] at hv; subst hv; omega) (by simp) h (v := v) (w := w) hv hw
 have w4 := fun h => flow_c k n ok h
 have hz := (flZ_ok ok).1
 have w5 := fun h v hv => arcs_c (k + 5) n ok (flZ n) hz.len h (v := v) hv
 have w6 := fun h v hv => value_c (k + 5) n ok (flZ n) hz.len (hz.bd10 ok) h (v := v) hv
 obtain ⟨hgC, hgL⟩ := lgW_ok ok
 have w3 := fun h v hv => Min_c (k + 5) (lgW n) (by rw [hgL.len]; omega) (by rw [hgL.len]; omega) h (v := v) hv
 rw [hgC] at w2
 rw [hgL.len] at w3
 have hwl := hgL.len
 have HJ := Bx.mk (show jnB n = decide (minU (lgW n) (n.ls.length - 1) ≠ -1099511627776) from rfl)
 have hzl := hz.len
 have hwy := waysU_len n.cs n.cs.length
 unfold minC
 refine runZ_of mf_openJoined (by simp) ?_
 simp only [argsL]
 repeat (first | apply ef_seq | (apply ef_mv; exact rfl; exact rfl) | (apply ef_bin; (iterate 3 exact rfl); (exact cmp_f rfl (by simp only [cmpP]; omega))) | (apply ef_len; exact rfl; exact rfl; (assumption)) | (apply ef_ldp; exact rfl; exact rfl; (exact rfl); exact rfl; (exact rfl); (first | exact rd_2 rfl rfl | exact rfl)) | (apply ef_fap; exact rfl; exact rfl) | (apply ef_ext; (iterate 3 exact rfl)) | (apply ef_box; (iterate 4 exact rfl)) | (apply ef_new; exact rfl) | (apply ef_nil0; exact rfl) | (apply ef_st; (iterate 6 exact rfl); (exact rfl); exact rfl) | apply ef_nil | apply seqQ.normal | apply ef_block | apply ef_skip | (apply ef_condf; exact rfl; (exact (rfl : false = false))) | (apply ef_call; exact rfl; ((repeat (apply XVs.cons; exact rfl)); exact XVs.nil); (with_reducible exact w1 _)))
 refine ef_loopf (α := Nat × List MV) (fun p => p.1 ≤ n.cs.length ∧ p.2 = (waysU n.cs p.1).map encA) (fun p => [(26, I64 (p.1 : Int)), (8, .arr 4 0 (2 * p.1) p.1)]) [(25, I64 (n.cs.length : Int)), (24, .sl (n.cs.map encCr)), (1, .ptr 0 0 0 0), (6, .ptr 3 0 0 0), (2, .ptr 1 0 0 0)] (fun p => opH n p.1 p.2) (fun p => n.cs.length - p.1) (0, []) [26, 8] (fun _ => rfl) (by ((repeat (refine Hold.cons (by exact rfl) ?_)); exact Hold.nil)) (by ((repeat (refine Hold.cons (by exact rfl) ?_)); exact Hold.nil)) rfl rfl ⟨by omega, rfl⟩ (by show n.cs.length - 0 < 4000000; omega) ?_
 rintro ⟨i, rs⟩ ⟨hi, hrs⟩
 try simp only at hi hrs ⊢
 have hrl : rs.length = 2 * i := by rw [hrs, List.length_map, waysU_len]
 have hlr : ∀ j, ltL j rs = true := fun j => by rw [hrs]; exact ltL_A j _
 by_cases hlt : i < n.cs.length
 ·have e1 := at_map encCr n.cs i hlt
  have hat : n.cs[i]? = some n.cs[i] := List.getElem?_eq_getElem hlt
  have HN := Bx.mk (waysU_next hat)
  generalize n.cs[i] = x at e1 HN
  clear hat
  repeat (first | apply ef_seq | (apply ef_mv; exact rfl; exact rfl) | (apply ef_bin; (iterate 3 exact rfl); (exact cmp_t rfl (by first | exact rfl | (simp only [cmpP]; omega)))) | (apply ef_ldr; exact rfl; exact rfl; (exact rd_6 rfl rfl rfl rfl rfl rfl)) | (apply ef_ldp; exact rfl; exact rfl; (exact rfl); exact rfl; (exact rfl); (exact rfl)) | (apply ef_ias; (iterate 3 exact rfl); (omega); assumption; exact rfl) | (apply ef_fap; exact rfl; exact rfl) | (apply ef_new; exact rfl) | (apply ef_build; exact rfl; (repeat (apply XVs.cons; exact rfl)); exact XVs.nil; exact rfl; exact rfl) | (apply ef_bsl; exact rfl; (repeat (apply XVs.cons; exact rfl)); exact XVs.nil; exact rfl) | (apply ef_st; (iterate 6 exact rfl); (exact rfl); exact rfl) | apply ef_nil | apply seqQ.normal | apply ef_block | apply ef_skip | (apply ef_condt; exact rfl; (exact (rfl : true = true))))
  (apply ef_app; (· exact rfl); (· exact rfl); (· exact rfl); (· exact rfl); (· exact rfl); (· exact rfl); (· (simp [hrl])); (· exact rfl); (· (simp [hrl]; omega)); (· (exact rfl)); (· exact rfl))
  repeat (first | (apply ef_mv; exact rfl; exact rfl) | (apply ef_bin; (iterate 3 exact rfl); (((with_reducible refine bin_add (wrap_of ?_ ?_)) <;> omega))) | apply ef_nil | apply seqQ.normal | apply blockQ.normal)
  (refine loopQ.normal _ _ ⟨(i + 1, rs ++ [encA ⟨x.ln, x.ti, 0, 0, 0⟩, encA ⟨x.ti, x.ln, 0, 0, 0⟩]), ⟨hlt, by rw [HN.out, hrs]; simp [wayA]⟩, (by first | (simp only; omega) | omega), ⟨by ((repeat (refine Hold.cons (by exact rfl) ?_)); exact Hold.nil), by ((repeat (refine Hold.cons (by exact rfl) ?_)); exact Hold.nil)⟩, .inr ⟨by ((repeat (refine hdl_cons rfl (by first | rfl | (simp [MV.lt, ltL, ltL_Ln, ltL_Cr, ltL_I, hlr, ltL_app2, splice, MV.cells])) ?_)); exact hdl_nil), by (simp [hltL, ltL, MV.lt, ltL, ltL_Ln, ltL_Cr, ltL_I, hlr, ltL_app2, splice, MV.cells])⟩, by exact rfl⟩)
 ·obtain rfl : i = n.cs.length := by omega
  repeat (first | apply ef_seq | (apply ef_mv; exact rfl; exact rfl) | (apply ef_bin; (iterate 3 exact rfl); (exact cmp_f rfl (by simp only [cmpP]; omega))) | (apply ef_len; exact rfl; exact rfl; (assumption)) | (apply ef_ldp; exact rfl; exact rfl; (exact rfl); exact rfl; (exact rfl); (exact rfl)) | (apply ef_fap; exact rfl; exact rfl) | (apply ef_bsl; exact rfl; (repeat (apply XVs.cons; exact rfl)); exact XVs.nil; exact rfl) | apply ef_nil | apply seqQ.normal | apply loopQ.exit | apply ef_exit | apply seqQ.exit | apply blockQ.here | (apply ef_condf; exact rfl; (exact (rfl : false = false))))
  (apply ef_call; (· exact rfl); (· ((repeat (apply XVs.cons; exact rfl)); exact XVs.nil)); · exact w2 _ _ _ (frz_row (o := ⟨n.cs.length, decide (n.cs.length = 0), 5, rs⟩) rfl rfl (by simp [hwy]) (ltL_A 0 _) hrs) (frz_row (o := ⟨0, false, 1, [I64 0]⟩) rfl rfl rfl rfl rfl))
  repeat (first | apply ef_seq | (apply ef_mv; exact rfl; exact rfl) | (apply ef_ext; (iterate 3 exact rfl)) | apply ef_nil | apply seqQ.normal)
  (apply ef_call; (· exact rfl); (· ((repeat (apply XVs.cons; exact rfl)); exact XVs.nil)); · exact w3 _ _ (frz_row (o := ⟨0, false, 1, (lgW n).map I64⟩) rfl rfl (by simp [hwl]) (ltL_I 0 _) rfl))
  cases hj : jnB n
  ·have hmf : minU (lgW n) (n.ls.length - 1) = -1099511627776 := by rw [HJ.out] at hj; simpa using hj
   rw [hmf]
   repeat (first | apply ef_seq | (apply ef_mv; exact rfl; exact rfl) | (apply ef_bin; (iterate 3 exact rfl); (exact cmp_t rfl (by first | exact rfl | (simp only [cmpP]; omega)))) | (apply ef_ldp; exact rfl; exact rfl; (exact rfl); exact rfl; (exact rfl); (exact rd_2 rfl rfl)) | (apply ef_nil0; exact rfl) | (apply ef_st; (iterate 6 exact rfl); (exact rfl); exact rfl) | apply ef_nil | apply seqQ.normal | apply ef_ret | apply seqQ.ret | (apply ef_condt; exact rfl; (exact (rfl : true = true))))
   show FinF _ (.tup [encN n, .arr 0 0 0 0, I64 0, I64 21]) [⟨0, true, 5, []⟩] _ _ _
   (apply fin_opN; (· exact rfl); (· exact ⟨1, 0, 0, 0, _, _, by exact rfl, by exact rfl, rfl, rfl, rd_2 rfl rfl⟩); (· exact rfl); (· exact rfl); (· exact rfl); (· exact rfl); (· exact rfl); (· exact rfl); (· exact rfl); (· exact rfl); (· exact rfl); (· exact rfl))
  ·have hmf : (minU (lgW n) (n.ls.length - 1) == -1099511627776) = false := by rw [HJ.out] at hj; simpa using hj
   generalize minU (lgW n) (n.ls.length - 1) = mm at *
   clear HJ
   repeat (first | apply ef_seq | (apply ef_mv; exact rfl; exact rfl) | (apply ef_bin; (iterate 3 exact rfl); (exact rfl)) | (apply ef_ldp; exact rfl; exact rfl; (exact rfl); exact rfl; (exact rfl); (exact rd_2 rfl rfl)) | apply ef_nil | apply seqQ.normal | apply ef_skip | (apply ef_condf; exact rfl; (assumption)) | (apply ef_call; exact rfl; ((repeat (apply XVs.cons; exact rfl)); exact XVs.nil); (with_reducible exact w4 _)))
   (apply ef_call; (· exact rfl); (· ((repeat (apply XVs.cons; exact rfl)); exact XVs.nil)); · exact w5 _ _ (frz_row (o := ⟨0, false, 1, (flZ n).map I64⟩) rfl rfl (by simp [hzl]) (ltL_I 0 _) rfl))
   repeat (first | (apply ef_mv; exact rfl; exact rfl) | (apply ef_ldp; exact rfl; exact rfl; (exact rfl); exact rfl; (exact rfl); (exact rd_2 rfl rfl)))
   (apply ef_call; (· exact rfl); (· ((repeat (apply XVs.cons; exact rfl)); exact XVs.nil)); · exact w6 _ _ (frz_row (o := ⟨0, false, 1, (flZ n).map I64⟩) rfl rfl (by simp [hzl]) (ltL_I 0 _) rfl))
   repeat (first | (apply ef_mv; exact rfl; exact rfl) | (apply ef_st; (iterate 6 exact rfl); (exact rfl); exact rfl) | apply ef_nil | apply seqQ.normal | apply ef_ret)
   show FinF _ (.tup [encN n, .arr 0 0 (arZ n).length 0, I64 (valU n.cs (flZ n) n.cs.length), I64 0]) [⟨0, decide ((arZ n).length = 0), 5, (arZ n).map encA⟩] _ _ _
   (apply fin_opN; (· exact rfl); (· exact ⟨1, 0, 0, 0, _, _, by exact rfl, by exact rfl, rfl, rfl, rd_2 rfl rfl⟩); (· exact rfl); (· exact rfl); (· exact rfl); (· exact rfl); (· exact rfl); (· simp); (· exact ltL_A 0 _); (· exact rfl); (· exact rfl); (· exact rfl))
theorem openJoined_c (k : Nat) (n : Nt) (hb : BdN n) (h0 : joE n = 0) (h : MHeap) :
  orA (k + 7) 22 [encN n] h = some (.tup [encN n, .arr h.length 0 (arZ n).length 0, I64 (minC n), I64 0], h ++ [⟨0, decide ((arZ n).length = 0), 5, (arZ n).map encA⟩]) := by
 obtain ⟨hn, ok, hj⟩ := joE_ok h0
 have hz := openJoined_z k n hb hn
 rw [if_pos ((jnB_iff ok).2 hj)] at hz
 have := callA (k := k + 6) (h := h) (args := [encN n]) (args' := [encN n]) (frzL_lt (by simp [ltL, MV.lt, ltL_Ln, ltL_Cr])) rfl hz (by simp [okV, ok1, MV.lt, ltL, ltL_Ln, ltL_Cr, MV.pure]) (by simp [okH, ltL_A, pureL_A])
 simpa [shV, sh1] using this
theorem fin_all {x : MX2} {A : Sl} {h : MHeap} {t u w id k g : Nat} {o : MObj} {es : List MV} {sz : Nat} {nl : Bool} {a b : Value} (hx : outX x = true) (hv : look A t = some (.arr id 0 k g)) (ha : look A u = some (.lit a)) (hb : look A w = some (.lit b)) (ho : h[id]? = some o) (hg : o.g = g) (hk : k = es.length) (hl : ltL 0 es = true) (he : o.es = es) (hz : o.sz = sz) (hn : o.nl = nl) :
  FinF [.tmp t, .tmp u, .tmp w] (.tup [.arr 0 0 k 0, .lit a, .lit b]) [⟨0, nl, sz, es⟩] x A h := by
 subst hz hn he hk
 refine ⟨hx, [.arr id 0 o.es.length g, .lit a, .lit b], [.arr 0 0 o.es.length 0, .lit a, .lit b], ⟨_, _, rfl, hv, _, _, rfl, ha, _, [], rfl, hb, rfl⟩, ?_, ?_, rfl⟩
 ·simp [impIds]
 ·simp [impIds, expL, ho, hg, hl, frz, MV.lt]
theorem mf_BestOf : MT.mf 9 = some mfW_l9 := mfW_q9
theorem BestOf_c (k : Nat) (n : Nt) (hb : BdN n) (h0 : joE n = 0) (h : MHeap) :
  orA (k + 8) 9 [encN n] h = some (.tup [.arr h.length 0 n.ls.length 0, I64 (minC n), I64 0], h ++ [⟨0, false, 1, (lgZ n 0).map I64⟩]) := by
 obtain ⟨hn, ok, hj⟩ := joE_ok h0
 have l1 := ok.l1
 have l8 := ok.l8
 have hs1 : (MV.sl (n.ls.map encLn)).slen = some n.ls.length := by simp [MV.slen]
 have w1 := fun h => openJoined_c k n hb h0 h
 have w2 := fun h v w hv hw => longest_c (k + 2) n.ls.length l1 l8 (arZ n) 10000 (by omega) (by omega) (arZ_ok ok) (arcsU_len16 ok _) [0] (fun v hv => by rw [List.mem_singleton] at hv; subst hv; omega) (by simp) h (v := v) (w := w) hv hw
 obtain ⟨hgC, hgL⟩ := lgZ_ok ok (s := 0) (by omega) (by omega)
 rw [hgC] at w2
 have hwl := hgL.len
 have hz : runZ MT (orA (k + 7)) (itA (k + 7)) 4000000 9 [encN n] [] = some (.tup [.arr 0 0 n.ls.length 0, I64 (minC n), I64 0], [⟨0, false, 1, (lgZ n 0).map I64⟩]) := by
  refine runZ_of mf_BestOf (by simp) ?_
  simp only [argsL]
  generalize minC n = mc at *
  repeat (first | apply ef_seq | (apply ef_mv; exact rfl; exact rfl) | (apply ef_bin; (iterate 3 exact rfl); (exact cmp_f rfl (by simp only [cmpP]; omega))) | (apply ef_len; exact rfl; exact rfl; (assumption)) | (apply ef_ldp; exact rfl; exact rfl; (exact rfl); exact rfl; (exact rfl); (first | exact rd_2 rfl rfl | exact rfl)) | (apply ef_fap; exact rfl; exact rfl) | (apply ef_ext; (iterate 3 exact rfl)) | (apply ef_box; (iterate 4 exact rfl)) | (apply ef_new; exact rfl) | (apply ef_nil0; exact rfl) | (apply ef_bsl; exact rfl; (repeat (apply XVs.cons; exact rfl)); exact XVs.nil; exact rfl) | (apply ef_st; (iterate 6 exact rfl); (exact rfl); exact rfl) | apply ef_nil | apply seqQ.normal | apply ef_skip | (apply ef_condf; exact rfl; (exact (rfl : false = false))) | (apply ef_call; exact rfl; ((repeat (apply XVs.cons; exact rfl)); exact XVs.nil); (with_reducible exact w1 _)))
  (apply ef_call; (· exact rfl); (· ((repeat (apply XVs.cons; exact rfl)); exact XVs.nil)); · exact w2 _ _ _ (frz_row (o := ⟨0, decide ((arZ n).length = 0), 5, (arZ n).map encA⟩) rfl rfl (by simp) (ltL_A 0 _) rfl) (frz_row (o := ⟨0, false, 1, [I64 0]⟩) rfl rfl rfl rfl rfl))
  repeat (first | apply ef_seq | (apply ef_mv; exact rfl; exact rfl) | (apply ef_ext; (iterate 3 exact rfl)) | apply ef_nil | apply seqQ.normal | apply ef_ret)
  (apply fin_all; (· exact rfl); (· exact rfl); (· exact rfl); (· exact rfl); (· exact rfl); (· exact rfl); (· simp [hwl]); (· exact ltL_I 0 _); (· exact rfl); (· exact rfl); (· exact rfl))
 have := callA (k := k + 7) (h := h) (args := [encN n]) (args' := [encN n]) (frzL_lt (by simp [ltL, MV.lt, ltL_Ln, ltL_Cr])) rfl hz (by simp [okV, ok1, MV.lt, MV.pure]) (by simp [okH, ltL_I, pureL_I])
 simpa [shV, sh1] using this
end Go.Proofs.YtfchdbghjeophaaDoor

/- Contracts of the document: whether a net is joined. -/
namespace Go.Proofs.YtfchdbghjeophaaDoor
open Go.RowKit
set_option linter.unusedVariables false
set_option linter.unusedSimpArgs false
structure JI (n : Nt) (R : List Int) : Prop where
 nd : R.Nodup
 rg : ∀ v ∈ R, 0 ≤ v ∧ v < (n.ls.length : Int)
 z : (0 : Int) ∈ R
 cl : ∀ S : Int → Bool, S 0 = true → (∀ x ∈ n.cs, S x.ln = S x.ti) → ∀ v ∈ R, S v = true
theorem nodup_le {m : Nat} {R : List Int} (nd : R.Nodup) (rg : ∀ v ∈ R, 0 ≤ v ∧ v < (m : Int)) : R.length ≤ m := by
 refine Classical.byContradiction fun h => ?_
 obtain ⟨i, j, hij, hj, e⟩ := pigeon m (fun i => R.getD i 0) (fun i hi => by
  have : i < R.length := by omega
  simp only [List.getD_eq_getElem?_getD, List.getElem?_eq_getElem this, Option.getD_some]
  exact rg _ (List.getElem_mem _))
 have h1 : i < R.length := by omega
 have h2 : j < R.length := by omega
 simp only [List.getD_eq_getElem?_getD, List.getElem?_eq_getElem h1, List.getElem?_eq_getElem h2, Option.getD_some] at e
 exact List.pairwise_iff_getElem.1 nd i j h1 h2 hij e
theorem JI.len {n : Nt} {R : List Int} (h : JI n R) : R.length ≤ n.ls.length := nodup_le h.nd h.rg
theorem JI.start {n : Nt} (h : 0 < n.ls.length) : JI n [0] := ⟨by simp, fun v hv => by rw [List.mem_singleton] at hv; subst hv; omega, by simp, fun S h0 _ v hv => by rw [List.mem_singleton] at hv; subst hv; exact h0⟩
theorem JI.add {n : Nt} (ok : OkN n) {R : List Int} (h : JI n R) {x : Cr} (hx : x ∈ n.cs) {a b : Int} (hab : (a = x.ln ∧ b = x.ti) ∨ (a = x.ti ∧ b = x.ln)) (ha : a ∈ R) (hb : ¬ b ∈ R) : JI n (R ++ [b]) := by
 have o := ok.rg x hx
 refine ⟨?_, fun v hv => ?_, by simp [h.z], fun S h0 hc v hv => ?_⟩
 ·rw [List.nodup_append]
  exact ⟨h.nd, by simp, fun u hu w hw => by rw [List.mem_singleton] at hw; subst hw; exact fun e => hb (e ▸ hu)⟩
 ·rcases List.mem_append.1 hv with hv | hv
  ·exact h.rg v hv
  ·rw [List.mem_singleton] at hv
   subst hv
   rcases hab with ⟨-, rfl⟩ | ⟨-, rfl⟩
   ·exact ⟨o.t0, o.t1⟩
   ·exact ⟨o.l0, o.l1⟩
 ·rcases List.mem_append.1 hv with hv | hv
  ·exact h.cl S h0 hc v hv
  ·rw [List.mem_singleton] at hv
   subst hv
   have h1 := h.cl S h0 hc a ha
   have h2 := hc x hx
   rcases hab with ⟨rfl, rfl⟩ | ⟨rfl, rfl⟩
   ·rw [← h2]; exact h1
   ·rw [h2]; exact h1
theorem JI.done {n : Nt} (ok : OkN n) {R : List Int} (h : JI n R) (hc : ∀ (j : Nat) (hj : j < n.cs.length), n.cs[j].ln ∈ R ↔ n.cs[j].ti ∈ R) : decide (R.length = n.ls.length) = jnB n := by
 have hl := h.len
 rw [Bool.eq_iff_iff, decide_eq_true_eq, jnB_iff ok]
 constructor
 ·intro he S h0 hcl v v0 v1
  refine h.cl S h0 hcl v (Classical.byContradiction fun hv => ?_)
  have := nodup_le (m := n.ls.length) (R := v :: R) (List.nodup_cons.2 ⟨hv, h.nd⟩) (fun u hu => by
   rcases List.mem_cons.1 hu with rfl | hu
   ·exact ⟨v0, v1⟩
   ·exact h.rg u hu)
  simp at this; omega
 ·intro hj
  have hall : ∀ v : Int, 0 ≤ v → v < (n.ls.length : Int) → v ∈ R := fun v v0 v1 => by
   have := hj (fun v => decide (v ∈ R)) (by simp [h.z]) (fun x hx => by
    obtain ⟨j, hj2, rfl⟩ := List.getElem_of_mem hx
    have := hc j hj2
    simp only [decide_eq_decide]
    exact this) v v0 v1
   simpa using this
  refine Classical.byContradiction fun hne => ?_
  have hlt : R.length < n.ls.length := by omega
  obtain ⟨i, j, hij, hj2, e⟩ := pigeon R.length (fun i => ((R.idxOf (i : Int) : Nat) : Int)) (fun i hi => by
   have := List.idxOf_lt_length_iff.2 (hall (i : Int) (by omega) (by omega))
   exact ⟨by omega, by omega⟩)
  have h1 := List.idxOf_lt_length_iff.2 (hall (i : Int) (by omega) (by omega))
  have h2 := List.idxOf_lt_length_iff.2 (hall (j : Int) (by omega) (by omega))
  have e1 := List.getElem_idxOf h1
  have e2 := List.getElem_idxOf h2
  have e3 : R.idxOf (i : Int) = R.idxOf (j : Int) := by omega
  have : (i : Int) = (j : Int) := by rw [← e1, ← e2]; simp only [e3]
  omega
end Go.Proofs.YtfchdbghjeophaaDoor

/- Contracts of the document: whether a net is joined (walk). -/
namespace Go.Proofs.YtfchdbghjeophaaDoor
open Go.RowKit
set_option linter.unusedVariables false
set_option linter.unusedSimpArgs false
abbrev ijH (n : Nt) (rs : List MV) (g : Nat) : MHeap := [⟨0, false, 2, [encN n]⟩, ⟨g, false, 1, rs⟩]
def clI (n : Nt) (R : List Int) (i : Nat) : Prop := ∀ (j : Nat) (hj : j < n.cs.length), j < i → (n.cs[j].ln ∈ R ↔ n.cs[j].ti ∈ R)
structure IJ (n : Nt) (m : Nat) (p : Nat × List Int × Nat × Bool) : Prop where
 i : p.1 ≤ n.cs.length
 ji : JI n p.2.1
 le : m ≤ p.2.1.length
 fl : p.2.2.2 = true → m < p.2.1.length
 cl : p.2.2.2 = false → clI n p.2.1 p.1
theorem IJ.skip {n : Nt} {m i g : Nat} {R : List Int} {f : Bool} (h : IJ n m (i, R, g, f)) (hlt : i < n.cs.length) (he : n.cs[i].ln ∈ R ↔ n.cs[i].ti ∈ R) : IJ n m (i + 1, R, g, f) :=
 ⟨hlt, h.ji, h.le, h.fl, fun hf j hj hji => by
  by_cases e : j = i
  ·subst e; exact he
  ·exact h.cl hf j hj (by show j < i; omega)⟩
theorem IJ.add {n : Nt} (ok : OkN n) {m i g : Nat} {R : List Int} {f : Bool} (h : IJ n m (i, R, g, f)) (hlt : i < n.cs.length) {a b : Int} (hab : (a = n.cs[i].ln ∧ b = n.cs[i].ti) ∨ (a = n.cs[i].ti ∧ b = n.cs[i].ln)) (ha : a ∈ R) (hb : ¬ b ∈ R) (g' : Nat) : IJ n m (i + 1, R ++ [b], g', true) := by
 have h1 := h.ji.add ok (List.getElem_mem hlt) hab ha hb
 have h2 := h.le
 exact ⟨hlt, h1, by simp at h2 ⊢; omega, fun _ => by simp at h2 ⊢; omega, fun hf => by cases hf⟩
theorem mf_IsJoined : MT.mf 20 = some ⟨61, [(.tmp 2)], (.seq (.reg [gO 1 (.box 2 (.s 0)), gO 2 (.mv cF)]) (.seq (.reg [gO 8 (.bsl (.lit (.int .i64 0)) 1 1 [(0, (cI 0))]), gO 3 (.mv (.s 8))]) (.seq (.seq (.reg [gO 4 (.mv cT)]) (.block 0 (.loop [4, 1, 3] (.seq (.seq (.reg [gO 9 (.mv (.s 4))]) (.cond (.s 9) .skip (.exit 0))) (.block 1 (.seq (.reg [gO 4 (.mv cF)]) (.seq (.reg [gO 5 (.mv (cI 0))]) (.block 2 (.loop [5, 1, 3, 4] (.seq (.seq (.reg [gO 10 (.mv (.s 5)), gO 11 (.fa 1 (.s 1)), gO 12 (.ld none (.s 11)), gO 13 (.len (.s 12)), gO 14 (.bin .lss (.s 10) (.s 13))]) (.cond (.s 14) .skip (.exit 2))) (.seq (.block 3 (.seq (.reg [gO 17 (.fa 1 (.s 1)), gO 18 (.ld none (.s 17)), gO 19 (.mv (.s 5)), gO 20 (.ia 6 (.s 18) (.s 19)), gO 21 (.fa 0 (.s 20)), gO 22 (.ld none (.s 21)), gO 23 (.fa 1 (.s 1)), gO 24 (.ld none (.s 23)), gO 25 (.mv (.s 5)), gO 26 (.ia 6 (.s 24) (.s 25)), gO 27 (.fa 1 (.s 26)), gO 28 (.ld none (.s 27)), gO 6 (.mv (.s 22)), gO 7 (.mv (.s 28))]) (.seq (.seq (.reg [gO 29 (.mv (.s 3)), gO 30 (.mv (.s 6)), gO 31 (.call 39 [.s 29, .s 30]), gO 32 (.mv (.s 31)), ⟨some (32, true), some 33, .mv (.s 3)⟩, ⟨some (32, true), some 34, .mv (.s 7)⟩, ⟨some (32, true), some 35, .call 39 [.s 33, .s 34]⟩, ⟨some (32, true), some 36, .un .not (.s 35)⟩, gO 37 (.pick (.s 32) (.s 36) cF)]) (.cond (.s 37) (.reg [gO 38 (.mv (.s 3)), gO 39 (.mv (.s 7)), gO 40 (.bsl (.lit (.int .i64 0)) 1 1 [(0, (.s 39))]), gO 41 (.app 1 (.s 38) (.s 40)), gO 3 (.mv (.s 41)), gO 4 (.mv cT)]) .skip)) (.seq (.reg [gO 42 (.mv (.s 3)), gO 43 (.mv (.s 7)), gO 44 (.call 39 [.s 42, .s 43]), gO 45 (.mv (.s 44)), ⟨some (45, true), some 46, .mv (.s 3)⟩, ⟨some (45, true), some 47, .mv (.s 6)⟩, ⟨some (45, true), some 48, .call 39 [.s 46, .s 47]⟩, ⟨some (45, true), some 49, .un .not (.s 48)⟩, gO 50 (.pick (.s 45) (.s 49) cF)]) (.cond (.s 50) (.reg [gO 51 (.mv (.s 3)), gO 52 (.mv (.s 6)), gO 53 (.bsl (.lit (.int .i64 0)) 1 1 [(0, (.s 52))]), gO 54 (.app 1 (.s 51) (.s 53)), gO 3 (.mv (.s 54)), gO 4 (.mv cT)]) .skip))))) (.reg [gO 15 (.mv (.s 5)), gO 16 (.bin .add (.s 15) (cI 1)), gO 5 (.mv (.s 16))])))))))))))) (.seq (.reg [gO 55 (.mv (.s 3)), gO 56 (.len (.s 55)), gO 57 (.fa 0 (.s 1)), gO 58 (.ld none (.s 57)), gO 59 (.len (.s 58)), gO 60 (.bin .eql (.s 56) (.s 59)), gO 2 (.mv (.s 60))]) .ret))))⟩ := by kernel_rfl
set_option maxHeartbeats 4000000 in
theorem IsJoined_z (k : Nat) (n : Nt) (ok : OkN n) : runZ MT (orA (k + 1)) (itA (k + 1)) 4000000 20 [encN n] [] = some (Bo (jnB n), []) := by
 have l1 := ok.l1
 have l8 := ok.l8
 have c16 := ok.c16
 have hs1 : (MV.sl (n.ls.map encLn)).slen = some n.ls.length := by simp [MV.slen]
 have hs2 : (MV.sl (n.cs.map encCr)).slen = some n.cs.length := by simp [MV.slen]
 refine runZ_of mf_IsJoined (by simp) ?_
 simp only [argsL]
 repeat (first | apply ef_seq | (apply ef_mv; exact rfl; exact rfl) | (apply ef_box; (iterate 4 exact rfl)) | (apply ef_bsl; exact rfl; (repeat (apply XVs.cons; exact rfl)); exact XVs.nil; exact rfl) | apply ef_nil | apply seqQ.normal | apply ef_block)
 refine ef_loopf (α := (List Int × Nat × List MV) × Nat × Bool) (fun p => (JI n p.1.1 ∧ (p.2.2 = false → clI n p.1.1 n.cs.length)) ∧ p.1.2.1 = p.1.1.length ∧ p.1.2.2 = p.1.1.map I64) (fun p => [(4, Bo p.2.2), (3, .arr 1 0 p.1.2.1 p.2.1)]) [(1, .ptr 0 0 0 0)] (fun p => ijH n p.1.2.2 p.2.1) (fun p => 2 * (n.ls.length - p.1.2.1) + (if p.2.2 then 1 else 0)) (([0], 1, [I64 0]), 0, true) [4, 3] (fun _ => rfl) (by ((repeat (refine Hold.cons (by exact rfl) ?_)); exact Hold.nil)) (by ((repeat (refine Hold.cons (by exact rfl) ?_)); exact Hold.nil)) rfl rfl ⟨⟨.start l1, fun h => by cases h⟩, rfl, rfl⟩ (by show 2 * (n.ls.length - 1) + 1 < 4000000; omega) ?_
 rintro ⟨⟨R, K, rs⟩, g, f⟩ ⟨⟨hji, hcl⟩, hK, hrs⟩
 try simp only at hji hcl hK hrs ⊢
 have hle := hji.len
 have HJ := Bx.mk hji
 have HC := Bx.mk hcl
 clear hji hcl
 cases f
 ·repeat (first | apply ef_seq | (apply ef_mv; exact rfl; exact rfl) | (apply ef_bin; (iterate 3 exact rfl); (exact rfl)) | (apply ef_len; exact rfl; exact rfl; (first | assumption | exact rfl)) | (apply ef_ldp; exact rfl; exact rfl; (exact rfl); exact rfl; (exact rfl); (exact rfl)) | (apply ef_fap; exact rfl; exact rfl) | apply ef_nil | apply seqQ.normal | apply loopQ.exit | apply ef_ret | apply ef_exit | apply seqQ.exit | apply blockQ.here | (apply ef_condf; exact rfl; (exact (rfl : false = false))))
  (refine fin1 rfl (by exact rfl) rfl ?_)
  rw [← HJ.out.done ok (fun j hj => HC.out rfl j hj hj)]
  rw [hK]; congr 2; rw [Bool.eq_iff_iff]; simp; omega
 ·repeat (first | apply ef_seq | (apply ef_mv; exact rfl; exact rfl) | apply ef_nil | apply seqQ.normal | apply ef_block | apply ef_skip | (apply ef_condt; exact rfl; (exact (rfl : true = true))))
  refine ef_loopf (α := Nat × (List Int × Nat × List MV) × Nat × Bool) (fun p => IJ n K (p.1, p.2.1.1, p.2.2) ∧ p.2.1.2.1 = p.2.1.1.length ∧ p.2.1.2.2 = p.2.1.1.map I64) (fun p => [(5, I64 (p.1 : Int)), (4, Bo p.2.2.2), (3, .arr 1 0 p.2.1.2.1 p.2.2.1)]) [(1, .ptr 0 0 0 0)] (fun p => ijH n p.2.1.2.2 p.2.2.1) (fun p => n.cs.length - p.1) (0, (R, K, rs), g, false) [5, 4, 3] (fun _ => rfl) (by ((repeat (refine Hold.cons (by exact rfl) ?_)); exact Hold.nil)) (by ((repeat (refine Hold.cons (by exact rfl) ?_)); exact Hold.nil)) rfl rfl ⟨⟨by simp, HJ.out, by rw [hK]; exact Nat.le_refl _, (fun h => by cases h), (fun _ j hj hj0 => by cases hj0)⟩, hK, hrs⟩ (by show n.cs.length - 0 < 4000000; omega) ?_
  rintro ⟨i, ⟨Q, L, qs⟩, q, f⟩ ⟨hI, hL, hqs⟩
  try simp only at hI hL hqs
  have hQl := hI.ji.len
  have hi := hI.i
  have hQ0 := hI.le
  have hf1 := hI.fl
  have HI := Bx.mk hI
  clear hI
  try simp only at hQl hi hQ0 hf1 ⊢
  have hlr : ∀ j, ltL j qs = true := fun j => by rw [hqs]; exact ltL_I j _
  have hql : qs.length = L := by rw [hqs, hL]; simp
  by_cases hlt : i < n.cs.length
  ·have e1 := at_map encCr n.cs i hlt
   have HA := Bx.mk (fun {a b : Int} (hab : (a = n.cs[i].ln ∧ b = n.cs[i].ti) ∨ (a = n.cs[i].ti ∧ b = n.cs[i].ln)) (ha : a ∈ Q) (hb : ¬ b ∈ Q) (g' : Nat) => HI.out.add ok hlt hab ha hb g')
   have HS := Bx.mk (fun (he : n.cs[i].ln ∈ Q ↔ n.cs[i].ti ∈ Q) => HI.out.skip hlt he)
   generalize n.cs[i] = x at e1 HA HS
   have wq := fun (z : Int) (t : Bool) (ht : Q.any (· == z) = t) h v hv => bHas_c k Q z (by omega) h (v := v) hv ht
   have hany : ∀ z : Int, z ∈ Q → Q.any (· == z) = true := fun z hz => by simp [hz]
   have hnan : ∀ z : Int, ¬ z ∈ Q → Q.any (· == z) = false := fun z hz => by
    cases h : Q.any (· == z)
    ·rfl
    ·exact absurd (by simpa using h) hz
   by_cases ha : x.ln ∈ Q
   ·have wa := wq _ _ (hany _ ha)
    by_cases hb : x.ti ∈ Q
    ·have wb := wq _ _ (hany _ hb)
     repeat (first | apply ef_seq | (apply ef_mv; exact rfl; exact rfl) | (apply ef_bin; (iterate 3 exact rfl); (exact cmp_t rfl (by first | exact rfl | (simp only [cmpP]; omega)))) | (apply ef_len; exact rfl; exact rfl; (assumption)) | (apply ef_ldr; exact rfl; exact rfl; (exact rfl)) | (apply ef_ldp; exact rfl; exact rfl; (exact rfl); exact rfl; (exact rfl); (exact rfl)) | (apply ef_ias; (iterate 3 exact rfl); (omega); assumption; exact rfl) | (apply ef_fap; exact rfl; exact rfl) | (apply ef_far; exact rfl; exact rfl) | apply ef_nil | apply seqQ.normal | apply ef_block | apply ef_skip | (apply ef_condt; exact rfl; (exact (rfl : true = true))))
     (apply ef_call; (· exact rfl); (· ((repeat (apply XVs.cons; exact rfl)); exact XVs.nil)); · exact wa _ _ (frz_row (o := ⟨q, false, 1, qs⟩) rfl rfl (by simp [hL]) (ltL_I 0 _) hqs))
     repeat (first | (apply ef_mv; exact rfl; exact rfl) | (apply ef_gy; exact rfl; (exact (rfl : true = true))))
     (apply ef_call; (· exact rfl); (· ((repeat (apply XVs.cons; exact rfl)); exact XVs.nil)); · exact wb _ _ (frz_row (o := ⟨q, false, 1, qs⟩) rfl rfl (by simp [hL]) (ltL_I 0 _) hqs))
     repeat (first | apply ef_seq | (apply ef_mv; exact rfl; exact rfl) | (apply ef_gy; exact rfl; (exact (rfl : true = true))) | (apply ef_pick; (iterate 3 exact rfl)) | (apply ef_notT; exact rfl; exact rfl) | apply ef_nil | apply seqQ.normal | apply ef_skip | (apply ef_condf; exact rfl; (exact (rfl : false = false))))
     (apply ef_call; (· exact rfl); (· ((repeat (apply XVs.cons; exact rfl)); exact XVs.nil)); · exact wb _ _ (frz_row (o := ⟨q, false, 1, qs⟩) rfl rfl (by simp [hL]) (ltL_I 0 _) hqs))
     repeat (first | (apply ef_mv; exact rfl; exact rfl) | (apply ef_gy; exact rfl; (exact (rfl : true = true))))
     (apply ef_call; (· exact rfl); (· ((repeat (apply XVs.cons; exact rfl)); exact XVs.nil)); · exact wa _ _ (frz_row (o := ⟨q, false, 1, qs⟩) rfl rfl (by simp [hL]) (ltL_I 0 _) hqs))
     repeat (first | (apply ef_mv; exact rfl; exact rfl) | (apply ef_bin; (iterate 3 exact rfl); (((with_reducible refine bin_add (wrap_of ?_ ?_)) <;> omega))) | (apply ef_gy; exact rfl; (exact (rfl : true = true))) | (apply ef_pick; (iterate 3 exact rfl)) | (apply ef_notT; exact rfl; exact rfl) | apply ef_nil | apply seqQ.normal | apply blockQ.normal | apply ef_skip | (apply ef_condf; exact rfl; (exact (rfl : false = false))))
     (refine loopQ.normal _ _ ⟨(i + 1, (Q, L, qs), q, f), ⟨HS.out ⟨fun _ => hb, fun _ => ha⟩, hL, hqs⟩, (by first | (simp only; omega) | omega), ⟨by ((repeat (refine Hold.cons (by exact rfl) ?_)); exact Hold.nil), by ((repeat (refine Hold.cons (by exact rfl) ?_)); exact Hold.nil)⟩, .inr ⟨by ((repeat (refine hdl_cons rfl (by first | rfl | (simp [MV.lt, ltL, ltL_Ln, ltL_Cr, ltL_I, hlr])) ?_)); exact hdl_nil), by first | rfl | (simp [hltL, ltL, MV.lt, ltL, ltL_Ln, ltL_Cr, ltL_I, hlr])⟩, by first | exact rfl | (simp only [List.map_append, List.map_set]; exact rfl)⟩)
    ·have wb := wq _ _ (hnan _ hb)
     have wc := fun (z : Int) (t : Bool) (ht : (Q ++ [x.ti]).any (· == z) = t) h v hv => bHas_c k (Q ++ [x.ti]) z (by simp; omega) h (v := v) hv ht
     have wca := wc x.ln true (by simp [ha])
     have wcb := wc x.ti true (by simp)
     repeat (first | apply ef_seq | (apply ef_mv; exact rfl; exact rfl) | (apply ef_bin; (iterate 3 exact rfl); (exact cmp_t rfl (by first | exact rfl | (simp only [cmpP]; omega)))) | (apply ef_len; exact rfl; exact rfl; (assumption)) | (apply ef_ldr; exact rfl; exact rfl; (exact rfl)) | (apply ef_ldp; exact rfl; exact rfl; (exact rfl); exact rfl; (exact rfl); (exact rfl)) | (apply ef_ias; (iterate 3 exact rfl); (omega); assumption; exact rfl) | (apply ef_fap; exact rfl; exact rfl) | (apply ef_far; exact rfl; exact rfl) | apply ef_nil | apply seqQ.normal | apply ef_block | apply ef_skip | (apply ef_condt; exact rfl; (exact (rfl : true = true))))
     (apply ef_call; (· exact rfl); (· ((repeat (apply XVs.cons; exact rfl)); exact XVs.nil)); · exact wa _ _ (frz_row (o := ⟨q, false, 1, qs⟩) rfl rfl (by simp [hL]) (ltL_I 0 _) hqs))
     repeat (first | (apply ef_mv; exact rfl; exact rfl) | (apply ef_gy; exact rfl; (exact (rfl : true = true))))
     (apply ef_call; (· exact rfl); (· ((repeat (apply XVs.cons; exact rfl)); exact XVs.nil)); · exact wb _ _ (frz_row (o := ⟨q, false, 1, qs⟩) rfl rfl (by simp [hL]) (ltL_I 0 _) hqs))
     repeat (first | (apply ef_mv; exact rfl; exact rfl) | (apply ef_gy; exact rfl; (exact (rfl : true = true))) | (apply ef_pick; (iterate 3 exact rfl)) | (apply ef_notF; exact rfl; exact rfl) | (apply ef_bsl; exact rfl; (repeat (apply XVs.cons; exact rfl)); exact XVs.nil; exact rfl) | apply ef_nil | apply seqQ.normal | (apply ef_condt; exact rfl; (exact (rfl : true = true))))
     (apply ef_app; (· exact rfl); (· exact rfl); (· exact rfl); (· exact rfl); (· exact rfl); (· exact rfl); (· (simp [hql])); (· exact rfl); (· (simp [hql]; omega)); (· (exact rfl)); (· exact rfl))
     repeat (first | apply ef_seq | (apply ef_mv; exact rfl; exact rfl) | apply ef_nil | apply seqQ.normal)
     (apply ef_call; (· exact rfl); (· ((repeat (apply XVs.cons; exact rfl)); exact XVs.nil)); · exact wcb _ _ (frz_row (o := ⟨q + 1, false, 1, qs ++ [I64 x.ti]⟩) rfl rfl (by simp [hL]) (ltL_I 0 _) (by simp [hqs])))
     repeat (first | (apply ef_mv; exact rfl; exact rfl) | (apply ef_gy; exact rfl; (exact (rfl : true = true))))
     (apply ef_call; (· exact rfl); (· ((repeat (apply XVs.cons; exact rfl)); exact XVs.nil)); · exact wca _ _ (frz_row (o := ⟨q + 1, false, 1, qs ++ [I64 x.ti]⟩) rfl rfl (by simp [hL]) (ltL_I 0 _) (by simp [hqs])))
     repeat (first | (apply ef_mv; exact rfl; exact rfl) | (apply ef_bin; (iterate 3 exact rfl); (((with_reducible refine bin_add (wrap_of ?_ ?_)) <;> omega))) | (apply ef_gy; exact rfl; (exact (rfl : true = true))) | (apply ef_pick; (iterate 3 exact rfl)) | (apply ef_notT; exact rfl; exact rfl) | apply ef_nil | apply seqQ.normal | apply blockQ.normal | apply ef_skip | (apply ef_condf; exact rfl; (exact (rfl : false = false))))
     (refine loopQ.normal _ _ ⟨(i + 1, (Q ++ [x.ti], L + 1, qs ++ [I64 x.ti]), q + 1, true), ⟨HA.out (.inl ⟨rfl, rfl⟩) ha hb _, (by simp [hL]), (by simp [hqs])⟩, (by first | (simp only; omega) | omega), ⟨by ((repeat (refine Hold.cons (by exact rfl) ?_)); exact Hold.nil), by ((repeat (refine Hold.cons (by exact rfl) ?_)); exact Hold.nil)⟩, .inr ⟨by ((repeat (refine hdl_cons rfl (by first | rfl | (simp [MV.lt, ltL, ltL_Ln, ltL_Cr, ltL_I, hlr, ltL_app2, splice, MV.cells])) ?_)); exact hdl_nil), by (simp [hltL, ltL, MV.lt, ltL, ltL_Ln, ltL_Cr, ltL_I, hlr, ltL_app2, splice, MV.cells])⟩, by exact rfl⟩)
   ·have wa := wq _ _ (hnan _ ha)
    by_cases hb : x.ti ∈ Q
    ·have wb := wq _ _ (hany _ hb)
     repeat (first | apply ef_seq | (apply ef_mv; exact rfl; exact rfl) | (apply ef_bin; (iterate 3 exact rfl); (exact cmp_t rfl (by first | exact rfl | (simp only [cmpP]; omega)))) | (apply ef_len; exact rfl; exact rfl; (assumption)) | (apply ef_ldr; exact rfl; exact rfl; (exact rfl)) | (apply ef_ldp; exact rfl; exact rfl; (exact rfl); exact rfl; (exact rfl); (exact rfl)) | (apply ef_ias; (iterate 3 exact rfl); (omega); assumption; exact rfl) | (apply ef_fap; exact rfl; exact rfl) | (apply ef_far; exact rfl; exact rfl) | apply ef_nil | apply seqQ.normal | apply ef_block | apply ef_skip | (apply ef_condt; exact rfl; (exact (rfl : true = true))))
     (apply ef_call; (· exact rfl); (· ((repeat (apply XVs.cons; exact rfl)); exact XVs.nil)); · exact wa _ _ (frz_row (o := ⟨q, false, 1, qs⟩) rfl rfl (by simp [hL]) (ltL_I 0 _) hqs))
     repeat (first | apply ef_seq | (apply ef_mv; exact rfl; exact rfl) | (apply ef_gn; exact rfl; (exact (rfl : false = false)); exact rfl) | (apply ef_pick; (iterate 3 exact rfl)) | apply ef_nil | apply seqQ.normal | apply ef_skip | (apply ef_condf; exact rfl; (exact (rfl : false = false))))
     (apply ef_call; (· exact rfl); (· ((repeat (apply XVs.cons; exact rfl)); exact XVs.nil)); · exact wb _ _ (frz_row (o := ⟨q, false, 1, qs⟩) rfl rfl (by simp [hL]) (ltL_I 0 _) hqs))
     repeat (first | (apply ef_mv; exact rfl; exact rfl) | (apply ef_gy; exact rfl; (exact (rfl : true = true))))
     (apply ef_call; (· exact rfl); (· ((repeat (apply XVs.cons; exact rfl)); exact XVs.nil)); · exact wa _ _ (frz_row (o := ⟨q, false, 1, qs⟩) rfl rfl (by simp [hL]) (ltL_I 0 _) hqs))
     repeat (first | (apply ef_mv; exact rfl; exact rfl) | (apply ef_gy; exact rfl; (exact (rfl : true = true))) | (apply ef_pick; (iterate 3 exact rfl)) | (apply ef_notF; exact rfl; exact rfl) | (apply ef_bsl; exact rfl; (repeat (apply XVs.cons; exact rfl)); exact XVs.nil; exact rfl) | apply ef_nil | apply seqQ.normal | (apply ef_condt; exact rfl; (exact (rfl : true = true))))
     (apply ef_app; (· exact rfl); (· exact rfl); (· exact rfl); (· exact rfl); (· exact rfl); (· exact rfl); (· (simp [hql])); (· exact rfl); (· (simp [hql]; omega)); (· (exact rfl)); (· exact rfl))
     repeat (first | (apply ef_mv; exact rfl; exact rfl) | (apply ef_bin; (iterate 3 exact rfl); (((with_reducible refine bin_add (wrap_of ?_ ?_)) <;> omega))) | apply ef_nil | apply seqQ.normal | apply blockQ.normal)
     (refine loopQ.normal _ _ ⟨(i + 1, (Q ++ [x.ln], L + 1, qs ++ [I64 x.ln]), q + 1, true), ⟨HA.out (.inr ⟨rfl, rfl⟩) hb ha _, (by simp [hL]), (by simp [hqs])⟩, (by first | (simp only; omega) | omega), ⟨by ((repeat (refine Hold.cons (by exact rfl) ?_)); exact Hold.nil), by ((repeat (refine Hold.cons (by exact rfl) ?_)); exact Hold.nil)⟩, .inr ⟨by ((repeat (refine hdl_cons rfl (by first | rfl | (simp [MV.lt, ltL, ltL_Ln, ltL_Cr, ltL_I, hlr, ltL_app2, splice, MV.cells])) ?_)); exact hdl_nil), by (simp [hltL, ltL, MV.lt, ltL, ltL_Ln, ltL_Cr, ltL_I, hlr, ltL_app2, splice, MV.cells])⟩, by exact rfl⟩)
    ·have wb := wq _ _ (hnan _ hb)
     repeat (first | apply ef_seq | (apply ef_mv; exact rfl; exact rfl) | (apply ef_bin; (iterate 3 exact rfl); (exact cmp_t rfl (by first | exact rfl | (simp only [cmpP]; omega)))) | (apply ef_len; exact rfl; exact rfl; (assumption)) | (apply ef_ldr; exact rfl; exact rfl; (exact rfl)) | (apply ef_ldp; exact rfl; exact rfl; (exact rfl); exact rfl; (exact rfl); (exact rfl)) | (apply ef_ias; (iterate 3 exact rfl); (omega); assumption; exact rfl) | (apply ef_fap; exact rfl; exact rfl) | (apply ef_far; exact rfl; exact rfl) | apply ef_nil | apply seqQ.normal | apply ef_block | apply ef_skip | (apply ef_condt; exact rfl; (exact (rfl : true = true))))
     (apply ef_call; (· exact rfl); (· ((repeat (apply XVs.cons; exact rfl)); exact XVs.nil)); · exact wa _ _ (frz_row (o := ⟨q, false, 1, qs⟩) rfl rfl (by simp [hL]) (ltL_I 0 _) hqs))
     repeat (first | apply ef_seq | (apply ef_mv; exact rfl; exact rfl) | (apply ef_gn; exact rfl; (exact (rfl : false = false)); exact rfl) | (apply ef_pick; (iterate 3 exact rfl)) | apply ef_nil | apply seqQ.normal | apply ef_skip | (apply ef_condf; exact rfl; (exact (rfl : false = false))))
     (apply ef_call; (· exact rfl); (· ((repeat (apply XVs.cons; exact rfl)); exact XVs.nil)); · exact wb _ _ (frz_row (o := ⟨q, false, 1, qs⟩) rfl rfl (by simp [hL]) (ltL_I 0 _) hqs))
     repeat (first | (apply ef_mv; exact rfl; exact rfl) | (apply ef_bin; (iterate 3 exact rfl); (((with_reducible refine bin_add (wrap_of ?_ ?_)) <;> omega))) | (apply ef_gn; exact rfl; (exact (rfl : false = false)); exact rfl) | (apply ef_pick; (iterate 3 exact rfl)) | apply ef_nil | apply seqQ.normal | apply blockQ.normal | apply ef_skip | (apply ef_condf; exact rfl; (exact (rfl : false = false))))
     (refine loopQ.normal _ _ ⟨(i + 1, (Q, L, qs), q, f), ⟨HS.out ⟨fun h => absurd h ha, fun h => absurd h hb⟩, hL, hqs⟩, (by first | (simp only; omega) | omega), ⟨by ((repeat (refine Hold.cons (by exact rfl) ?_)); exact Hold.nil), by ((repeat (refine Hold.cons (by exact rfl) ?_)); exact Hold.nil)⟩, .inr ⟨by ((repeat (refine hdl_cons rfl (by first | rfl | (simp [MV.lt, ltL, ltL_Ln, ltL_Cr, ltL_I, hlr])) ?_)); exact hdl_nil), by first | rfl | (simp [hltL, ltL, MV.lt, ltL, ltL_Ln, ltL_Cr, ltL_I, hlr])⟩, by first | exact rfl | (simp only [List.map_append, List.map_set]; exact rfl)⟩)
  ·obtain rfl : i = n.cs.length := by omega
   repeat (first | apply ef_seq | (apply ef_mv; exact rfl; exact rfl) | (apply ef_bin; (iterate 3 exact rfl); (exact cmp_f rfl (by simp only [cmpP]; omega))) | (apply ef_len; exact rfl; exact rfl; (assumption)) | (apply ef_ldp; exact rfl; exact rfl; (exact rfl); exact rfl; (exact rfl); (exact rfl)) | (apply ef_fap; exact rfl; exact rfl) | apply ef_nil | apply seqQ.normal | apply loopQ.exit | apply ef_exit | apply seqQ.exit | apply blockQ.normal | apply blockQ.here | (apply ef_condf; exact rfl; (exact (rfl : false = false))))
   (refine loopQ.normal _ _ ⟨((Q, L, qs), q, f), ⟨⟨HI.out.ji, HI.out.cl⟩, hL, hqs⟩, (by cases f <;> simp at hf1 ⊢ <;> omega), ⟨by ((repeat (refine Hold.cons (by exact rfl) ?_)); exact Hold.nil), by ((repeat (refine Hold.cons (by exact rfl) ?_)); exact Hold.nil)⟩, .inr ⟨by ((repeat (refine hdl_cons rfl (by first | rfl | (simp [MV.lt, ltL, ltL_Ln, ltL_Cr, ltL_I, hlr])) ?_)); exact hdl_nil), by first | rfl | (simp [hltL, ltL, MV.lt, ltL, ltL_Ln, ltL_Cr, ltL_I, hlr])⟩, by first | exact rfl | (simp only [List.map_append, List.map_set]; exact rfl)⟩)
theorem IsJoined_c (k : Nat) (n : Nt) (ok : OkN n) (h : MHeap) : orA (k + 2) 20 [encN n] h = some (Bo (jnB n), h) :=
 callL (args' := [encN n]) (frzL_lt (by simp [ltL, MV.lt, ltL_Ln, ltL_Cr])) rfl (IsJoined_z k n ok)
theorem mf_JoinedErr : MT.mf 6 = some ⟨12, [(.tmp 2)], (.seq (.reg [gO 1 (.box 2 (.s 0)), gO 2 (.mv (cI 0))]) (.seq (.seq (.reg [gO 4 (.ld (some 2) (.s 1)), gO 5 (.call 19 [.s 4]), gO 3 (.mv (.s 5))]) (.seq (.reg [gO 6 (.mv (.s 3)), gO 7 (.bin .neq (.s 6) (cI 0))]) (.cond (.s 7) (.seq (.reg [gO 8 (.mv (.s 3)), gO 2 (.mv (.s 8))]) .ret) .skip))) (.seq (.seq (.reg [gO 9 (.ld (some 2) (.s 1)), gO 10 (.call 20 [.s 9]), gO 11 (.un .not (.s 10))]) (.cond (.s 11) (.seq (.reg [gO 2 (.mv (cI 21))]) .ret) .skip)) (.seq (.reg [gO 2 (.mv (cI 0))]) .ret))))⟩ := by kernel_rfl
theorem JoinedErr_c (k : Nat) (n : Nt) (hb : BdN n) (h : MHeap) : orA (k + 5) 6 [encN n] h = some (I64 (joE n), h) := by
 refine callL (args' := [encN n]) (frzL_lt (by simp [ltL, MV.lt, ltL_Ln, ltL_Cr])) rfl (runZ_of mf_JoinedErr (by simp) ?_)
 simp only [argsL]
 have w1 := fun h => NetErr_c k n hb h
 by_cases h0 : (netF n).2 = 0
 ·have w2 := fun h => IsJoined_c (k + 2) n (net_ok h0) h
  have HJ := Bx.mk (show joE n = (if jnB n then 0 else 21) by unfold joE; rw [if_pos h0])
  rw [h0] at w1
  cases hj : jnB n
  all_goals rw [hj] at w2 HJ
  all_goals repeat (first | apply ef_seq | (apply ef_mv; exact rfl; exact rfl) | (apply ef_bin; (iterate 3 exact rfl); (exact cmp_f rfl (by simp only [cmpP]; omega))) | (apply ef_ldp; exact rfl; exact rfl; (exact rfl); exact rfl; (exact rfl); (exact rd_2 rfl rfl)) | (apply ef_notT; exact rfl; exact rfl) | (apply ef_notF; exact rfl; exact rfl) | (apply ef_box; (iterate 4 exact rfl)) | apply ef_nil | apply seqQ.normal | apply ef_ret | apply seqQ.ret | apply ef_skip | (apply ef_condt; exact rfl; (exact (rfl : true = true))) | (apply ef_condf; exact rfl; (exact (rfl : false = false))) | (apply ef_call; exact rfl; ((repeat (apply XVs.cons; exact rfl)); exact XVs.nil); (with_reducible first | exact w1 _ | exact w2 _)))
  all_goals (refine fin1 rfl (by exact rfl) rfl ?_)
  all_goals (rw [HJ.out]; rfl)
 ·have HJ := Bx.mk (show joE n = (netF n).2 by unfold joE; rw [if_neg h0])
  generalize (netF n).2 = e at *
  repeat (first | apply ef_seq | (apply ef_mv; exact rfl; exact rfl) | (apply ef_bin; (iterate 3 exact rfl); (exact cmp_t rfl (by first | exact rfl | (simp only [cmpP]; omega)))) | (apply ef_ldp; exact rfl; exact rfl; (exact rfl); exact rfl; (exact rfl); (exact rd_2 rfl rfl)) | (apply ef_box; (iterate 4 exact rfl)) | apply ef_nil | apply seqQ.normal | apply ef_ret | apply seqQ.ret | (apply ef_condt; exact rfl; (exact (rfl : true = true))) | (apply ef_call; exact rfl; ((repeat (apply XVs.cons; exact rfl)); exact XVs.nil); (with_reducible exact w1 _)))
  (refine fin1 rfl (by exact rfl) rfl ?_)
  rw [HJ.out]
end Go.Proofs.YtfchdbghjeophaaDoor

/- Contracts of the document: the error of an anomaly. -/
namespace Go.Proofs.YtfchdbghjeophaaDoor
open Go.RowKit
set_option linter.unusedVariables false
set_option linter.unusedSimpArgs false
theorem mf_anErr : MT.mf 7 = some ⟨24, [(.tmp 4)], (.seq (.reg [gO 2 (.box 2 (.s 0)), gO 4 (.mv (cI 0))]) (.seq (.seq (.reg [gO 6 (.mv (.s 1)), gO 7 (.len (.s 6)), gO 8 (.fa 1 (.s 2)), gO 9 (.ld none (.s 8)), gO 10 (.len (.s 9)), gO 11 (.bin .neq (.s 7) (.s 10))]) (.cond (.s 11) (.seq (.reg [gO 4 (.mv (cI 10))]) .ret) .skip)) (.seq (.seq (.reg [gO 5 (.mv (cI 0))]) (.block 0 (.loop [5, 1] (.seq (.seq (.reg [gO 12 (.mv (.s 5)), gO 13 (.mv (.s 1)), gO 14 (.len (.s 13)), gO 15 (.bin .lss (.s 12) (.s 14))]) (.cond (.s 15) .skip (.exit 0))) (.seq (.block 1 (.seq (.reg [gO 18 (.mv (.s 1)), gO 19 (.mv (.s 5)), gO 20 (.ia 1 (.s 18) (.s 19)), gO 21 (.ld none (.s 20)), gO 22 (.call 21 [.s 21]), gO 23 (.un .not (.s 22))]) (.cond (.s 23) (.seq (.reg [gO 4 (.mv (cI 2))]) .ret) .skip))) (.reg [gO 16 (.mv (.s 5)), gO 17 (.bin .add (.s 16) (cI 1)), gO 5 (.mv (.s 17))])))))) (.seq (.reg [gO 4 (.mv (cI 0))]) .ret))))⟩ := by kernel_rfl
set_option maxHeartbeats 1000000 in
theorem anErr_z (k : Nat) (n : Nt) (ds : List Int) (hn : n.cs.length ≤ 1000) (hd : ds.length ≤ 1000) :
  runZ MT (orA (k + 2)) (itA (k + 2)) 4000000 7 [encN n, .sl (ds.map I64)] [] = some (I64 (anE n.cs.length ds), []) := by
 have hs2 : (MV.sl (n.cs.map encCr)).slen = some n.cs.length := by simp [MV.slen]
 have hs3 : (MV.sl (ds.map I64)).slen = some ds.length := by simp [MV.slen]
 have HE := Lib.hid (show anE n.cs.length ds = if ds.length = n.cs.length then (if ds.any anB then 2 else 0) else 10 from rfl)
 refine runZ_of mf_anErr (by simp) ?_
 simp only [argsL]
 by_cases hl : ds.length = n.cs.length
 ·repeat (first | apply ef_seq | (apply ef_mv; exact rfl; exact rfl) | (apply ef_bin; (iterate 3 exact rfl); (exact cmp_f rfl (by simp only [cmpP]; omega))) | (apply ef_len; exact rfl; exact rfl; (assumption)) | (apply ef_ldp; exact rfl; exact rfl; (exact rfl); exact rfl; (exact rfl); (exact rfl)) | (apply ef_fap; exact rfl; exact rfl) | (apply ef_box; (iterate 4 exact rfl)) | apply ef_nil | apply seqQ.normal | apply ef_block | apply ef_skip | (apply ef_condf; exact rfl; (exact (rfl : false = false))))
  refine ef_loopf (α := Nat) (fun i => i ≤ ds.length ∧ ds.any anB = (ds.drop i).any anB) (fun i => [(5, I64 (i : Int))]) [(1, .sl (ds.map I64))] (fun _ => [⟨0, false, 2, [encN n]⟩]) (fun i => ds.length - i) 0 [5] (fun _ => rfl) (by ((repeat (refine Hold.cons (by exact rfl) ?_)); exact Hold.nil)) (by ((repeat (refine Hold.cons (by exact rfl) ?_)); exact Hold.nil)) rfl rfl ⟨by omega, rfl⟩ (by simp; omega) ?_
  rintro i ⟨hi, hz⟩
  try simp only at hi hz ⊢
  by_cases hlt : i < ds.length
  ·have e1 := at_map I64 ds i hlt
   have HS := Lib.hid (drop_at ds i hlt)
   have HZ := Lib.hid hz
   clear hz
   generalize ds[i] = z at e1 HS
   cases hb : inB z (-10000) 10000
   ·have w1 := fun h => IsDifference_c k z h hb
    have hany : ds.any anB = true := by rw [HZ.out, HS.out, List.any_cons]; simp [anB, hb]
    rw [HE.out, if_pos hl, if_pos hany]
    repeat (first | apply ef_seq | (apply ef_mv; exact rfl; exact rfl) | (apply ef_bin; (iterate 3 exact rfl); (exact cmp_t rfl (by first | exact rfl | (simp only [cmpP]; omega)))) | (apply ef_len; exact rfl; exact rfl; (assumption)) | (apply ef_ldr; exact rfl; exact rfl; (exact rfl)) | (apply ef_ias; (iterate 3 exact rfl); (omega); assumption; exact rfl) | (apply ef_notF; exact rfl; exact rfl) | apply ef_nil | apply seqQ.normal | apply loopQ.ret | apply ef_ret | apply seqQ.ret | apply blockQ.ret | apply ef_block | apply ef_skip | (apply ef_condt; exact rfl; (exact (rfl : true = true))) | (apply ef_call; exact rfl; ((repeat (apply XVs.cons; exact rfl)); exact XVs.nil); (with_reducible exact w1 _)))
    (refine fin1 rfl (by exact rfl) rfl ?_)
    rfl
   ·have w1 := fun h => IsDifference_c k z h hb
    repeat (first | apply ef_seq | (apply ef_mv; exact rfl; exact rfl) | (apply ef_bin; (iterate 3 exact rfl); (first | exact cmp_t rfl (by first | exact rfl | (simp only [cmpP]; omega)) | ((with_reducible refine bin_add (wrap_of ?_ ?_)) <;> omega))) | (apply ef_len; exact rfl; exact rfl; (assumption)) | (apply ef_ldr; exact rfl; exact rfl; (exact rfl)) | (apply ef_ias; (iterate 3 exact rfl); (omega); assumption; exact rfl) | (apply ef_notT; exact rfl; exact rfl) | apply ef_nil | apply seqQ.normal | apply blockQ.normal | apply ef_block | apply ef_skip | (apply ef_condt; exact rfl; (exact (rfl : true = true))) | (apply ef_condf; exact rfl; (exact (rfl : false = false))) | (apply ef_call; exact rfl; ((repeat (apply XVs.cons; exact rfl)); exact XVs.nil); (with_reducible exact w1 _)))
    (refine loopQ.normal _ _ ⟨i + 1, ⟨hlt, by rw [HZ.out, HS.out, List.any_cons]; simp [anB, hb]⟩, (by first | (simp only; omega) | omega), ⟨by ((repeat (refine Hold.cons (by exact rfl) ?_)); exact Hold.nil), by ((repeat (refine Hold.cons (by exact rfl) ?_)); exact Hold.nil)⟩, .inr ⟨by ((repeat (refine hdl_cons rfl (by first | rfl | (simp [MV.lt, ltL, ltL_Ln, ltL_Cr, ltL_I, splice, MV.cells])) ?_)); exact hdl_nil), by (simp [hltL, ltL, MV.lt, ltL, ltL_Ln, ltL_Cr, ltL_I, splice, MV.cells])⟩, by exact rfl⟩)
  ·have hany : ds.any anB = false := by rw [hz, List.drop_eq_nil_of_le (by omega)]; rfl
   rw [HE.out, if_pos hl, hany, if_neg (by simp)]
   repeat (first | apply ef_seq | (apply ef_mv; exact rfl; exact rfl) | (apply ef_bin; (iterate 3 exact rfl); (exact cmp_f rfl (by simp only [cmpP]; omega))) | (apply ef_len; exact rfl; exact rfl; (assumption)) | apply ef_nil | apply seqQ.normal | apply loopQ.exit | apply ef_ret | apply ef_exit | apply seqQ.exit | apply blockQ.here | (apply ef_condf; exact rfl; (exact (rfl : false = false))))
   (refine fin1 rfl (by exact rfl) rfl ?_)
   rfl
 ·rw [HE.out, if_neg hl]
  repeat (first | apply ef_seq | (apply ef_mv; exact rfl; exact rfl) | (apply ef_bin; (iterate 3 exact rfl); (exact cmp_t rfl (by first | exact rfl | (simp only [cmpP]; omega)))) | (apply ef_len; exact rfl; exact rfl; (assumption)) | (apply ef_ldp; exact rfl; exact rfl; (exact rfl); exact rfl; (exact rfl); (exact rfl)) | (apply ef_fap; exact rfl; exact rfl) | (apply ef_box; (iterate 4 exact rfl)) | apply ef_nil | apply seqQ.normal | apply ef_ret | apply seqQ.ret | (apply ef_condt; exact rfl; (exact (rfl : true = true))))
  (refine fin1 rfl (by exact rfl) rfl ?_)
  rfl
theorem anErr_c (k : Nat) (n : Nt) (ds : List Int) (hn : n.cs.length ≤ 1000) (hd : ds.length ≤ 1000) (h : MHeap) {v : MV} (hv : frz 0 [] h 8 v = some (.sl (ds.map I64))) : orA (k + 3) 7 [encN n, v] h = some (I64 (anE n.cs.length ds), h) :=
 callL (args' := [encN n, .sl (ds.map I64)]) (by simp [List.mapM_cons, hv, frz_lt (ltL_N n 0)]) rfl (anErr_z k n ds hn hd)
end Go.Proofs.YtfchdbghjeophaaDoor

/- Contracts: what is kept of an anomaly. -/
namespace Go.Proofs.YtfchdbghjeophaaDoor
open Go.RowKit
set_option linter.unusedVariables false
set_option linter.unusedSimpArgs false
theorem cAt_ok {ds : List Int} (h : ds.any anB = false) (v : Int) : -10000 ≤ cAt ds v ∧ cAt ds v ≤ 10000 := by
 unfold cAt
 rw [List.getD_eq_getElem?_getD]
 cases hh : ds[v.toNat]? with
 | none => simp
 | some z =>
  rw [List.any_eq_false] at h
  have := h z (List.mem_of_getElem? hh)
  simp only [anB, Bool.not_eq_true', Bool.not_eq_false] at this
  exact inB_iff.1 this
theorem fin3l {x : MX2} {A : Sl} {h : MHeap} {a b c : Value} {m : MV} {t u v : Nat} (hx : outX x = true) (h1 : look A t = some (.lit a)) (h2 : look A u = some (.lit b)) (h3 : look A v = some (.lit c)) (he : MV.tup [.lit a, .lit b, .lit c] = m) : FinF [.tmp t, .tmp u, .tmp v] m [] x A h := by
 subst he
 exact ⟨hx, [.lit a, .lit b, .lit c], [.lit a, .lit b, .lit c], ⟨_, _, rfl, h1, _, _, rfl, h2, _, [], rfl, h3, rfl⟩, by simp [impIds], by simp [impIds, expL, frz, MV.lt], rfl⟩
def kpE (n : Nt) (ds : List Int) : Int := firstE [(netF n).2, unl (decide (ds.length = n.cs.length)) 10, unl (!ds.any anB) 2]
theorem kpE_is (n : Nt) (ds : List Int) : kpE n ds = if (netF n).2 = 0 then anE n.cs.length ds else (netF n).2 := by
 unfold kpE anE unl
 simp only [firstE]
 by_cases h1 : (netF n).2 = 0
 ·by_cases h2 : ds.length = n.cs.length
  ·cases h3 : ds.any anB <;> simp [h1, h2]
  ·simp [h1, h2]
 ·simp [h1]
theorem anE_ok {m : Nat} {ds : List Int} (h : anE m ds = 0) : ds.length = m ∧ ds.any anB = false := by
 unfold anE at h
 split at h
 ·rename_i hl
  split at h
  ·cases h
  ·rename_i ha; exact ⟨hl, by simpa using ha⟩
 ·cases h
theorem mf_KeptOf : MT.mf 12 = some ⟨48, [(.tmp 4), (.tmp 5), (.tmp 6)], (.seq (.reg [gO 2 (.box 2 (.s 0)), gO 4 (.mv (cI 0)), gO 5 (.mv (cI 0)), gO 6 (.mv (cI 0))]) (.seq (.reg [gO 13 (.ld (some 2) (.s 2)), gO 14 (.call 24 [.s 13]), gO 12 (.mv (.s 14)), gO 15 (.ext (.s 12) 0), gO 16 (.ext (.s 12) 1), gO 7 (.new (.agg [(.lit (.slice none 0 0)), (.lit (.slice none 0 0))])), ⟨none, none, .st 2 (.s 7) (.s 15)⟩, gO 8 (.mv (.s 16))]) (.seq (.reg [gO 17 (.mv (.s 1)), gO 18 (.call 25 [.s 17, (.c (.fn 26 0 []))]), gO 9 (.mv (.s 18))]) (.seq (.seq (.reg [gO 19 (.mv (.s 8)), gO 20 (.mv (.s 1)), gO 21 (.len (.s 20)), gO 22 (.fa 1 (.s 2)), gO 23 (.ld none (.s 22)), gO 24 (.len (.s 23)), gO 25 (.bin .eql (.s 21) (.s 24)), gO 26 (.call 29 [.s 25, (cI 10)]), gO 27 (.mv (.s 9)), gO 28 (.un .not (.s 27)), gO 29 (.call 29 [.s 28, (cI 2)]), gO 30 (.bsl (.lit (.int .i64 0)) 1 3 [(0, (.s 19)), (1, (.s 26)), (2, (.s 29))]), gO 31 (.call 28 [.s 30]), gO 8 (.mv (.s 31))]) (.seq (.reg [gO 32 (.mv (.s 8)), gO 33 (.bin .neq (.s 32) (cI 0))]) (.cond (.s 33) (.seq (.reg [gO 34 (.mv (.s 8)), gO 4 (.mv (cI 0)), gO 5 (.mv (cI 0)), gO 6 (.mv (.s 34))]) .ret) .skip))) (.seq (.reg [gO 35 (.ld (some 2) (.s 7)), gO 36 (.mv (.s 1)), gO 37 (.call 30 [.s 35, .s 36]), gO 10 (.new (.agg [(.lit (.slice none 0 0)), (.lit (.slice none 0 0))])), ⟨none, none, .st 2 (.s 10) (.s 37)⟩]) (.seq (.reg [gO 38 (.ld (some 2) (.s 10)), gO 39 (.ld (some 2) (.s 10)), gO 40 (.call 32 [.s 39]), gO 41 (.call 31 [.s 38, .s 40]), gO 11 (.mv (.s 41))]) (.seq (.reg [gO 42 (.mv (.s 11)), gO 43 (.ld (some 2) (.s 7)), gO 44 (.mv (.s 1)), gO 45 (.call 33 [.s 43, .s 44]), gO 46 (.mv (.s 11)), gO 47 (.bin .sub (.s 45) (.s 46)), gO 4 (.mv (.s 42)), gO 5 (.mv (.s 47)), gO 6 (.mv (cI 0))]) .ret)))))))⟩ := by kernel_rfl
set_option maxHeartbeats 2000000 in
theorem KeptOf_z (k : Nat) (n : Nt) (hb : BdN n) (h0 : (netF n).2 = 0) (ds : List Int) (hd : ds.length = n.cs.length) (ha : ds.any anB = false) :
  runZ MT (orA (k + 6)) (itA (k + 6)) 4000000 12 [encN n, .sl (ds.map I64)] [] = some (.tup [I64 (kpV n ds), I64 (wsU n.cs ds n.cs.length - kpV n ds), I64 0], []) := by
 have ok := net_ok h0
 have hcb := fun v => cAt_ok ha v
 have okW := nW_ok ok hcb
 have hs3 : (MV.sl (ds.map I64)).slen = some ds.length := by simp [MV.slen]
 have hs2 : (MV.sl (n.cs.map encCr)).slen = some n.cs.length := by simp [MV.slen]
 have c16 := ok.c16
 have l8 := ok.l8
 have l1 := ok.l1
 have hz := (flZ_ok okW).1
 have w1 := fun h => open_c k n hb h
 have w2 := fun e h => unless_c (k + 5) true e h (e := 0) rfl
 have w3 := fun h => ContainsFuncI_c (k + 4) 26 [] anB ds h (v := .sl (ds.map I64)) (fv := .fn 26 0 []) (by omega) (fun z _ h => kp1_c (k + 1) z h) rfl (frz_sl (ltL_I 0 ds)) rfl ha
 have w4 := fun h => withN_c (k + 4) n l1 (by omega) (by omega) ds hd h
 have w5 := fun h => flow_c k (nW n ds) okW h
 have w6 := fun h => cost_c (k + 4) n ok ds hd (fun v => by have := hcb v; omega) h (v := .sl (ds.map I64)) (frz_sl (ltL_I 0 ds))
 have b1 := wsU_bd ok (ds := ds) (fun v => by have := hcb v; omega) _ (Nat.le_refl _)
 have b2 := valU_bd okW (hz.bd10 okW) _ (Nat.le_refl _)
 have w7 := fun h v hv => value_c (k + 5) (nW n ds) okW (flZ (nW n ds)) hz.len (hz.bd10 okW) h (v := v) hv
 have hwl : (nW n ds).cs.length = n.cs.length := wiU_len _ _ _
 rw [h0] at w1
 unfold kpV
 refine runZ_of mf_KeptOf (by simp) ?_
 simp only [argsL]
 generalize hW : nW n ds = W at *
 generalize hF : flZ W = F at *
 generalize valU W.cs F W.cs.length = val at *
 generalize wsU n.cs ds n.cs.length = ws at *
 repeat (first | apply ef_seq | (apply ef_mv; exact rfl; exact rfl) | (apply ef_bin; (iterate 3 exact rfl); (first | exact cmp_t rfl (by first | exact rfl | (simp only [cmpP]; omega)) | exact rfl)) | (apply ef_len; exact rfl; exact rfl; (assumption)) | (apply ef_ldp; exact rfl; exact rfl; (exact rfl); exact rfl; (exact rfl); (first | exact rd_2 rfl rfl | exact rfl)) | (apply ef_fap; exact rfl; exact rfl) | (apply ef_notF; exact rfl; exact rfl) | (apply ef_ext; (iterate 3 exact rfl)) | (apply ef_box; (iterate 4 exact rfl)) | (apply ef_new; exact rfl) | (apply ef_bsl; exact rfl; (repeat (apply XVs.cons; exact rfl)); exact XVs.nil; exact rfl) | (apply ef_st; (iterate 6 exact rfl); (exact rfl); exact rfl) | apply ef_nil | apply seqQ.normal | apply ef_skip | (apply ef_condf; exact rfl; (exact (rfl : false = false))) | (apply ef_call; exact rfl; ((repeat (apply XVs.cons; exact rfl)); exact XVs.nil); (with_reducible first | exact w1 _ | exact w2 _ _ | exact w3 _ | exact w4 _ | exact w5 _)) | (apply ef_call; exact rfl; ((repeat (apply XVs.cons; exact rfl)); exact XVs.nil); (with_reducible apply first3_c); (iterate 3 exact rfl); (exact rfl)))
 have hzl := hz.len
 have hwr : IntKind.i64.wrap (ws - val) = ws - val := by
  exact wrap_of (by omega) (by omega)
 (apply ef_call; (· exact rfl); (· ((repeat (apply XVs.cons; exact rfl)); exact XVs.nil)); · exact w7 _ _ (frz_row (o := ⟨0, false, 1, F.map I64⟩) rfl rfl (by simp [hzl]) (ltL_I 0 F) rfl))
 repeat (first | apply ef_seq | (apply ef_mv; exact rfl; exact rfl) | (apply ef_bin; (iterate 3 exact rfl); (((with_reducible refine bin_sub (wrap_of ?_ ?_)) <;> omega))) | (apply ef_ldp; exact rfl; exact rfl; (exact rfl); exact rfl; (exact rfl); (exact rd_2 rfl rfl)) | apply ef_nil | apply seqQ.normal | apply ef_ret | (apply ef_call; exact rfl; ((repeat (apply XVs.cons; exact rfl)); exact XVs.nil); (with_reducible exact w6 _)))
 (apply fin3l; (· exact rfl); (· exact rfl); (· exact rfl); (· exact rfl); (· rfl))
set_option maxHeartbeats 2000000 in
theorem KeptOf_e (k : Nat) (n : Nt) (hb : BdN n) (ds : List Int) (hl : ds.length ≤ 1000) (hc : n.cs.length ≤ 1000) (he : kpE n ds ≠ 0) :
  runZ MT (orA (k + 6)) (itA (k + 6)) 4000000 12 [encN n, .sl (ds.map I64)] [] = some (.tup [I64 0, I64 0, I64 (kpE n ds)], []) := by
 have hs3 : (MV.sl (ds.map I64)).slen = some ds.length := by simp [MV.slen]
 have hs2 : (MV.sl (n.cs.map encCr)).slen = some n.cs.length := by simp [MV.slen]
 have w1 := fun h => open_c k n hb h
 have w2 := fun b e h => unless_c (k + 5) b e h rfl
 obtain ⟨sb, hsb⟩ : ∃ sb, ds.any anB = sb := ⟨_, rfl⟩
 have w3 := fun h => ContainsFuncI_c (k + 4) 26 [] anB ds h (v := .sl (ds.map I64)) (fv := .fn 26 0 []) hl (fun z _ h => kp1_c (k + 1) z h) rfl (frz_sl (ltL_I 0 ds)) rfl hsb
 obtain ⟨e, hE⟩ : ∃ e, kpE n ds = e := ⟨_, rfl⟩
 have hE2 := hE
 unfold kpE at hE2
 rw [hsb] at hE2
 have hdl : (((ds.length : Nat) : Int) == ((n.cs.length : Nat) : Int)) = decide (ds.length = n.cs.length) := by
  rw [Bool.eq_iff_iff]; simp; omega
 rw [hE] at he ⊢
 refine runZ_of mf_KeptOf (by simp) ?_
 simp only [argsL]
 generalize (netF n).2 = e0 at *
 generalize decide (ds.length = n.cs.length) = db at *
 have hne : (e != 0) = true := by simpa using he
 repeat (first | apply ef_seq | (apply ef_mv; exact rfl; exact rfl) | (apply ef_bin; (iterate 3 exact rfl); (exact rfl)) | (apply ef_len; exact rfl; exact rfl; (assumption)) | (apply ef_ldp; exact rfl; exact rfl; (exact rfl); exact rfl; (exact rfl); (first | exact rd_2 rfl rfl | exact rfl)) | (apply ef_fap; exact rfl; exact rfl) | (apply ef_not; (iterate 3 exact rfl)) | (apply ef_ext; (iterate 3 exact rfl)) | (apply ef_box; (iterate 4 exact rfl)) | (apply ef_new; exact rfl) | (apply ef_bsl; exact rfl; (repeat (apply XVs.cons; exact rfl)); exact XVs.nil; exact rfl) | (apply ef_st; (iterate 6 exact rfl); (exact rfl); exact rfl) | apply ef_nil | apply seqQ.normal | (apply ef_call; exact rfl; ((repeat (apply XVs.cons; exact rfl)); exact XVs.nil); (with_reducible first | exact w1 _ | exact w2 _ _ _ | exact w3 _)) | (apply ef_call; exact rfl; ((repeat (apply XVs.cons; exact rfl)); exact XVs.nil); (with_reducible apply first3_c); (iterate 3 exact rfl); (exact rfl)))
 rw [hdl, hE2]
 repeat (first | apply ef_seq | (apply ef_mv; exact rfl; exact rfl) | apply ef_nil | apply seqQ.normal | apply ef_ret | apply seqQ.ret | (apply ef_condt; exact rfl; (assumption)))
 (apply fin3l; (· exact rfl); (· exact rfl); (· exact rfl); (· exact rfl); (· rfl))
theorem KeptOf_c (k : Nat) (n : Nt) (hb : BdN n) (ds : List Int) (hl : ds.length ≤ 1000) (hc : n.cs.length ≤ 1000) (h : MHeap) {v : MV} (hv : frz 0 [] h 8 v = some (.sl (ds.map I64))) :
  orA (k + 7) 12 [encN n, v] h = some (.tup [I64 (if kpE n ds = 0 then kpV n ds else 0), I64 (if kpE n ds = 0 then wsU n.cs ds n.cs.length - kpV n ds else 0), I64 (kpE n ds)], h) := by
 have hz : runZ MT (orA (k + 6)) (itA (k + 6)) 4000000 12 [encN n, .sl (ds.map I64)] [] = some (.tup [I64 (if kpE n ds = 0 then kpV n ds else 0), I64 (if kpE n ds = 0 then wsU n.cs ds n.cs.length - kpV n ds else 0), I64 (kpE n ds)], []) := by
  by_cases he : kpE n ds = 0
  ·have he2 := he
   rw [kpE_is] at he2
   split at he2
   case isFalse h0 => exact absurd he2 h0
   rename_i h0
   obtain ⟨h1, h2⟩ := anE_ok he2
   rw [he, if_pos rfl, if_pos rfl]
   exact KeptOf_z k n hb h0 ds h1 h2
  ·rw [if_neg he, if_neg he]
   exact KeptOf_e k n hb ds hl hc he
 have := callA (k := k + 6) (h := h) (args := [encN n, v]) (args' := [encN n, .sl (ds.map I64)]) (by simp [List.mapM_cons, hv, frz_lt (ltL_N n 0)]) rfl hz (by simp [okV, ok1, MV.lt, MV.pure]) rfl
 simpa [shV, sh1] using this
end Go.Proofs.YtfchdbghjeophaaDoor

/- A slice of the call's own is given up. -/
namespace Go.Proofs.YtfchdbghjeophaaDoor
open Go.RowKit
set_option linter.unusedVariables false
end Go.Proofs.YtfchdbghjeophaaDoor

/- TopLevelFeature: the walk. -/
namespace Go.Proofs.YtfchdbghjeophaaDoor
open Go.RowKit
set_option linter.unusedVariables false
set_option linter.unusedSimpArgs false
theorem BdN_nW {n : Nt} (hb : BdN n) (ds : List Int) : BdN (nW n ds) := by
 obtain ⟨a, b, c⟩ := hb
 exact ⟨a, by rw [show (nW n ds).cs.length = n.cs.length from wiU_len _ _ _]; exact b, c⟩
theorem jn_nW {n : Nt} (ds : List Int) (hj : Jn n) : Jn (nW n ds) := fun S h0 hc v v0 v1 => by
 refine hj S h0 (fun x hx => ?_) v v0 v1
 obtain ⟨i, hi, rfl⟩ := List.getElem_of_mem hx
 have hi' : i < (nW n ds).cs.length := by rw [nW_len]; exact hi
 have e := nW_getD n ds hi
 rw [List.getD_eq_getElem?_getD, List.getElem?_eq_getElem hi', List.getD_eq_getElem?_getD, List.getElem?_eq_getElem hi] at e
 have := hc _ (List.getElem_mem hi')
 have e' : (nW n ds).cs[i] = setD n.cs[i] (cAt ds i) := e
 rw [e'] at this
 exact this
abbrev mrA (cs : List Cr) (a : List Int) : Nat → List Int
 | 0 => []
 | i + 1 => mrA cs a i ++ [(cs.getD i default).df + cAt a i]
abbrev opA (a : List Int) : Nat → List Int
 | 0 => []
 | i + 1 => opA a i ++ [0 - cAt a i]
abbrev rsA (a p : List Int) : Nat → List Int
 | 0 => []
 | i + 1 => rsA a p i ++ [cAt a i - cAt p i]
theorem upA_len {f : Nat → Int} {g : Nat → List Int} (h0 : g 0 = []) (hs : ∀ i, g (i + 1) = g i ++ [f i]) : ∀ i, (g i).length = i
 | 0 => by rw [h0]; rfl
 | i + 1 => by rw [hs, List.length_append, upA_len h0 hs i]; rfl
theorem upA_at {f : Nat → Int} {g : Nat → List Int} (h0 : g 0 = []) (hs : ∀ i, g (i + 1) = g i ++ [f i]) : ∀ (m i : Nat), i < m → cAt (g m) (i : Nat) = f i
 | 0, i, h => absurd h (by omega)
 | m + 1, i, h => by
  have hl := upA_len h0 hs m
  unfold cAt
  rw [hs, List.getD_eq_getElem?_getD, Int.toNat_natCast]
  by_cases e : i = m
  ·subst e
   rw [List.getElem?_append_right (by omega), hl, Nat.sub_self]; rfl
  ·rw [List.getElem?_append_left (by omega)]
   have := upA_at h0 hs m i (by omega)
   unfold cAt at this
   rw [List.getD_eq_getElem?_getD, Int.toNat_natCast] at this
   exact this
theorem anE_ok2 {m : Nat} {ds : List Int} (h : anE m ds = 0) : ds.length = m ∧ ds.any anB = false := by
 unfold anE at h
 split at h
 ·refine ⟨by assumption, ?_⟩
  cases hh : ds.any anB
  ·rfl
  ·rw [hh] at h; cases h
 ·cases h
structure FeatF (n : Nt) (a p m r o : List Int) (B : Int) : Prop where
 e1 : joE (nW n m) = 0
 n1 : (netF (nW n m)).2 = 0
 b1 : BdN (nW n m)
 ka : kpE n a = 0
 kp : kpE n p = 0
 kr : kpE n r = 0
 ko : kpE n o = 0
 c1 : absI (minC n - minC (nW n m)) ≤ kpV n a
 c2 : kpV n o = kpV n a
 c3 : kpV n a ≤ kpV n p + kpV n r
 c4 : absI (limV n - limV (nW n m)) ≤ B
 d0 : 0 ≤ minC n ∧ minC n ≤ 1600000
 d1 : 0 ≤ minC (nW n m) ∧ minC (nW n m) ≤ 1600000
 d2 : 0 ≤ kpV n a ∧ kpV n a ≤ 1600000
 d3 : 0 ≤ kpV n p ∧ kpV n p ≤ 1600000
 d4 : 0 ≤ kpV n r ∧ kpV n r ≤ 1600000
 l0 : 0 ≤ limV n ∧ limV n ≤ 10000
 l1 : 0 ≤ limV (nW n m) ∧ limV (nW n m) ≤ 10000
theorem wsU_b2 {n : Nt} (ok : OkN n) {ds : List Int} (hb : ∀ v, -10000 ≤ cAt ds v ∧ cAt ds v ≤ 10000) : ∀ i, i ≤ n.cs.length → 0 ≤ wsU n.cs ds i ∧ wsU n.cs ds i ≤ 100000 * (i : Int)
 | 0, _ => by simp [wsU]
 | i + 1, hi => by
  have ih := wsU_b2 ok hb i (by omega)
  have hx := (ok.rg n.cs[i] (List.getElem_mem (by omega))).wt
  rw [wsU_next (List.getElem?_eq_getElem (show i < n.cs.length by omega))]
  have h2 := absI_bd (hb (i : Nat)).1 (hb (i : Nat)).2
  have h3 := Int.mul_nonneg (a := n.cs[i].wt) (b := absI (cAt ds (i : Nat))) (by omega) h2.1
  have h4 := mul_bd (a := n.cs[i].wt) (b := absI (cAt ds (i : Nat))) (A := 10) (B := 10000) (by omega) (by omega) (by omega) (by omega)
  omega
theorem kp_b {n : Nt} (ok : OkN n) {ds : List Int} (hb : ∀ v, -10000 ≤ cAt ds v ∧ cAt ds v ≤ 10000) : 0 ≤ kpV n ds ∧ kpV n ds ≤ 1600000 := by
 have okD := nW_ok ok hb
 have h1 := kp_nn okD
 have h2 := kp_le okD
 have h3 := wsU_b2 ok hb n.cs.length (Nat.le_refl _)
 have h4 := ok.c16
 omega
theorem feat {n : Nt} (hb : BdN n) (h0 : joE n = 0) {a p : List Int} (ha : anE n.cs.length a = 0) (hp : anE n.cs.length p = 0) (hm : anE n.cs.length (mrA n.cs a n.cs.length) = 0) (hr : anE n.cs.length (rsA a p n.cs.length) = 0) {B : Int} (hB : 0 ≤ B) (haB : ∀ i : Nat, i < n.cs.length → absI (cAt a i) ≤ B) :
  FeatF n a p (mrA n.cs a n.cs.length) (rsA a p n.cs.length) (opA a n.cs.length) B := by
 obtain ⟨hn, ok, hj⟩ := joE_ok h0
 obtain ⟨la, ba⟩ := anE_ok2 ha
 obtain ⟨lp, bp⟩ := anE_ok2 hp
 obtain ⟨lm, bm⟩ := anE_ok2 hm
 obtain ⟨lr, br⟩ := anE_ok2 hr
 have lo : (opA a n.cs.length).length = n.cs.length := upA_len (f := fun i => 0 - cAt a i) (g := opA a) rfl (fun _ => rfl) _
 have mt : ∀ i : Nat, i < n.cs.length → cAt (mrA n.cs a n.cs.length) i = (n.cs.getD i default).df + cAt a i := fun i hi => upA_at (f := fun i => (n.cs.getD i default).df + cAt a i) (g := mrA n.cs a) rfl (fun _ => rfl) _ i hi
 have rt : ∀ i : Nat, i < n.cs.length → cAt (rsA a p n.cs.length) i = cAt a i - cAt p i := fun i hi => upA_at (f := fun i => cAt a i - cAt p i) (g := rsA a p) rfl (fun _ => rfl) _ i hi
 have ot : ∀ i : Nat, i < n.cs.length → cAt (opA a n.cs.length) i = 0 - cAt a i := fun i hi => upA_at (f := fun i => 0 - cAt a i) (g := opA a) rfl (fun _ => rfl) _ i hi
 generalize mrA n.cs a n.cs.length = m at *
 generalize rsA a p n.cs.length = r at *
 generalize opA a n.cs.length = o at *
 have hbo : ∀ v, -10000 ≤ cAt o v ∧ cAt o v ≤ 10000 := fun v => by
  by_cases h : v.toNat < n.cs.length
  ·have h1 := ot v.toNat h
   have h2 := cAt_ok ba (v.toNat : Nat)
   have e : cAt o (v.toNat : Nat) = cAt o v := by unfold cAt; rw [Int.toNat_natCast]
   rw [e] at h1
   omega
  ·have : cAt o v = 0 := by unfold cAt; rw [List.getD_eq_getElem?_getD, List.getElem?_eq_none (by omega)]; rfl
   omega
 have hob : o.any anB = false := by
  rw [List.any_eq_false]
  intro z hz
  obtain ⟨i, hi, rfl⟩ := List.getElem_of_mem hz
  have := hbo (i : Nat)
  unfold cAt at this
  rw [List.getD_eq_getElem?_getD, Int.toNat_natCast, List.getElem?_eq_getElem hi] at this
  have this2 : -10000 ≤ o[i] ∧ o[i] ≤ 10000 := this
  unfold anB
  rw [inB_iff.2 this2]; simp
 have okA := nW_ok ok (cAt_ok ba)
 have okP := nW_ok ok (cAt_ok bp)
 have okM := nW_ok ok (cAt_ok bm)
 have okR := nW_ok ok (cAt_ok br)
 have okO := nW_ok ok hbo
 have hN := nW_net hn (cAt_ok bm)
 have hJ := jn_nW m hj
 have ke : ∀ {ds : List Int}, ds.length = n.cs.length → ds.any anB = false → kpE n ds = 0 := fun {ds} h1 h2 => by rw [kpE_is, if_pos hn]; unfold anE; rw [if_pos h1, h2]; rfl
 have okON : OkN (nW n (a.map (- ·))) := nW_ok ok fun v => by have := cAt_ok ba v; rw [cAt_mneg]; omega
 have hBM := BdN_nW hb m
 have L0 := limV_is hb hn
 have L1 := limV_is hBM hN
 have hdf : ∀ v, -10000 ≤ cAt (dfL n) v ∧ cAt (dfL n) v ≤ 10000 := fun v => by
  unfold cAt dfL
  rw [List.getD_eq_getElem?_getD, List.getElem?_map]
  cases hh : n.cs[v.toNat]? with
  | none => simp
  | some x => exact (ok.rg x (List.mem_of_getElem? hh)).df
 refine ⟨by unfold joE; rw [if_pos hN, (jnB_iff okM).2 hJ]; rfl, hN, hBM, ke la ba, ke lp bp, ke lr br, ke lo hob, cost_add ok okA okM okON mt, kp_opp okA okO (fun i hi => by rw [ot i hi]; omega), kp_sub okP okR okA (fun i hi => by rw [rt i hi]; omega),
  lim_add L0 L1 hB (fun i hi => by have := haB i hi; unfold absI at this; split at this <;> omega) mt, by rw [minC_kp]; exact kp_b ok hdf, kp_b ok (cAt_ok bm), kp_b ok (cAt_ok ba), kp_b ok (cAt_ok bp), kp_b ok (cAt_ok br), ⟨L0.lo, L0.hi⟩, ⟨L1.lo, L1.hi⟩⟩
theorem giveV_arrG {lk : Nat → Bool} {h : MHeap} {id k sz g : Nat} {nl : Bool} {es : List MV} (ho : h[id]? = some ⟨g, nl, sz, es⟩) (hk : k = es.length) (hl : ltL 0 es = true) (h1 : lk id = false) : giveV lk h (.arr id 0 k g) = some (.sl es, h.set id ⟨g + 1, nl, sz, []⟩) := by
 have hids : MV.ids h 6 (.arr id 0 k g) = [id] := by
  have e2 : MV.ids h 6 (.arr id 0 k g) = id :: (match h[id]? with | some o => o.es.flatMap (MV.ids h 5) | none => []) := rfl
  rw [ho] at e2
  dsimp only at e2
  rw [idsL_lt0 hl] at e2
  exact e2
 have hmap : (h.mapIdx fun i p => if ([id] : List Nat).contains i then (⟨p.g + 1, p.nl, p.sz, []⟩ : MObj) else p) = h.set id ⟨g + 1, nl, sz, []⟩ := by
  apply List.ext_getElem?
  intro j
  rw [List.getElem?_mapIdx, List.getElem?_set]
  by_cases e : j = id
  ·subst e
   rw [if_pos rfl, if_pos (List.getElem?_eq_some_iff.1 ho).1, ho]
   simp
  ·rw [if_neg (by omega)]
   cases h[j]? <;> simp [e]
 have himp : ((List.range h.length).filter fun i => !([id] : List Nat).contains i).contains id = false := by
  rw [Bool.eq_false_iff]
  intro hc
  simp only [List.contains_iff_mem, List.mem_filter] at hc
  simpa using hc.2
 have hfr : frz 0 ((List.range h.length).filter fun i => !([id] : List Nat).contains i) h 8 (.arr id 0 k g) = some (.sl es) := by
  have h3 : es.take k = es := List.take_of_length_le (by omega)
  simp only [frz, MV.lt, Nat.not_lt_zero, decide_false, Bool.false_eq_true, if_false, himp, ho]
  simp only [hl, if_true, List.drop_zero, h3]
  simp; omega
 unfold giveV
 rw [hids, hfr]
 simp only [hmap]
 simp [h1]
abbrev ftH (n : Nt) (i : Nat) (x y z : List MV) : MHeap := [⟨0, false, 2, [encN n]⟩, ⟨i, decide (i = 0), 1, x⟩, ⟨i, decide (i = 0), 1, y⟩, ⟨i, decide (i = 0), 1, z⟩]
theorem mf_Feature : MT.mf 3 = some ⟨288, [(.tmp 6)], (.seq (.reg [gO 3 (.box 2 (.s 0)), gO 6 (.mv cF)]) (.seq (.seq (.reg [gO 35 (.call 4 []), gO 36 (.un .not (.s 35))]) (.cond (.s 36) (.seq (.reg [gO 6 (.mv cF)]) .ret) .skip)) (.seq (.seq (.reg [gO 37 (.ld (some 2) (.s 3)), gO 38 (.call 5 [.s 37]), gO 39 (.un .not (.s 38)), gO 40 (.mv (.s 39)), ⟨some (40, false), some 41, .fa 0 (.s 3)⟩, ⟨some (40, false), some 42, .ld none (.s 41)⟩, ⟨some (40, false), some 43, .len (.s 42)⟩, ⟨some (40, false), some 44, .bin .gtr (.s 43) (cI 6)⟩, gO 45 (.pick (.s 40) cT (.s 44)), gO 46 (.mv (.s 45)), ⟨some (46, false), some 47, .ld (some 2) (.s 3)⟩, ⟨some (46, false), some 48, .call 6 [.s 47]⟩, ⟨some (46, false), some 49, .bin .neq (.s 48) (cI 0)⟩, gO 50 (.pick (.s 46) cT (.s 49)), gO 51 (.mv (.s 50)), ⟨some (51, false), some 52, .mv (.s 1)⟩, ⟨some (51, false), some 53, .len (.s 52)⟩, ⟨some (51, false), some 54, .bin .gtr (.s 53) (cI 40)⟩, gO 55 (.pick (.s 51) cT (.s 54)), gO 56 (.mv (.s 55)), ⟨some (56, false), some 57, .mv (.s 2)⟩, ⟨some (56, false), some 58, .len (.s 57)⟩, ⟨some (56, false), some 59, .bin .gtr (.s 58) (cI 40)⟩, gO 60 (.pick (.s 56) cT (.s 59)), gO 61 (.mv (.s 60)), ⟨some (61, false), some 62, .ld (some 2) (.s 3)⟩, ⟨some (61, false), some 63, .mv (.s 1)⟩, ⟨some (61, false), some 64, .call 7 [.s 62, .s 63]⟩, ⟨some (61, false), some 65, .bin .neq (.s 64) (cI 0)⟩, gO 66 (.pick (.s 61) cT (.s 65)), gO 67 (.mv (.s 66)), ⟨some (67, false), some 68, .ld (some 2) (.s 3)⟩, ⟨some (67, false), some 69, .mv (.s 2)⟩, ⟨some (67, false), some 70, .call 7 [.s 68, .s 69]⟩, ⟨some (67, false), some 71, .bin .neq (.s 70) (cI 0)⟩, gO 72 (.pick (.s 67) cT (.s 71))]) (.cond (.s 72) (.seq (.reg [gO 6 (.mv cT)]) .ret) .skip)) (.seq (.reg [gO 7 (.nil0 1), gO 8 (.nil0 1), gO 9 (.nil0 1)]) (.seq (.reg [gO 10 (.mv (cI 0))]) (.seq (.seq (.reg [gO 11 (.mv (cI 0))]) (.block 0 (.loop [11, 1, 10, 7, 3, 8, 9, 2] (.seq (.seq (.reg [gO 73 (.mv (.s 11)), gO 74 (.mv (.s 1)), gO 75 (.len (.s 74)), gO 76 (.bin .lss (.s 73) (.s 75))]) (.cond (.s 76) .skip (.exit 0))) (.seq (.block 1 (.seq (.reg [gO 79 (.mv (.s 10)), gO 80 (.mv (.s 1)), gO 81 (.mv (.s 11)), gO 82 (.ia 1 (.s 80) (.s 81)), gO 83 (.ld none (.s 82)), gO 84 (.call 8 [.s 83]), gO 85 (.mx (.s 79) (.s 84)), gO 10 (.mv (.s 85))]) (.reg [gO 86 (.mv (.s 7)), gO 87 (.fa 1 (.s 3)), gO 88 (.ld none (.s 87)), gO 89 (.mv (.s 11)), gO 90 (.ia 6 (.s 88) (.s 89)), gO 91 (.fa 4 (.s 90)), gO 92 (.ld none (.s 91)), gO 93 (.mv (.s 1)), gO 94 (.mv (.s 11)), gO 95 (.ia 1 (.s 93) (.s 94)), gO 96 (.ld none (.s 95)), gO 97 (.bin .add (.s 92) (.s 96)), gO 98 (.vsl (.lit (.int .i64 0)) 1 1 [(0, (.s 97))]), gO 99 (.app 1 (.s 86) (.s 98)), gO 100 (.mv (.s 8)), gO 101 (.mv (.s 1)), gO 102 (.mv (.s 11)), gO 103 (.ia 1 (.s 101) (.s 102)), gO 104 (.ld none (.s 103)), gO 105 (.un .neg (.s 104)), gO 106 (.vsl (.lit (.int .i64 0)) 1 1 [(0, (.s 105))]), gO 107 (.app 1 (.s 100) (.s 106)), gO 108 (.mv (.s 9)), gO 109 (.mv (.s 1)), gO 110 (.mv (.s 11)), gO 111 (.ia 1 (.s 109) (.s 110)), gO 112 (.ld none (.s 111)), gO 113 (.mv (.s 2)), gO 114 (.mv (.s 11)), gO 115 (.ia 1 (.s 113) (.s 114)), gO 116 (.ld none (.s 115)), gO 117 (.bin .sub (.s 112) (.s 116)), gO 118 (.vsl (.lit (.int .i64 0)) 1 1 [(0, (.s 117))]), gO 119 (.app 1 (.s 108) (.s 118)), gO 7 (.mv (.s 99)), gO 8 (.mv (.s 107)), gO 9 (.mv (.s 119)), ⟨none, none, .ne (.s 101) (.s 86)⟩, ⟨none, none, .ne (.s 102) (.s 86)⟩, ⟨none, none, .ne (.s 103) (.s 86)⟩, ⟨none, none, .ne (.s 109) (.s 86)⟩, ⟨none, none, .ne (.s 110) (.s 86)⟩, ⟨none, none, .ne (.s 109) (.s 100)⟩, ⟨none, none, .ne (.s 110) (.s 100)⟩, ⟨none, none, .ne (.s 111) (.s 86)⟩, ⟨none, none, .ne (.s 111) (.s 100)⟩, ⟨none, none, .ne (.s 113) (.s 86)⟩, ⟨none, none, .ne (.s 114) (.s 86)⟩, ⟨none, none, .ne (.s 113) (.s 100)⟩, ⟨none, none, .ne (.s 114) (.s 100)⟩, ⟨none, none, .ne (.s 115) (.s 86)⟩, ⟨none, none, .ne (.s 115) (.s 100)⟩]))) (.reg [gO 77 (.mv (.s 11)), gO 78 (.bin .add (.s 77) (cI 1)), gO 11 (.mv (.s 78))])))))) (.seq (.seq (.reg [gO 120 (.ld (some 2) (.s 3)), gO 121 (.mv (.s 7)), gO 122 (.call 7 [.s 120, .s 121]), gO 123 (.bin .neq (.s 122) (cI 0)), gO 124 (.mv (.s 123)), ⟨some (124, false), some 125, .ld (some 2) (.s 3)⟩, ⟨some (124, false), some 126, .mv (.s 9)⟩, ⟨some (124, false), some 127, .call 7 [.s 125, .s 126]⟩, ⟨some (124, false), some 128, .bin .neq (.s 127) (cI 0)⟩, gO 129 (.pick (.s 124) cT (.s 128))]) (.cond (.s 129) (.seq (.reg [gO 6 (.mv cT)]) .ret) .skip)) (.seq (.reg [gO 131 (.ld (some 2) (.s 3)), gO 132 (.call 10 [.s 131]), gO 133 (.call 9 [.s 132]), gO 130 (.mv (.s 133)), gO 134 (.ext (.s 130) 0), gO 135 (.ext (.s 130) 1), gO 136 (.ext (.s 130) 2), gO 12 (.mv (.s 134)), gO 13 (.mv (.s 135)), gO 14 (.mv (.s 136))]) (.seq (.give 7 (.reg [gO 138 (.ld (some 2) (.s 3)), gO 139 (.mv (.s 7)), gO 140 (.call 11 [.s 138, .s 139]), gO 141 (.call 9 [.s 140]), gO 137 (.mv (.s 141)), gO 142 (.ext (.s 137) 0), gO 143 (.ext (.s 137) 1), gO 144 (.ext (.s 137) 2), gO 15 (.mv (.s 142)), gO 16 (.mv (.s 143)), gO 17 (.mv (.s 144))])) (.seq (.reg [gO 146 (.ld (some 2) (.s 3)), gO 147 (.call 10 [.s 146]), gO 148 (.mv (.s 1)), gO 149 (.call 13 [.s 148]), gO 150 (.call 12 [.s 147, .s 149]), gO 145 (.mv (.s 150)), gO 151 (.ext (.s 145) 0), gO 152 (.ext (.s 145) 1), gO 153 (.ext (.s 145) 2), gO 18 (.mv (.s 151)), gO 19 (.mv (.s 152)), gO 20 (.mv (.s 153))]) (.seq (.reg [gO 155 (.ld (some 2) (.s 3)), gO 156 (.call 10 [.s 155]), gO 157 (.mv (.s 8)), gO 158 (.call 12 [.s 156, .s 157]), gO 154 (.mv (.s 158)), gO 159 (.ext (.s 154) 0), gO 160 (.ext (.s 154) 1), gO 161 (.ext (.s 154) 2), gO 21 (.mv (.s 159)), gO 22 (.mv (.s 160)), gO 23 (.mv (.s 161))]) (.seq (.reg [gO 163 (.ld (some 2) (.s 3)), gO 164 (.call 10 [.s 163]), gO 165 (.mv (.s 2)), gO 166 (.call 13 [.s 165]), gO 167 (.call 12 [.s 164, .s 166]), gO 162 (.mv (.s 167)), gO 168 (.ext (.s 162) 0), gO 169 (.ext (.s 162) 1), gO 170 (.ext (.s 162) 2), gO 24 (.mv (.s 168)), gO 25 (.mv (.s 169)), gO 26 (.mv (.s 170))]) (.seq (.reg [gO 172 (.ld (some 2) (.s 3)), gO 173 (.call 10 [.s 172]), gO 174 (.mv (.s 9)), gO 175 (.call 12 [.s 173, .s 174]), gO 171 (.mv (.s 175)), gO 176 (.ext (.s 171) 0), gO 177 (.ext (.s 171) 1), gO 178 (.ext (.s 171) 2), gO 27 (.mv (.s 176)), gO 28 (.mv (.s 177)), gO 29 (.mv (.s 178))]) (.seq (.reg [gO 180 (.ld (some 2) (.s 3)), gO 181 (.call 10 [.s 180]), gO 182 (.call 14 [.s 181]), gO 179 (.mv (.s 182)), gO 183 (.ext (.s 179) 0), gO 184 (.ext (.s 179) 1), gO 30 (.mv (.s 183)), gO 31 (.mv (.s 184))]) (.seq (.reg [gO 186 (.ld (some 2) (.s 3)), gO 187 (.mv (.s 7)), gO 188 (.call 11 [.s 186, .s 187]), gO 189 (.call 14 [.s 188]), gO 185 (.mv (.s 189)), gO 190 (.ext (.s 185) 0), gO 191 (.ext (.s 185) 1), gO 32 (.mv (.s 190)), gO 33 (.mv (.s 191))]) (.seq (.seq (.reg [gO 192 (.mv (.s 14)), gO 193 (.bin .neq (.s 192) (cI 0)), gO 194 (.mv (.s 193)), ⟨some (194, false), some 195, .mv (.s 17)⟩, ⟨some (194, false), some 196, .bin .neq (.s 195) (cI 0)⟩, gO 197 (.pick (.s 194) cT (.s 196)), gO 198 (.mv (.s 197)), ⟨some (198, false), some 199, .mv (.s 20)⟩, ⟨some (198, false), some 200, .bin .neq (.s 199) (cI 0)⟩, gO 201 (.pick (.s 198) cT (.s 200)), gO 202 (.mv (.s 201)), ⟨some (202, false), some 203, .mv (.s 23)⟩, ⟨some (202, false), some 204, .bin .neq (.s 203) (cI 0)⟩, gO 205 (.pick (.s 202) cT (.s 204)), gO 206 (.mv (.s 205)), ⟨some (206, false), some 207, .mv (.s 26)⟩, ⟨some (206, false), some 208, .bin .neq (.s 207) (cI 0)⟩, gO 209 (.pick (.s 206) cT (.s 208)), gO 210 (.mv (.s 209)), ⟨some (210, false), some 211, .mv (.s 29)⟩, ⟨some (210, false), some 212, .bin .neq (.s 211) (cI 0)⟩, gO 213 (.pick (.s 210) cT (.s 212)), gO 214 (.mv (.s 213)), ⟨some (214, false), some 215, .mv (.s 31)⟩, ⟨some (214, false), some 216, .bin .neq (.s 215) (cI 0)⟩, gO 217 (.pick (.s 214) cT (.s 216)), gO 218 (.mv (.s 217)), ⟨some (218, false), some 219, .mv (.s 33)⟩, ⟨some (218, false), some 220, .bin .neq (.s 219) (cI 0)⟩, gO 221 (.pick (.s 218) cT (.s 220))]) (.cond (.s 221) (.seq (.reg [gO 6 (.mv cF)]) .ret) .skip)) (.seq (.reg [gO 34 (.mv (cI 1099511627776))]) (.seq (.seq (.reg [gO 222 (.mv (.s 13)), gO 223 (.mv (.s 34)), gO 224 (.call 15 [.s 222, (cI 0), .s 223]), gO 225 (.un .not (.s 224)), gO 226 (.mv (.s 225)), ⟨some (226, false), some 227, .mv (.s 16)⟩, ⟨some (226, false), some 228, .mv (.s 34)⟩, ⟨some (226, false), some 229, .call 15 [.s 227, (cI 0), .s 228]⟩, ⟨some (226, false), some 230, .un .not (.s 229)⟩, gO 231 (.pick (.s 226) cT (.s 230)), gO 232 (.mv (.s 231)), ⟨some (232, false), some 233, .mv (.s 18)⟩, ⟨some (232, false), some 234, .mv (.s 34)⟩, ⟨some (232, false), some 235, .call 15 [.s 233, (cI 0), .s 234]⟩, ⟨some (232, false), some 236, .un .not (.s 235)⟩, gO 237 (.pick (.s 232) cT (.s 236)), gO 238 (.mv (.s 237)), ⟨some (238, false), some 239, .mv (.s 24)⟩, ⟨some (238, false), some 240, .mv (.s 34)⟩, ⟨some (238, false), some 241, .call 15 [.s 239, (cI 0), .s 240]⟩, ⟨some (238, false), some 242, .un .not (.s 241)⟩, gO 243 (.pick (.s 238) cT (.s 242)), gO 244 (.mv (.s 243)), ⟨some (244, false), some 245, .mv (.s 27)⟩, ⟨some (244, false), some 246, .mv (.s 34)⟩, ⟨some (244, false), some 247, .call 15 [.s 245, (cI 0), .s 246]⟩, ⟨some (244, false), some 248, .un .not (.s 247)⟩, gO 249 (.pick (.s 244) cT (.s 248)), gO 250 (.mv (.s 249)), ⟨some (250, false), some 251, .mv (.s 30)⟩, ⟨some (250, false), some 252, .mv (.s 34)⟩, ⟨some (250, false), some 253, .call 15 [.s 251, (cI 0), .s 252]⟩, ⟨some (250, false), some 254, .un .not (.s 253)⟩, gO 255 (.pick (.s 250) cT (.s 254)), gO 256 (.mv (.s 255)), ⟨some (256, false), some 257, .mv (.s 32)⟩, ⟨some (256, false), some 258, .mv (.s 34)⟩, ⟨some (256, false), some 259, .call 15 [.s 257, (cI 0), .s 258]⟩, ⟨some (256, false), some 260, .un .not (.s 259)⟩, gO 261 (.pick (.s 256) cT (.s 260))]) (.cond (.s 261) (.seq (.reg [gO 6 (.mv cF)]) .ret) .skip)) (.seq (.reg [gO 262 (.mv (.s 13)), gO 263 (.mv (.s 16)), gO 264 (.bin .sub (.s 262) (.s 263)), gO 265 (.call 8 [.s 264]), gO 266 (.mv (.s 18)), gO 267 (.bin .leq (.s 265) (.s 266)), gO 268 (.mv (.s 267)), ⟨some (268, true), some 269, .mv (.s 21)⟩, ⟨some (268, true), some 270, .mv (.s 18)⟩, ⟨some (268, true), some 271, .bin .eql (.s 269) (.s 270)⟩, gO 272 (.pick (.s 268) (.s 271) cF), gO 273 (.mv (.s 272)), ⟨some (273, true), some 274, .mv (.s 18)⟩, ⟨some (273, true), some 275, .mv (.s 24)⟩, ⟨some (273, true), some 276, .mv (.s 27)⟩, ⟨some (273, true), some 277, .bin .add (.s 275) (.s 276)⟩, ⟨some (273, true), some 278, .bin .leq (.s 274) (.s 277)⟩, gO 279 (.pick (.s 273) (.s 278) cF), gO 280 (.mv (.s 279)), ⟨some (280, true), some 281, .mv (.s 30)⟩, ⟨some (280, true), some 282, .mv (.s 32)⟩, ⟨some (280, true), some 283, .bin .sub (.s 281) (.s 282)⟩, ⟨some (280, true), some 284, .call 8 [.s 283]⟩, ⟨some (280, true), some 285, .mv (.s 10)⟩, ⟨some (280, true), some 286, .bin .leq (.s 284) (.s 285)⟩, gO 287 (.pick (.s 280) (.s 286) cF), gO 6 (.mv (.s 287))]) .ret)))))))))))))))))))⟩ := by kernel_rfl
set_option maxRecDepth 20000 in
set_option maxHeartbeats 8000000 in
theorem Feature_z (n : Nt) (a p : List Int) (m1 : n.ls.length ≤ 9223372036854775807) (m2 : n.cs.length ≤ 9223372036854775807) (m3 : a.length ≤ 9223372036854775807) (m4 : p.length ≤ 9223372036854775807) :
  runZ MT (orC LZ 13) (itA 14) 4000000 3 [encN n, .sl (a.map I64), .sl (p.map I64)] [] = some (Bo true, []) := by
 have hsa : (MV.sl (a.map I64)).slen = some a.length := by simp [MV.slen]
 have hsp : (MV.sl (p.map I64)).slen = some p.length := by simp [MV.slen]
 have hs1 : (MV.sl (n.ls.map encLn)).slen = some n.ls.length := by simp [MV.slen]
 have hs2 : (MV.sl (n.cs.map encCr)).slen = some n.cs.length := by simp [MV.slen]
 refine runZ_of mf_Feature (by simp) ?_
 simp only [argsL]
 have w0 : ∀ h, orC LZ 13 4 [] h = some (Bo true, h) := fun h => orC_of rfl (shown_c h)
 have w1 : ∀ h, orC LZ 13 5 [encN n] h = _ := fun h => orC_of rfl (Few_c 13 n m1 m2 h)
 cases hf : fewNt n
 ·rw [hf] at w1
  repeat (first | apply ef_seq | (apply ef_mv; exact rfl; exact rfl) | (apply ef_gn; exact rfl; (exact (rfl : true = true)); exact rfl) | (apply ef_pick; (iterate 3 exact rfl)) | (apply ef_ldp; exact rfl; exact rfl; (exact rfl); exact rfl; (exact rfl); (exact rd_2 rfl rfl)) | (apply ef_notT; exact rfl; exact rfl) | (apply ef_notF; exact rfl; exact rfl) | (apply ef_box; (iterate 4 exact rfl)) | apply ef_nil | apply seqQ.normal | apply ef_ret | apply seqQ.ret | apply ef_skip | (apply ef_condt; exact rfl; (exact (rfl : true = true))) | (apply ef_condf; exact rfl; (exact (rfl : false = false))) | (apply ef_call; exact rfl; ((repeat (apply XVs.cons; exact rfl)); exact XVs.nil); (with_reducible first | exact w0 _ | exact w1 _)))
  (refine fin1 rfl (by exact rfl) rfl ?_)
  rfl
 obtain ⟨hb, n10, n18⟩ := fewNt_bd hf
 rw [hf] at w1
 by_cases hl6 : n.ls.length ≤ 6
 rotate_left
 ·repeat (first | apply ef_seq | (apply ef_mv; exact rfl; exact rfl) | (apply ef_bin; (iterate 3 exact rfl); (exact cmp_t rfl (by first | exact rfl | (simp only [cmpP]; omega)))) | (apply ef_gy; exact rfl; (exact (rfl : false = false))) | (apply ef_gn; exact rfl; (exact (rfl : true = true)); exact rfl) | (apply ef_pick; (iterate 3 exact rfl)) | (apply ef_len; exact rfl; exact rfl; (assumption)) | (apply ef_ldp; exact rfl; exact rfl; (exact rfl); exact rfl; (exact rfl); (first | exact rd_2 rfl rfl | exact rfl)) | (apply ef_fap; exact rfl; exact rfl) | (apply ef_notT; exact rfl; exact rfl) | (apply ef_box; (iterate 4 exact rfl)) | apply ef_nil | apply seqQ.normal | apply ef_ret | apply seqQ.ret | apply ef_skip | (apply ef_condt; exact rfl; (exact (rfl : true = true))) | (apply ef_condf; exact rfl; (exact (rfl : false = false))) | (apply ef_call; exact rfl; ((repeat (apply XVs.cons; exact rfl)); exact XVs.nil); (with_reducible first | exact w0 _ | exact w1 _)))
  (refine fin1 rfl (by exact rfl) rfl ?_)
  rfl
 have w2 : ∀ h, orC LZ 13 6 [encN n] h = _ := fun h => orC_of rfl (JoinedErr_c 9 n hb h)
 by_cases h0 : joE n = 0
 rotate_left
 ·generalize joE n = e at *
  repeat (first | apply ef_seq | (apply ef_mv; exact rfl; exact rfl) | (apply ef_bin; (iterate 3 exact rfl); (first | exact cmp_t rfl (by first | exact rfl | (simp only [cmpP]; omega)) | exact cmp_f rfl (by simp only [cmpP]; omega))) | (apply ef_gy; exact rfl; (exact (rfl : false = false))) | (apply ef_gn; exact rfl; (exact (rfl : true = true)); exact rfl) | (apply ef_pick; (iterate 3 exact rfl)) | (apply ef_len; exact rfl; exact rfl; (assumption)) | (apply ef_ldp; exact rfl; exact rfl; (exact rfl); exact rfl; (exact rfl); (first | exact rd_2 rfl rfl | exact rfl)) | (apply ef_fap; exact rfl; exact rfl) | (apply ef_notT; exact rfl; exact rfl) | (apply ef_box; (iterate 4 exact rfl)) | apply ef_nil | apply seqQ.normal | apply ef_ret | apply seqQ.ret | apply ef_skip | (apply ef_condt; exact rfl; (exact (rfl : true = true))) | (apply ef_condf; exact rfl; (exact (rfl : false = false))) | (apply ef_call; exact rfl; ((repeat (apply XVs.cons; exact rfl)); exact XVs.nil); (with_reducible first | exact w0 _ | exact w1 _ | exact w2 _)))
  (refine fin1 rfl (by exact rfl) rfl ?_)
  rfl
 obtain ⟨hn, ok, hj⟩ := joE_ok h0
 have l1 := ok.l1
 have c16 := ok.c16
 by_cases ha40 : a.length ≤ 40
 rotate_left
 ·rw [h0] at w2
  repeat (first | apply ef_seq | (apply ef_mv; exact rfl; exact rfl) | (apply ef_bin; (iterate 3 exact rfl); (first | exact cmp_t rfl (by first | exact rfl | (simp only [cmpP]; omega)) | exact cmp_f rfl (by simp only [cmpP]; omega))) | (apply ef_gy; exact rfl; (exact (rfl : false = false))) | (apply ef_gn; exact rfl; (exact (rfl : true = true)); exact rfl) | (apply ef_pick; (iterate 3 exact rfl)) | (apply ef_len; exact rfl; exact rfl; (assumption)) | (apply ef_ldp; exact rfl; exact rfl; (exact rfl); exact rfl; (exact rfl); (first | exact rd_2 rfl rfl | exact rfl)) | (apply ef_fap; exact rfl; exact rfl) | (apply ef_notT; exact rfl; exact rfl) | (apply ef_box; (iterate 4 exact rfl)) | apply ef_nil | apply seqQ.normal | apply ef_ret | apply seqQ.ret | apply ef_skip | (apply ef_condt; exact rfl; (exact (rfl : true = true))) | (apply ef_condf; exact rfl; (exact (rfl : false = false))) | (apply ef_call; exact rfl; ((repeat (apply XVs.cons; exact rfl)); exact XVs.nil); (with_reducible first | exact w0 _ | exact w1 _ | exact w2 _)))
  (refine fin1 rfl (by exact rfl) rfl ?_)
  rfl
 by_cases hp40 : p.length ≤ 40
 rotate_left
 ·rw [h0] at w2
  repeat (first | apply ef_seq | (apply ef_mv; exact rfl; exact rfl) | (apply ef_bin; (iterate 3 exact rfl); (first | exact cmp_t rfl (by first | exact rfl | (simp only [cmpP]; omega)) | exact cmp_f rfl (by simp only [cmpP]; omega))) | (apply ef_gy; exact rfl; (exact (rfl : false = false))) | (apply ef_gn; exact rfl; (exact (rfl : true = true)); exact rfl) | (apply ef_pick; (iterate 3 exact rfl)) | (apply ef_len; exact rfl; exact rfl; (assumption)) | (apply ef_ldp; exact rfl; exact rfl; (exact rfl); exact rfl; (exact rfl); (first | exact rd_2 rfl rfl | exact rfl)) | (apply ef_fap; exact rfl; exact rfl) | (apply ef_notT; exact rfl; exact rfl) | (apply ef_box; (iterate 4 exact rfl)) | apply ef_nil | apply seqQ.normal | apply ef_ret | apply seqQ.ret | apply ef_skip | (apply ef_condt; exact rfl; (exact (rfl : true = true))) | (apply ef_condf; exact rfl; (exact (rfl : false = false))) | (apply ef_call; exact rfl; ((repeat (apply XVs.cons; exact rfl)); exact XVs.nil); (with_reducible first | exact w0 _ | exact w1 _ | exact w2 _)))
  (refine fin1 rfl (by exact rfl) rfl ?_)
  rfl
 have w3 : ∀ h, orC LZ 13 7 [encN n, .sl (a.map I64)] h = _ := fun h => orC_of rfl (anErr_c 11 n a (by omega) (by omega) h (frz_sl (ltL_I 0 a)))
 have w4 : ∀ h, orC LZ 13 7 [encN n, .sl (p.map I64)] h = _ := fun h => orC_of rfl (anErr_c 11 n p (by omega) (by omega) h (frz_sl (ltL_I 0 p)))
 rw [h0] at w2
 by_cases hae : anE n.cs.length a = 0
 rotate_left
 ·generalize anE n.cs.length a = e at *
  repeat (first | apply ef_seq | (apply ef_mv; exact rfl; exact rfl) | (apply ef_bin; (iterate 3 exact rfl); (first | exact cmp_t rfl (by first | exact rfl | (simp only [cmpP]; omega)) | exact cmp_f rfl (by simp only [cmpP]; omega))) | (apply ef_gy; exact rfl; (exact (rfl : false = false))) | (apply ef_gn; exact rfl; (exact (rfl : true = true)); exact rfl) | (apply ef_pick; (iterate 3 exact rfl)) | (apply ef_len; exact rfl; exact rfl; (assumption)) | (apply ef_ldp; exact rfl; exact rfl; (exact rfl); exact rfl; (exact rfl); (first | exact rd_2 rfl rfl | exact rfl)) | (apply ef_fap; exact rfl; exact rfl) | (apply ef_notT; exact rfl; exact rfl) | (apply ef_box; (iterate 4 exact rfl)) | apply ef_nil | apply seqQ.normal | apply ef_ret | apply seqQ.ret | apply ef_skip | (apply ef_condt; exact rfl; (exact (rfl : true = true))) | (apply ef_condf; exact rfl; (exact (rfl : false = false))) | (apply ef_call; exact rfl; ((repeat (apply XVs.cons; exact rfl)); exact XVs.nil); (with_reducible first | exact w0 _ | exact w1 _ | exact w2 _ | exact w3 _)))
  (refine fin1 rfl (by exact rfl) rfl ?_)
  rfl
 rw [hae] at w3
 by_cases hpe : anE n.cs.length p = 0
 rotate_left
 ·generalize anE n.cs.length p = e at *
  repeat (first | apply ef_seq | (apply ef_mv; exact rfl; exact rfl) | (apply ef_bin; (iterate 3 exact rfl); (first | exact cmp_t rfl (by first | exact rfl | (simp only [cmpP]; omega)) | exact cmp_f rfl (by simp only [cmpP]; omega))) | (apply ef_gy; exact rfl; (exact (rfl : false = false))) | (apply ef_pick; (iterate 3 exact rfl)) | (apply ef_len; exact rfl; exact rfl; (assumption)) | (apply ef_ldp; exact rfl; exact rfl; (exact rfl); exact rfl; (exact rfl); (first | exact rd_2 rfl rfl | exact rfl)) | (apply ef_fap; exact rfl; exact rfl) | (apply ef_notT; exact rfl; exact rfl) | (apply ef_box; (iterate 4 exact rfl)) | apply ef_nil | apply seqQ.normal | apply ef_ret | apply seqQ.ret | apply ef_skip | (apply ef_condt; exact rfl; (exact (rfl : true = true))) | (apply ef_condf; exact rfl; (exact (rfl : false = false))) | (apply ef_call; exact rfl; ((repeat (apply XVs.cons; exact rfl)); exact XVs.nil); (with_reducible first | exact w0 _ | exact w1 _ | exact w2 _ | exact w3 _ | exact w4 _)))
  (refine fin1 rfl (by exact rfl) rfl ?_)
  rfl
 rw [hpe] at w4
 obtain ⟨la, ba⟩ := anE_ok2 hae
 obtain ⟨lp, bp⟩ := anE_ok2 hpe
 have w5 : ∀ z (h1 : -1000000000000 ≤ z) (h2 : z ≤ 1000000000000) h, orC LZ 13 8 [I64 z] h = some (I64 (absI z), h) := fun z h1 h2 h => orC_of rfl (bSize_c 13 z h1 h2 h)
 have W5 := Bx.mk w5
 clear w5
 repeat (first | apply ef_seq | (apply ef_mv; exact rfl; exact rfl) | (apply ef_bin; (iterate 3 exact rfl); (exact cmp_f rfl (by simp only [cmpP]; omega))) | (apply ef_gy; exact rfl; (exact (rfl : false = false))) | (apply ef_pick; (iterate 3 exact rfl)) | (apply ef_len; exact rfl; exact rfl; (assumption)) | (apply ef_ldp; exact rfl; exact rfl; (exact rfl); exact rfl; (exact rfl); (first | exact rd_2 rfl rfl | exact rfl)) | (apply ef_fap; exact rfl; exact rfl) | (apply ef_notT; exact rfl; exact rfl) | (apply ef_box; (iterate 4 exact rfl)) | (apply ef_nil0; exact rfl) | apply ef_nil | apply seqQ.normal | apply ef_block | apply ef_skip | (apply ef_condf; exact rfl; (exact (rfl : false = false))) | (apply ef_call; exact rfl; ((repeat (apply XVs.cons; exact rfl)); exact XVs.nil); (with_reducible first | exact w0 _ | exact w1 _ | exact w2 _ | exact w3 _ | exact w4 _)))
 clear w0 w1 w2 w3 w4
 refine ef_loopf (α := Nat × Int × List MV × List MV × List MV) (fun q => q.1 ≤ n.cs.length ∧ 0 ≤ q.2.1 ∧ q.2.1 ≤ 10000 ∧ (∀ j : Nat, j < q.1 → absI (cAt a j) ≤ q.2.1) ∧ q.2.2.1 = (mrA n.cs a q.1).map I64 ∧ q.2.2.2.1 = (opA a q.1).map I64 ∧ q.2.2.2.2 = (rsA a p q.1).map I64) (fun q => [(11, I64 (q.1 : Int)), (10, I64 q.2.1), (7, .arr 1 0 q.1 q.1), (8, .arr 2 0 q.1 q.1), (9, .arr 3 0 q.1 q.1)]) [(1, .sl (a.map I64)), (2, .sl (p.map I64)), (3, .ptr 0 0 0 0)] (fun q => ftH n q.1 q.2.2.1 q.2.2.2.1 q.2.2.2.2) (fun q => n.cs.length - q.1) (0, 0, [], [], []) [11, 10, 7, 8, 9] (fun _ => rfl) (by ((repeat (refine Hold.cons (by exact rfl) ?_)); exact Hold.nil)) (by ((repeat (refine Hold.cons (by exact rfl) ?_)); exact Hold.nil)) rfl rfl ⟨Nat.zero_le _, (by show (0 : Int) ≤ 0; omega), (by show (0 : Int) ≤ 10000; omega), fun j hj => absurd hj (by show ¬ j < 0; omega), rfl, rfl, rfl⟩ (by show n.cs.length - 0 < 4000000; omega) ?_
 rintro ⟨i, B, x, y, z⟩ ⟨hi, hB0, hB1, hBj, hx, hy, hz⟩
 try simp only at hi hB0 hB1 hBj hx hy hz ⊢
 have lx : (mrA n.cs a i).length = i := upA_len (f := fun i => (n.cs.getD i default).df + cAt a i) (g := mrA n.cs a) rfl (fun _ => rfl) _
 have ly : (opA a i).length = i := upA_len (f := fun i => 0 - cAt a i) (g := opA a) rfl (fun _ => rfl) _
 have lz : (rsA a p i).length = i := upA_len (f := fun i => cAt a i - cAt p i) (g := rsA a p) rfl (fun _ => rfl) _
 have lx' : x.length = i := by rw [hx, List.length_map, lx]
 have ly' : y.length = i := by rw [hy, List.length_map, ly]
 have lz' : z.length = i := by rw [hz, List.length_map, lz]
 have tx : ∀ j, ltL j x = true := fun j => by rw [hx]; exact ltL_I j _
 have ty : ∀ j, ltL j y = true := fun j => by rw [hy]; exact ltL_I j _
 have tz : ∀ j, ltL j z = true := fun j => by rw [hz]; exact ltL_I j _
 by_cases hlt : i < n.cs.length
 ·have e1 : (a.map I64)[((i : Nat) : Int).toNat]? = some (I64 (cAt a (i : Nat))) := cAt_at la (by omega) (by omega)
  have e2 : (p.map I64)[((i : Nat) : Int).toNat]? = some (I64 (cAt p (i : Nat))) := cAt_at lp (by omega) (by omega)
  have e3 := at_map encCr n.cs i hlt
  have hd := (ok.rg n.cs[i] (List.getElem_mem hlt)).df
  have HD := Bx.mk (show (n.cs.getD i default).df = n.cs[i].df by rw [List.getD_eq_getElem?_getD, List.getElem?_eq_getElem hlt]; rfl)
  have ha := cAt_ok ba (i : Nat)
  have hp := cAt_ok bp (i : Nat)
  have HJ := Bx.mk hBj
  have HX := Bx.mk hx
  have HY := Bx.mk hy
  have HZ := Bx.mk hz
  clear hBj hx hy hz lx ly lz
  generalize n.cs[i] = c at e3 hd HD
  generalize hca : cAt a (i : Nat) = v at *
  generalize hcp : cAt p (i : Nat) = u at *
  have w5 := W5.out v (by omega) (by omega)
  have hab : 0 ≤ absI v ∧ absI v ≤ 10000 := by unfold absI; split <;> omega
  generalize hva : absI v = av at *
  repeat (first | apply ef_seq | (apply ef_mv; exact rfl; exact rfl) | (apply ef_bin; (iterate 3 exact rfl); (first | exact cmp_t rfl (by first | exact rfl | (simp only [cmpP]; omega)) | ((with_reducible refine bin_add (wrap_of ?_ ?_)) <;> omega))) | (apply ef_len; exact rfl; exact rfl; (assumption)) | (apply ef_ldr; exact rfl; exact rfl; (exact rfl)) | (apply ef_ldp; exact rfl; exact rfl; (exact rfl); exact rfl; (exact rfl); (exact rfl)) | (apply ef_ias; (iterate 3 exact rfl); (omega); assumption; exact rfl) | (apply ef_fap; exact rfl; exact rfl) | (apply ef_far; exact rfl; exact rfl) | (apply ef_mx; (iterate 3 exact rfl)) | (apply ef_vsl; exact rfl; (repeat (apply XVs.cons; exact rfl)); exact XVs.nil; exact rfl; exact rfl) | apply ef_nil | apply seqQ.normal | apply ef_block | apply ef_skip | (apply ef_condt; exact rfl; (exact (rfl : true = true))) | (apply ef_call; exact rfl; ((repeat (apply XVs.cons; exact rfl)); exact XVs.nil); (with_reducible exact w5 _)))
  (apply ef_app; (· exact rfl); (· exact rfl); (· exact rfl); (· exact rfl); (· exact rfl); (· exact rfl); (· (simp [lx'])); (· exact rfl); (· (simp [lx']; omega)); (· (exact rfl)); (· exact rfl))
  repeat (first | (apply ef_mv; exact rfl; exact rfl) | (apply ef_ldr; exact rfl; exact rfl; (exact rfl)) | (apply ef_ias; (iterate 3 exact rfl); (omega); assumption; exact rfl) | (apply ef_neg; exact rfl; exact rfl; exact wrap_of (by omega) (by omega)) | (apply ef_vsl; exact rfl; (repeat (apply XVs.cons; exact rfl)); exact XVs.nil; exact rfl; exact rfl))
  (apply ef_app; (· exact rfl); (· exact rfl); (· exact rfl); (· exact rfl); (· exact rfl); (· exact rfl); (· (simp [ly'])); (· exact rfl); (· (simp [ly']; omega)); (· (exact rfl)); (· exact rfl))
  repeat (first | (apply ef_mv; exact rfl; exact rfl) | (apply ef_bin; (iterate 3 exact rfl); (((with_reducible refine bin_sub (wrap_of ?_ ?_)) <;> omega))) | (apply ef_ldr; exact rfl; exact rfl; (exact rfl)) | (apply ef_ias; (iterate 3 exact rfl); (omega); assumption; exact rfl) | (apply ef_vsl; exact rfl; (repeat (apply XVs.cons; exact rfl)); exact XVs.nil; exact rfl; exact rfl))
  (apply ef_app; (· exact rfl); (· exact rfl); (· exact rfl); (· exact rfl); (· exact rfl); (· exact rfl); (· (simp [lz'])); (· exact rfl); (· (simp [lz']; omega)); (· (exact rfl)); (· exact rfl))
  repeat (first | (apply ef_mv; exact rfl; exact rfl) | (apply ef_bin; (iterate 3 exact rfl); (((with_reducible refine bin_add (wrap_of ?_ ?_)) <;> omega))) | (apply ef_ne; exact rfl; exact rfl; (exact rfl)) | apply ef_nil | apply seqQ.normal | apply blockQ.normal)
  (refine loopQ.normal _ _ ⟨(i + 1, (if av > B then av else B), x ++ [I64 (c.df + v)], y ++ [I64 (0 - v)], z ++ [I64 (v - u)]), ⟨hlt, (by show 0 ≤ (if av > B then av else B); split <;> omega), (by show (if av > B then av else B) ≤ 10000; split <;> omega), fun j hj => by
   have hj : j < i + 1 := hj
   show absI (cAt a (j : Nat)) ≤ (if av > B then av else B)
   rcases Nat.lt_or_ge j i with h | h
   ·have := HJ.out j h; split <;> omega
   ·obtain rfl : j = i := by omega
    rw [hca, hva]; split <;> omega, by rw [HX.out, mrA, HD.out, hca]; simp, by rw [HY.out, opA, hca]; simp, by rw [HZ.out, rsA, hca, hcp]; simp⟩, (by first | (simp only; omega) | omega), ⟨by ((repeat (refine Hold.cons (by exact rfl) ?_)); exact Hold.nil), by ((repeat (refine Hold.cons (by exact rfl) ?_)); exact Hold.nil)⟩, .inr ⟨by ((repeat (refine hdl_cons rfl (by first | rfl | (simp [MV.lt, ltL, ltL_Ln, ltL_Cr, ltL_I, tx, ty, tz, ltL_app2, splice, MV.cells])) ?_)); exact hdl_nil), by (simp [hltL, ltL, MV.lt, ltL, ltL_Ln, ltL_Cr, ltL_I, tx, ty, tz, ltL_app2, splice, MV.cells])⟩, by exact rfl⟩)
 ·obtain rfl : i = n.cs.length := by omega
  have HF := Bx.mk (fun (h1 : anE n.cs.length (mrA n.cs a n.cs.length) = 0) (h2 : anE n.cs.length (rsA a p n.cs.length) = 0) => feat hb h0 hae hpe h1 h2 hB0 hBj)
  have w6 : ∀ (xs : List Int) (hx : xs.length = n.cs.length) h v (hv : frz 0 [] h 8 v = some (.sl (xs.map I64))), orC LZ 13 7 [encN n, v] h = _ := fun xs hx h v hv => orC_of rfl (anErr_c 11 n xs (by omega) (by omega) h hv)
  have w7 := fun h => Copy_cc 13 n hb h
  have w8 : ∀ h, orC LZ 13 9 [encN n] h = _ := fun h => orC_of rfl (BestOf_c 6 n hb h0 h)
  have w9 : ∀ (xs : List Int) (hx : xs.length = n.cs.length) h v (hv : frz 0 [] h 8 v = some (.sl (xs.map I64))), orC LZ 13 12 [encN n, v] h = _ := fun xs hx h v hv => orC_of rfl (KeptOf_c 7 n hb xs (by omega) (by omega) h hv)
  have w10 : ∀ (xs : List Int) (hx : xs.length = n.cs.length) h, orC LZ 13 13 [.sl (xs.map I64)] h = _ := fun xs hx h => orC_of rfl (bCopyInts_c 13 xs h (v := .sl (xs.map I64)) (by omega) (frz_sl (ltL_I 0 xs)))
  have w11 : ∀ h, orC LZ 13 14 [encN n] h = _ := fun h => orC_of rfl (LimitOf_c 7 n hb h)
  have w12 : ∀ z (hz : 0 ≤ z ∧ z ≤ 1099511627776) h, orC LZ 13 15 [I64 z, I64 0, I64 1099511627776] h = some (Bo true, h) := fun z hz h => orC_of rfl (Within_c 13 _ _ _ h (inB_iff.2 hz))
  have w13 : ∀ h, orC LZ 13 11 [encN n, .sl ((mrA n.cs a n.cs.length).map I64)] h = _ := fun h => orC_of rfl (rWithN_c 12 n hb l1 (by omega) _ lx h)
  have hlw := fun (m : List Int) (h1 : joE (nW n m) = 0) (hB : BdN (nW n m)) => (fun h => orC_of rfl (BestOf_c 6 _ hB h1 h) : ∀ h, orC LZ 13 9 [encN (nW n m)] h = _)
  have hll := fun (m : List Int) (hB : BdN (nW n m)) => (fun h => orC_of rfl (LimitOf_c 7 _ hB h) : ∀ h, orC LZ 13 14 [encN (nW n m)] h = _)
  generalize mrA n.cs a n.cs.length = mr at *
  generalize rsA a p n.cs.length = rs at *
  generalize opA a n.cs.length = op at *
  have w6m := w6 mr lx
  have w6r := w6 rs lz
  by_cases hm : anE n.cs.length mr = 0
  rotate_left
  ·generalize anE n.cs.length mr = e at *
   repeat (first | apply ef_seq | (apply ef_mv; exact rfl; exact rfl) | (apply ef_bin; (iterate 3 exact rfl); (exact cmp_f rfl (by simp only [cmpP]; omega))) | (apply ef_len; exact rfl; exact rfl; (assumption)) | (apply ef_ldp; exact rfl; exact rfl; (exact rfl); exact rfl; (exact rfl); (exact rd_2 rfl rfl)) | apply ef_nil | apply seqQ.normal | apply loopQ.exit | apply ef_exit | apply seqQ.exit | apply blockQ.here | (apply ef_condf; exact rfl; (exact (rfl : false = false))))
   (apply ef_call; (· exact rfl); (· ((repeat (apply XVs.cons; exact rfl)); exact XVs.nil)); · exact w6m _ _ (frz_row (o := ⟨n.cs.length, decide (n.cs.length = 0), 1, x⟩) rfl rfl (by simp [lx]) (ltL_I 0 _) hx))
   repeat (first | apply ef_seq | (apply ef_mv; exact rfl; exact rfl) | (apply ef_bin; (iterate 3 exact rfl); (exact cmp_t rfl (by first | exact rfl | (simp only [cmpP]; omega)))) | (apply ef_gn; exact rfl; (exact (rfl : true = true)); exact rfl) | (apply ef_pick; (iterate 3 exact rfl)) | apply ef_nil | apply seqQ.normal | apply ef_ret | apply seqQ.ret | (apply ef_condt; exact rfl; (exact (rfl : true = true))))
   (refine fin1 rfl (by exact rfl) rfl ?_)
   rfl
  by_cases hr : anE n.cs.length rs = 0
  rotate_left
  ·rw [hm] at w6m
   generalize anE n.cs.length rs = e at *
   repeat (first | apply ef_seq | (apply ef_mv; exact rfl; exact rfl) | (apply ef_bin; (iterate 3 exact rfl); (exact cmp_f rfl (by simp only [cmpP]; omega))) | (apply ef_len; exact rfl; exact rfl; (assumption)) | (apply ef_ldp; exact rfl; exact rfl; (exact rfl); exact rfl; (exact rfl); (exact rd_2 rfl rfl)) | apply ef_nil | apply seqQ.normal | apply loopQ.exit | apply ef_exit | apply seqQ.exit | apply blockQ.here | (apply ef_condf; exact rfl; (exact (rfl : false = false))))
   (apply ef_call; (· exact rfl); (· ((repeat (apply XVs.cons; exact rfl)); exact XVs.nil)); · exact w6m _ _ (frz_row (o := ⟨n.cs.length, decide (n.cs.length = 0), 1, x⟩) rfl rfl (by simp [lx]) (ltL_I 0 _) hx))
   repeat (first | (apply ef_mv; exact rfl; exact rfl) | (apply ef_bin; (iterate 3 exact rfl); (exact cmp_f rfl (by simp only [cmpP]; omega))) | (apply ef_gy; exact rfl; (exact (rfl : false = false))) | (apply ef_ldp; exact rfl; exact rfl; (exact rfl); exact rfl; (exact rfl); (exact rd_2 rfl rfl)))
   (apply ef_call; (· exact rfl); (· ((repeat (apply XVs.cons; exact rfl)); exact XVs.nil)); · exact w6r _ _ (frz_row (o := ⟨n.cs.length, decide (n.cs.length = 0), 1, z⟩) rfl rfl (by simp [lz]) (ltL_I 0 _) hz))
   repeat (first | apply ef_seq | (apply ef_mv; exact rfl; exact rfl) | (apply ef_bin; (iterate 3 exact rfl); (exact cmp_t rfl (by first | exact rfl | (simp only [cmpP]; omega)))) | (apply ef_gy; exact rfl; (exact (rfl : false = false))) | (apply ef_pick; (iterate 3 exact rfl)) | apply ef_nil | apply seqQ.normal | apply ef_ret | apply seqQ.ret | (apply ef_condt; exact rfl; (exact (rfl : true = true))))
   (refine fin1 rfl (by exact rfl) rfl ?_)
   rfl
  rw [hm] at w6m
  rw [hr] at w6r
  have F := HF.out hm hr
  have w14 := hlw mr F.e1 F.b1
  have w15 := hll mr F.b1
  rw [F.n1] at w15
  rw [hn] at w11
  have w9a := w9 a la
  have w9p := w9 p lp
  have w9r := w9 rs lz
  have w9o := w9 op ly
  rw [F.ka, if_pos rfl, if_pos rfl] at w9a
  rw [F.kp, if_pos rfl, if_pos rfl] at w9p
  rw [F.kr, if_pos rfl, if_pos rfl] at w9r
  rw [F.ko, if_pos rfl, if_pos rfl, F.c2] at w9o
  obtain ⟨-, -, -, -, -, -, -, c1, -, c3, c4, d0, d1, d2, d3, d4, q0, q1⟩ := F
  have s1 := W5.out (minC n - minC (nW n mr)) (by omega) (by omega)
  have s2 := W5.out (limV n - limV (nW n mr)) (by omega) (by omega)
  have HC1 := Bx.mk c1
  have HC4 := Bx.mk c4
  generalize absI (minC n - minC (nW n mr)) = z1 at *
  generalize absI (limV n - limV (nW n mr)) = z2 at *
  have c1 := HC1.out
  have c4 := HC4.out
  clear HC1 HC4
  generalize minC n = g0 at *
  generalize minC (nW n mr) = g1 at *
  generalize kpV n a = g2 at *
  generalize kpV n p = g3 at *
  generalize kpV n rs = g4 at *
  generalize limV n = g5 at *
  generalize limV (nW n mr) = g6 at *
  have v0 := w12 g0 (by omega)
  have v1 := w12 g1 (by omega)
  have v2 := w12 g2 (by omega)
  have v3 := w12 g3 (by omega)
  have v4 := w12 g4 (by omega)
  have v5 := w12 g5 (by omega)
  have v6 := w12 g6 (by omega)
  have wa := w10 a la
  have wp := w10 p lp
  clear HF w6 w9 w10 w12 hlw hll W5
  subst hx
  repeat (first | apply ef_seq | (apply ef_mv; exact rfl; exact rfl) | (apply ef_bin; (iterate 3 exact rfl); (exact cmp_f rfl (by simp only [cmpP]; omega))) | (apply ef_len; exact rfl; exact rfl; (assumption)) | (apply ef_ldp; exact rfl; exact rfl; (exact rfl); exact rfl; (exact rfl); (exact rd_2 rfl rfl)) | apply ef_nil | apply seqQ.normal | apply loopQ.exit | apply ef_exit | apply seqQ.exit | apply blockQ.here | (apply ef_condf; exact rfl; (exact (rfl : false = false))))
  (apply ef_call; (· exact rfl); (· ((repeat (apply XVs.cons; exact rfl)); exact XVs.nil)); · exact w6m _ _ (frz_row (o := ⟨n.cs.length, decide (n.cs.length = 0), 1, mr.map I64⟩) rfl rfl (by simp [lx]) (ltL_I 0 _) rfl))
  repeat (first | (apply ef_mv; exact rfl; exact rfl) | (apply ef_bin; (iterate 3 exact rfl); (exact cmp_f rfl (by simp only [cmpP]; omega))) | (apply ef_gy; exact rfl; (exact (rfl : false = false))) | (apply ef_ldp; exact rfl; exact rfl; (exact rfl); exact rfl; (exact rfl); (exact rd_2 rfl rfl)))
  (apply ef_call; (· exact rfl); (· ((repeat (apply XVs.cons; exact rfl)); exact XVs.nil)); · exact w6r _ _ (frz_row (o := ⟨n.cs.length, decide (n.cs.length = 0), 1, z⟩) rfl rfl (by simp [lz]) (ltL_I 0 _) hz))
  repeat (first | apply ef_seq | (apply ef_mv; exact rfl; exact rfl) | (apply ef_bin; (iterate 3 exact rfl); (exact cmp_f rfl (by simp only [cmpP]; omega))) | (apply ef_gy; exact rfl; (exact (rfl : false = false))) | (apply ef_pick; (iterate 3 exact rfl)) | (apply ef_ldp; exact rfl; exact rfl; (exact rfl); exact rfl; (exact rfl); (exact rd_2 rfl rfl)) | (apply ef_ext; (iterate 3 exact rfl)) | apply ef_nil | apply seqQ.normal | apply ef_skip | (apply ef_condf; exact rfl; (exact (rfl : false = false))) | (apply ef_call; exact rfl; ((repeat (apply XVs.cons; exact rfl)); exact XVs.nil); (with_reducible first | exact w7 _ | exact w8 _)))
  refine ef_givev rfl (by exact rfl) (giveV_arrG (es := mr.map I64) rfl (by simp [lx]) (ltL_I 0 _) rfl) ?_
  repeat (first | apply ef_seq | (apply ef_mv; exact rfl; exact rfl) | (apply ef_ldp; exact rfl; exact rfl; (exact rfl); exact rfl; (exact rfl); (exact rd_2 rfl rfl)) | (apply ef_ext; (iterate 3 exact rfl)) | apply ef_nil | apply seqQ.normal | (apply ef_call; exact rfl; ((repeat (apply XVs.cons; exact rfl)); exact XVs.nil); (with_reducible first | exact w13 _ | exact w14 _ | exact w7 _ | exact wa _)))
  (apply ef_call; (· exact rfl); (· ((repeat (apply XVs.cons; exact rfl)); exact XVs.nil)); · exact w9a _ _ (frz_row (o := ⟨0, false, 1, a.map I64⟩) rfl rfl (by simp [la]) (ltL_I 0 _) rfl))
  repeat (first | apply ef_seq | (apply ef_mv; exact rfl; exact rfl) | (apply ef_ldp; exact rfl; exact rfl; (exact rfl); exact rfl; (exact rfl); (exact rd_2 rfl rfl)) | (apply ef_ext; (iterate 3 exact rfl)) | apply ef_nil | apply seqQ.normal | (apply ef_call; exact rfl; ((repeat (apply XVs.cons; exact rfl)); exact XVs.nil); (with_reducible exact w7 _)))
  (apply ef_call; (· exact rfl); (· ((repeat (apply XVs.cons; exact rfl)); exact XVs.nil)); · exact w9o _ _ (frz_row (o := ⟨n.cs.length, decide (n.cs.length = 0), 1, y⟩) rfl rfl (by simp [ly]) (ltL_I 0 _) hy))
  repeat (first | apply ef_seq | (apply ef_mv; exact rfl; exact rfl) | (apply ef_ldp; exact rfl; exact rfl; (exact rfl); exact rfl; (exact rfl); (exact rd_2 rfl rfl)) | (apply ef_ext; (iterate 3 exact rfl)) | apply ef_nil | apply seqQ.normal | (apply ef_call; exact rfl; ((repeat (apply XVs.cons; exact rfl)); exact XVs.nil); (with_reducible first | exact w7 _ | exact wp _)))
  (apply ef_call; (· exact rfl); (· ((repeat (apply XVs.cons; exact rfl)); exact XVs.nil)); · exact w9p _ _ (frz_row (o := ⟨0, false, 1, p.map I64⟩) rfl rfl (by simp [lp]) (ltL_I 0 _) rfl))
  repeat (first | apply ef_seq | (apply ef_mv; exact rfl; exact rfl) | (apply ef_ldp; exact rfl; exact rfl; (exact rfl); exact rfl; (exact rfl); (exact rd_2 rfl rfl)) | (apply ef_ext; (iterate 3 exact rfl)) | apply ef_nil | apply seqQ.normal | (apply ef_call; exact rfl; ((repeat (apply XVs.cons; exact rfl)); exact XVs.nil); (with_reducible exact w7 _)))
  (apply ef_call; (· exact rfl); (· ((repeat (apply XVs.cons; exact rfl)); exact XVs.nil)); · exact w9r _ _ (frz_row (o := ⟨n.cs.length, decide (n.cs.length = 0), 1, z⟩) rfl rfl (by simp [lz]) (ltL_I 0 _) hz))
  repeat (first | apply ef_seq | (apply ef_mv; exact rfl; exact rfl) | (apply ef_bin; (iterate 3 exact rfl); (first | exact cmp_t rfl (by first | exact rfl | (simp only [cmpP]; omega)) | exact cmp_f rfl (by simp only [cmpP]; omega) | ((with_reducible refine bin_add (wrap_of ?_ ?_)) <;> omega) | ((with_reducible refine bin_sub (wrap_of ?_ ?_)) <;> omega))) | (apply ef_gy; exact rfl; (first | exact (rfl : true = true) | exact (rfl : false = false))) | (apply ef_pick; (iterate 3 exact rfl)) | (apply ef_ldp; exact rfl; exact rfl; (exact rfl); exact rfl; (exact rfl); (exact rd_2 rfl rfl)) | (apply ef_notT; exact rfl; exact rfl) | (apply ef_ext; (iterate 3 exact rfl)) | apply ef_nil | apply seqQ.normal | apply ef_ret | apply ef_skip | (apply ef_condf; exact rfl; (exact (rfl : false = false))) | (apply ef_call; exact rfl; ((repeat (apply XVs.cons; exact rfl)); exact XVs.nil); (with_reducible first | exact w7 _ | exact w11 _ | exact w13 _ | exact w15 _ | exact v0 _ | exact v1 _ | exact v2 _ | exact v3 _ | exact v4 _ | exact v5 _ | exact v6 _ | exact s1 _ | exact s2 _)))
  (refine fin1 rfl (by exact rfl) rfl ?_)
  rfl
end Go.Proofs.YtfchdbghjeophaaDoor
