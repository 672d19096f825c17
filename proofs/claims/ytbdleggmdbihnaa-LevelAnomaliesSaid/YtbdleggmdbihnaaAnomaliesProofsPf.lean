/- LevelAnomalies: the walk. -/
import Derived.Test.YtbdleggmdbihnaaAnomaliesProofsPe
/- The flow of a net: the walk. -/
namespace Go.Proofs.Ytbdleggmdbihnaa
open Go.RowKit
set_option linter.unusedVariables false
set_option linter.unusedSimpArgs false
theorem upL_mem : ∀ (m : Nat), ∀ v ∈ upL m, 0 ≤ v ∧ v < (m : Int)
  | 0, v, h => by simp [upL] at h
  | m + 1, v, h => by
    rw [upL, List.mem_append, List.mem_singleton] at h
    rcases h with h | rfl
    · have := upL_mem m v h; omega
    · omega
theorem lg_out {m : Nat} {ar : List Ac} {B : Int} {fs : List Int} (hB : 0 ≤ B) (hO : ∀ a ∈ ar, OkA m B a) :
    (lgC ar m fs = [] ∧ (∃ q t, q < m + 1 ∧ LgI ar m B (srcL m fs) q ar.length t (lgS ar m fs).1) ∧ ∀ a ∈ ar, cAt (lgS ar m fs).1.L a.fr > -549755813888 → cAt (lgS ar m fs).1.L a.fr + a.ln ≤ cAt (lgS ar m fs).1.L a.tv) ∨
    (∃ P c p, lgC ar m fs = cycL ar P c p ∧ CycOk ar m P c p) := by
  have hinit : LgI ar m B (srcL m fs) 0 0 (fun _ => 0) ⟨srcL m fs, List.replicate m 0, -1⟩ := LgI.init (srcU_len m fs fs.length) (srcU_bd m fs fs.length)
  obtain ⟨g1, g2⟩ := lgR_ok hB hO (m + 1) 0 _ ⟨srcL m fs, List.replicate m 0, -1⟩ hinit
  cases h : (lgS ar m fs).2
  · obtain ⟨t, a1, a2⟩ := g2 h (by omega)
    rw [show 0 + (m + 1) - 1 = m by omega] at a1
    refine .inr ⟨_, _, _, ?_, cyc_ok a1 hO a2⟩
    unfold lgC; rw [h]; rfl
  · obtain ⟨q, t, hq, a1, a2⟩ := g1 h
    refine .inl ⟨?_, ⟨q, t, by omega, a1⟩, a2⟩
    unfold lgC; rw [h]; rfl
abbrev flC (n : Nt) (fl : List Int) : List Ac := lgC (arcsU n.cs fl n.cs.length) n.ls.length (upL n.ls.length)
def flF (n : Nt) : Nat → List Int → List Int
  | 0, fl => fl
  | f + 1, fl => if flC n fl = [] then fl else flF n f (chgL (minB n fl (flC n fl)) fl (flC n fl))
theorem FlOk.bd10 {n : Nt} (ok : OkN n) {fl : List Int} (h : FlOk n fl) : ∀ z ∈ fl, -10 ≤ z ∧ z ≤ 10 := fun z hz => by
  obtain ⟨i, hi, rfl⟩ := List.getElem_of_mem hz
  have hl := h.len
  have h1 := h.bd i (by omega)
  have h2 := (ok.rg n.cs[i] (List.getElem_mem (by omega))).wt
  have e : cAt fl (i : Int) = fl[i] := by unfold cAt; rw [Int.toNat_natCast, List.getD_eq_getElem?_getD, List.getElem?_eq_getElem hi]; rfl
  omega
theorem cAt_zer (m : Nat) (v : Int) : cAt (List.replicate m (0 : Int)) v = 0 := by
  unfold cAt
  rw [List.getD_eq_getElem?_getD, List.getElem?_replicate]
  split <;> rfl
theorem att_zero (x : Cr) (v : Int) : att x v 0 = 0 := by unfold att; simp
theorem fl_zero {n : Nt} (ok : OkN n) : FlOk n (List.replicate n.cs.length 0) := by
  refine ⟨by simp, fun i h => ?_, fun v => ?_⟩
  · rw [cAt_zer]
    have := (ok.rg n.cs[i] (List.getElem_mem h)).wt
    omega
  · have : ∀ i, sumV n.cs (List.replicate n.cs.length 0) v i = 0 := fun i => by
      induction i with
      | zero => rfl
      | succ i ih => rw [sumV, ih, cAt_zer, att_zero]; rfl
    exact this _
theorem val_zero (n : Nt) : ∀ i, valU n.cs (List.replicate n.cs.length 0) i = 0
  | 0 => rfl
  | i + 1 => by rw [valU, val_zero n i, cAt_zer]; simp
theorem arcsU_len16 {n : Nt} (ok : OkN n) (fl : List Int) : (arcsU n.cs fl n.cs.length).length ≤ 64 := by
  have := arcsU_len n.cs fl n.cs.length
  have := ok.c16
  omega
theorem fl_step {n : Nt} (ok : OkN n) {fl : List Int} (hf : FlOk n fl) (hC : flC n fl ≠ []) : FlOk n (chgL (minB n fl (flC n fl)) fl (flC n fl)) ∧ valU n.cs fl n.cs.length < valU n.cs (chgL (minB n fl (flC n fl)) fl (flC n fl)) n.cs.length := by
  rcases lg_out (m := n.ls.length) (fs := upL n.ls.length) (show (0 : Int) ≤ 10000 by omega) (fun a ha => (arcsU_ok (fl := fl) n.cs.length (Nat.le_refl _) a ha).okA ok) with ⟨h, -⟩ | ⟨P, c, p, h, H⟩
  · exact absurd h hC
  · rw [show flC n fl = _ from h]
    exact chg_fl ok hf H
theorem fl_val {n : Nt} (ok : OkN n) {fl : List Int} (hf : FlOk n fl) : valU n.cs fl n.cs.length ≤ 1600000 := by
  have h1 := (valU_bd ok (hf.bd10 ok) n.cs.length (Nat.le_refl _)).2
  have := ok.c16
  omega
theorem flF_ok {n : Nt} (ok : OkN n) : ∀ (f : Nat) (fl : List Int), FlOk n fl → (2000000 - valU n.cs fl n.cs.length).toNat < f → FlOk n (flF n f fl) ∧ flC n (flF n f fl) = []
  | 0, fl, hf, h => by omega
  | f + 1, fl, hf, h => by
    unfold flF
    split
    · rename_i hC; exact ⟨hf, hC⟩
    · rename_i hC
      obtain ⟨h1, h2⟩ := fl_step ok hf hC
      have := fl_val ok h1
      exact flF_ok ok f _ h1 (by omega)
abbrev flZ (n : Nt) : List Int := flF n 4000000 (List.replicate n.cs.length 0)
theorem flZ_ok {n : Nt} (ok : OkN n) : FlOk n (flZ n) ∧ flC n (flZ n) = [] := flF_ok ok _ _ (fl_zero ok) (by rw [val_zero]; simp)
theorem cyc_at {C : List Ac} {ar : List Ac} {P : List Int} {c : Int} {p j : Nat} (hC : C = cycL ar P c p) (hj : j < p) : (C.map encA)[0 + ((j : Nat) : Int).toNat]? = some (encA (arcP ar P (bkN ar P j c))) := by
  rw [hC, Nat.zero_add, Int.toNat_natCast, List.getElem?_map]
  unfold cycL
  rw [List.getElem?_map, List.getElem?_range hj]; rfl
abbrev flH (n : Nt) (rs : List MV) : MHeap := [⟨0, false, 2, [encN n]⟩, ⟨0, true, 1, []⟩, ⟨0, false, 1, rs⟩]
abbrev flH2 (n : Nt) (fl : List Int) (rs : List MV) (C : List Ac) (p : Nat) : MHeap := flH n rs ++ [⟨0, decide ((arcsU n.cs fl n.cs.length).length = 0), 5, (arcsU n.cs fl n.cs.length).map encA⟩, ⟨0, decide (n.ls.length = 0), 1, (upL n.ls.length).map I64⟩, ⟨0, false, 1, (lgS (arcsU n.cs fl n.cs.length) n.ls.length (upL n.ls.length)).1.L.map I64⟩, ⟨0, decide (p + 1 = 0), 5, C.map encA⟩]
theorem cr_at {n : Nt} {a : Ac} (h0 : 0 ≤ a.cr) (h1 : a.cr < (n.cs.length : Int)) : (n.cs.map encCr)[a.cr.toNat]? = some (encCr (n.cs.getD a.cr.toNat default)) := by
  have h : a.cr.toNat < n.cs.length := by omega
  rw [List.getElem?_map, List.getD_eq_getElem?_getD, List.getElem?_eq_getElem h]; rfl
theorem min_snoc (n : Nt) (fl : List Int) (b : Int) (C : List Ac) (a : Ac) : (C ++ [a]).foldl (minA n fl) b = min (C.foldl (minA n fl) b) ((n.cs.getD a.cr.toNat default).wt - a.sg * cAt fl a.cr) := by rw [List.foldl_append]; rfl
theorem mn_min (a b : Int) : mn a b = min a b := by unfold mn; omega
theorem mf_flow : MT.mf 44 = some mfW_l44 := mfW_q44
set_option maxHeartbeats 4000000 in
theorem flow_z (k : Nat) (n : Nt) (ok : OkN n) :
    runZ MT (orA (k + 5)) (itA (k + 5)) 4000000 44 [encN n] [] = some (.arr 0 0 n.cs.length 0, [⟨0, false, 1, (flZ n).map I64⟩]) := by
  have hs1 : (MV.sl (n.ls.map encLn)).slen = some n.ls.length := by simp [MV.slen]
  have hs2 : (MV.sl (n.cs.map encCr)).slen = some n.cs.length := by simp [MV.slen]
  have l1 := ok.l1
  have l8 := ok.l8
  have c16 := ok.c16
  have w1 := fun h => all_c (k + 4) n (by omega) h
  refine runZ_of mf_flow (by simp [mfW_l44]) ?_
  simp only [mfW_l44, argsL]
  repeat (first | apply ef_seq | (apply ef_mv; exact rfl; exact rfl) | (apply ef_len; exact rfl; exact rfl; (assumption)) | (apply ef_ldp; exact rfl; exact rfl; (exact rfl); exact rfl; (exact rfl); (exact rfl)) | (apply ef_fap; exact rfl; exact rfl) | (apply ef_box; exact rfl; exact rfl; exact rfl; exact rfl) | (apply ef_nil0; exact rfl) | (apply ef_mks; exact rfl; exact rfl; (omega); (omega)) | apply ef_nil | apply seqQ.normal | apply ef_block)
  refine ef_loopf (α := Nat × List Int × List MV) (fun p => p.2.2 = p.2.1.map I64 ∧ FlOk n p.2.1 ∧ flZ n = flF n p.1 p.2.1 ∧ (2000000 - valU n.cs p.2.1 n.cs.length).toNat < p.1) (fun _ => []) [(1, .ptr 0 0 0 0), (3, .arr 2 0 n.cs.length 0)] (fun p => flH n p.2.2) (fun p => (2000000 - valU n.cs p.2.1 n.cs.length).toNat) (4000000, List.replicate n.cs.length 0, List.replicate n.cs.length (I64 0)) [] (fun _ => rfl) (by ((repeat (refine Hold.cons (by exact rfl) ?_)); exact Hold.nil)) (by ((repeat (refine Hold.cons (by exact rfl) ?_)); exact Hold.nil)) rfl rfl ⟨by simp, fl_zero ok, rfl, by rw [val_zero]; simp⟩ (by rw [val_zero]; simp) ?_
  rintro ⟨f, fl, rs⟩ ⟨hrs, hf, hZ, hm⟩
  try simp only at hrs hf hZ hm ⊢
  have hlr : ∀ j, ltL j rs = true := fun j => by rw [hrs]; exact ltL_I j _
  have hlen := hf.len
  obtain ⟨f, rfl⟩ : ∃ g, f = g + 1 := ⟨f - 1, by omega⟩
  rw [flF] at hZ
  have hout := lg_out (m := n.ls.length) (fs := upL n.ls.length) (show (0 : Int) ≤ 10000 by omega) (fun a ha => (arcsU_ok (fl := fl) n.cs.length (Nat.le_refl _) a ha).okA ok)
  have w2 := fun h v w hv hw => longest_c k n.ls.length l1 l8 (arcsU n.cs fl n.cs.length) 10000 (by omega) (by omega) (fun a ha => (arcsU_ok (fl := fl) n.cs.length (Nat.le_refl _) a ha).okA ok) (arcsU_len16 ok fl) (upL n.ls.length) (upL_mem _) (by rw [upL_len]; omega) h (v := v) (w := w) hv hw
  rcases hout with ⟨hC, -⟩ | ⟨P, c, p, hC, H⟩
  · have hZ2 : flZ n = fl := by rw [hZ, show flC n fl = [] from hC, if_pos rfl]
    rw [hC] at w2
    repeat (first | apply ef_seq | (apply ef_mv; exact rfl; exact rfl) | (apply ef_len; exact rfl; exact rfl; (assumption)) | (apply ef_ldp; exact rfl; exact rfl; (exact rfl); exact rfl; (exact rfl); (first | exact rd_2 rfl rfl | exact rfl)) | (apply ef_fap; exact rfl; exact rfl) | apply ef_block)
    (apply ef_call; (· exact rfl); (· ((repeat (apply XVs.cons; exact rfl)); exact XVs.nil)); · exact arcs_c (k + 4) n ok fl hlen _ (frz_row (o := ⟨0, false, 1, rs⟩) rfl rfl (by simp [hlen]) (by rw [← hrs]; exact hlr 0) hrs))
    repeat (first | (apply ef_ldp; exact rfl; exact rfl; (exact rfl); exact rfl; (exact rfl); (exact rd_2 rfl rfl)) | (apply ef_call; exact rfl; ((repeat (apply XVs.cons; exact rfl)); exact XVs.nil); (with_reducible exact w1 _)))
    (apply ef_call; (· exact rfl); (· ((repeat (apply XVs.cons; exact rfl)); exact XVs.nil)); · exact w2 _ _ _ (frz_row (o := ⟨0, decide ((arcsU n.cs fl n.cs.length).length = 0), 5, (arcsU n.cs fl n.cs.length).map encA⟩) rfl rfl (by simp) (ltL_A 0 _) rfl) (frz_row (o := ⟨0, decide (n.ls.length = 0), 1, (upL n.ls.length).map I64⟩) rfl rfl (by simp [upL_len]) (ltL_I 0 _) rfl))
    repeat (first | apply ef_seq | (apply ef_mv; exact rfl; exact rfl) | (apply ef_ext; exact rfl; exact rfl; exact rfl) | apply ef_nil | apply seqQ.normal)
    refine ef_eqna (ht := by exact rfl) (by exact rfl) (by exact rfl) (by exact rfl) (by exact Nat.le_refl _) ?_
    repeat (first | apply ef_seq | (apply ef_mv; exact rfl; exact rfl) | apply ef_nil | apply seqQ.normal | apply loopQ.ret | apply ef_ret | apply seqQ.ret | apply blockQ.ret | (apply ef_condt; exact rfl; (exact (rfl : true = true))))
    (apply fin_arr; (· exact rfl); (· exact rfl); (· exact rfl); (· exact rfl); (· (show 0 + _ ≤ rs.length; rw [hrs]; simp [hlen])); (· (exact hlr 0)); (· (show (rs.drop 0).take _ = _; rw [hZ2, List.drop_zero, List.take_of_length_le (by rw [hrs]; simp [hlen]), hrs])); (· exact rfl); (· exact rfl); (· rfl))
  · have hp0 := H.p0
    have hpm := H.pm
    have hCl : (lgC (arcsU n.cs fl n.cs.length) n.ls.length (upL n.ls.length)).length = p := by rw [hC, cycL_len]
    obtain ⟨p, rfl⟩ : ∃ q, p = q + 1 := ⟨p - 1, by omega⟩
    have hCn : flC n fl ≠ [] := fun e => by
      rw [show flC n fl = lgC (arcsU n.cs fl n.cs.length) n.ls.length (upL n.ls.length) from rfl] at e
      rw [e] at hCl; cases hCl
    rw [if_neg hCn] at hZ
    obtain ⟨hf2, hv2⟩ := fl_step ok hf hCn
    have hv3 := fl_val ok hf2
    rw [hCl] at w2
    obtain ⟨C, hCd⟩ : ∃ C, lgC (arcsU n.cs fl n.cs.length) n.ls.length (upL n.ls.length) = C := ⟨_, rfl⟩
    rw [hCd] at w2 hC hCl
    rw [show flC n fl = C from hCd] at hZ hf2 hv2 hv3
    have hlt2 : ∀ j, ltL j ((lgS (arcsU n.cs fl n.cs.length) n.ls.length (upL n.ls.length)).1.L.map I64) = true := fun j => ltL_I j _
    have hAr : ∀ i, i < p + 1 → ArcOk n fl (arcP (arcsU n.cs fl n.cs.length) P (bkN (arcsU n.cs fl n.cs.length) P i c)) := fun i hi => arcsU_ok _ (Nat.le_refl _) _ (H.inn i hi).2.1
    repeat (first | apply ef_seq | (apply ef_mv; exact rfl; exact rfl) | (apply ef_len; exact rfl; exact rfl; (assumption)) | (apply ef_ldp; exact rfl; exact rfl; (exact rfl); exact rfl; (exact rfl); (first | exact rd_2 rfl rfl | exact rfl)) | (apply ef_fap; exact rfl; exact rfl) | apply ef_block)
    (apply ef_call; (· exact rfl); (· ((repeat (apply XVs.cons; exact rfl)); exact XVs.nil)); · exact arcs_c (k + 4) n ok fl hlen _ (frz_row (o := ⟨0, false, 1, rs⟩) rfl rfl (by simp [hlen]) (by rw [← hrs]; exact hlr 0) hrs))
    repeat (first | (apply ef_ldp; exact rfl; exact rfl; (exact rfl); exact rfl; (exact rfl); (exact rd_2 rfl rfl)) | (apply ef_call; exact rfl; ((repeat (apply XVs.cons; exact rfl)); exact XVs.nil); (with_reducible exact w1 _)))
    (apply ef_call; (· exact rfl); (· ((repeat (apply XVs.cons; exact rfl)); exact XVs.nil)); · exact w2 _ _ _ (frz_row (o := ⟨0, decide ((arcsU n.cs fl n.cs.length).length = 0), 5, (arcsU n.cs fl n.cs.length).map encA⟩) rfl rfl (by simp) (ltL_A 0 _) rfl) (frz_row (o := ⟨0, decide (n.ls.length = 0), 1, (upL n.ls.length).map I64⟩) rfl rfl (by simp [upL_len]) (ltL_I 0 _) rfl))
    repeat (first | apply ef_seq | (apply ef_mv; exact rfl; exact rfl) | (apply ef_ext; exact rfl; exact rfl; exact rfl) | apply ef_nil | apply seqQ.normal)
    refine ef_eqna (ht := by exact rfl) (by exact rfl) (by exact rfl) (by exact rfl) (by show 0 + (p + 1) ≤ (List.map encA C).length; simp [hCl]) ?_
    repeat (first | apply ef_seq | (apply ef_mv; exact rfl; exact rfl) | (apply ef_len; exact rfl; exact rfl; (exact rfl)) | apply ef_nil | apply seqQ.normal | apply ef_block | apply ef_skip | (apply ef_condf; exact rfl; (exact (rfl : false = false))))
    refine ef_loopf (α := Nat × Int) (fun q => q.1 ≤ p + 1 ∧ q.2 = (cycL (arcsU n.cs fl n.cs.length) P c q.1).foldl (minA n fl) 20) (fun q => [(34, I64 (q.1 : Int)), (6, I64 q.2)]) [(33, I64 ((p + 1 : Nat) : Int)), (32, .arr 6 0 (p + 1) 0), (1, .ptr 0 0 0 0), (3, .arr 2 0 n.cs.length 0), (5, .arr 6 0 (p + 1) 0)] (fun _ => flH2 n fl rs C p) (fun q => p + 1 - q.1) (0, 20) [34, 6] (fun _ => rfl) (by ((repeat (refine Hold.cons (by exact rfl) ?_)); exact Hold.nil)) (by ((repeat (refine Hold.cons (by exact rfl) ?_)); exact Hold.nil)) rfl rfl ⟨by omega, rfl⟩ (by simp; omega) ?_
    rintro ⟨j, b⟩ ⟨hj, hb⟩
    try simp only at hj hb ⊢
    by_cases hlj : j < p + 1
    · have e1 := cyc_at hC hlj
      have ha := hAr j hlj
      have hmb := min_ok n fl (cycL (arcsU n.cs fl n.cs.length) P c j) 20 (fun a ha => by
        obtain ⟨i, hi, rfl⟩ := List.mem_map.1 ha
        exact hAr i (by have : i < j := by simpa using hi
                        omega)) (by omega) (by omega)
      obtain ⟨mb1, mb2, -⟩ := hmb
      rw [← hb] at mb1 mb2
      have HN := Lib.hid (show (cycL (arcsU n.cs fl n.cs.length) P c (j + 1)).foldl (minA n fl) 20 = min ((cycL (arcsU n.cs fl n.cs.length) P c j).foldl (minA n fl) 20) ((n.cs.getD (arcP (arcsU n.cs fl n.cs.length) P (bkN (arcsU n.cs fl n.cs.length) P j c)).cr.toNat default).wt - (arcP (arcsU n.cs fl n.cs.length) P (bkN (arcsU n.cs fl n.cs.length) P j c)).sg * cAt fl (arcP (arcsU n.cs fl n.cs.length) P (bkN (arcsU n.cs fl n.cs.length) P j c)).cr) by rw [cyc_snoc, min_snoc])
      generalize arcP (arcsU n.cs fl n.cs.length) P (bkN (arcsU n.cs fl n.cs.length) P j c) = a at e1 ha HN
      have a0 := ha.c0
      have a1 := ha.c1
      have e2 := cr_at a0 a1
      have e3 := lit_at hrs hlen a0 a1
      have hx := ok.rg _ (getD_mem a0 a1)
      have hfb := hf.bd a.cr.toNat (by omega)
      rw [show ((a.cr.toNat : Nat) : Int) = a.cr by omega] at hfb
      have hget : n.cs[a.cr.toNat] = n.cs.getD a.cr.toNat default := by rw [List.getD_eq_getElem?_getD, List.getElem?_eq_getElem (show a.cr.toNat < n.cs.length by omega)]; rfl
      rw [hget] at hfb
      have hsg : a.sg = 1 ∨ a.sg = -1 := by rcases ha.dir with ⟨s, -⟩ | ⟨s, -⟩ <;> omega
      generalize n.cs.getD a.cr.toNat default = x at e2 hx HN hfb
      have hw := hx.wt
      generalize cAt fl a.cr = g at e3 HN hfb
      have m1 := mul_w (a := a.sg) (b := g) 1 10 (by omega) (by omega) (by omega) (by omega) (by omega)
      have m2 := mul_bd (a := a.sg) (b := g) (A := 1) (B := 10) (by omega) (by omega) (by omega) (by omega)
      repeat (first | apply ef_seq | (apply ef_mv; exact rfl; exact rfl) | (apply ef_bin; exact rfl; exact rfl; exact rfl; (first | exact cmp_t rfl (by first | exact rfl | (simp only [cmpP]; omega)) | ((with_reducible refine bin_add (wrap_of ?_ ?_)) <;> omega) | ((with_reducible refine bin_sub (wrap_of ?_ ?_)) <;> omega) | ((with_reducible refine bin_mul (wrap_of ?_ ?_)) <;> omega))) | (apply ef_ldr; exact rfl; exact rfl; (exact rfl)) | (apply ef_ldp; exact rfl; exact rfl; (exact rfl); exact rfl; (first | exact rfl | assumption); (first | exact rd_5 rfl rfl rfl rfl rfl | exact rfl)) | (apply ef_ias; exact rfl; exact rfl; exact rfl; (omega); assumption; exact rfl) | (apply ef_iaa; exact rfl; exact rfl; exact rfl; (omega); (omega); (exact rfl)) | (apply ef_fap; exact rfl; exact rfl) | (apply ef_far; exact rfl; exact rfl) | (apply ef_mn; exact rfl; exact rfl; exact rfl) | (apply ef_new; exact rfl) | (apply ef_st; exact rfl; exact rfl; exact rfl; exact rfl; exact rfl; exact rfl; (exact rfl); exact rfl) | apply ef_nil | apply seqQ.normal | apply blockQ.normal | apply ef_block | apply ef_skip | (apply ef_condt; exact rfl; (exact (rfl : true = true))))
      (refine loopQ.normal _ _ ⟨(j + 1, mn b (x.wt - a.sg * g)), ⟨hlj, by rw [HN.out, hb]; exact mn_min _ _⟩, (by first | (simp only; omega) | omega), ⟨by ((repeat (refine Hold.cons (by exact rfl) ?_)); exact Hold.nil), by ((repeat (refine Hold.cons (by exact rfl) ?_)); exact Hold.nil)⟩, .inr ⟨by ((repeat (refine hdl_cons rfl (by first | rfl | (simp [MV.lt, ltL, ltL_A, ltL_I, ltL_Ln, ltL_Cr, hlr, hlt2, splice, MV.cells])) ?_)); exact hdl_nil), by (simp [hltL, ltL, MV.lt, ltL, ltL_A, ltL_I, ltL_Ln, ltL_Cr, hlr, hlt2, splice, MV.cells])⟩, by exact rfl⟩)
    · obtain rfl : j = p + 1 := by omega
      have hmb := min_ok n fl C 20 (fun a ha => by
        rw [hC] at ha
        obtain ⟨i, hi, rfl⟩ := List.mem_map.1 ha
        exact hAr i (by simpa using hi)) (by omega) (by omega)
      obtain ⟨mb1, mb2, -⟩ := hmb
      rw [← hC] at hb
      rw [← hb] at mb1 mb2
      rw [show minB n fl C = b from hb.symm] at hZ hf2 hv2 hv3
      repeat (first | apply ef_seq | (apply ef_mv; exact rfl; exact rfl) | (apply ef_bin; exact rfl; exact rfl; exact rfl; (exact cmp_f rfl (by simp only [cmpP]; omega))) | (apply ef_len; exact rfl; exact rfl; (exact rfl)) | apply ef_nil | apply seqQ.normal | apply loopQ.exit | apply ef_exit | apply seqQ.exit | apply blockQ.here | apply ef_block | (apply ef_condf; exact rfl; (exact (rfl : false = false))))
      refine ef_loopf (α := Nat × List Int × List MV) (fun q => q.1 ≤ p + 1 ∧ q.2.1 = chgL b fl (cycL (arcsU n.cs fl n.cs.length) P c q.1) ∧ q.2.2 = q.2.1.map I64) (fun q => [(60, I64 (q.1 : Int))]) [(59, I64 ((p + 1 : Nat) : Int)), (58, .arr 6 0 (p + 1) 0), (3, .arr 2 0 n.cs.length 0), (6, I64 b), (1, .ptr 0 0 0 0)] (fun q => flH2 n fl q.2.2 C p) (fun q => p + 1 - q.1) (0, fl, rs) [60] (fun _ => rfl) (by ((repeat (refine Hold.cons (by exact rfl) ?_)); exact Hold.nil)) (by ((repeat (refine Hold.cons (by exact rfl) ?_)); exact Hold.nil)) rfl rfl ⟨by omega, rfl, hrs⟩ (by simp; omega) ?_
      rintro ⟨i, F, us⟩ ⟨hi, hF, hus⟩
      try simp only at hi hF hus ⊢
      have hFl : F.length = n.cs.length := by rw [hF, chgL_len, hlen]
      have hlu : ∀ j, ltL j us = true := fun j => by rw [hus]; exact ltL_I j _
      by_cases hli : i < p + 1
      · have e1 := cyc_at hC hli
        have ha := hAr i hli
        obtain ⟨g1, -, -⟩ := chg_ok ok hlen H b i hi
        obtain ⟨d1, -, -⟩ := dlP_ok H (arcP (arcsU n.cs fl n.cs.length) P (bkN (arcsU n.cs fl n.cs.length) P i c)).cr i hi
        have HN := Lib.hid (show chgL b fl (cycL (arcsU n.cs fl n.cs.length) P c (i + 1)) = chgA b (chgL b fl (cycL (arcsU n.cs fl n.cs.length) P c i)) (arcP (arcsU n.cs fl n.cs.length) P (bkN (arcsU n.cs fl n.cs.length) P i c)) by rw [cyc_snoc, chg_snoc])
        rw [← hF] at g1 HN
        generalize arcP (arcsU n.cs fl n.cs.length) P (bkN (arcsU n.cs fl n.cs.length) P i c) = a at e1 ha HN d1
        have a0 := ha.c0
        have a1 := ha.c1
        have e3 := lit_at hus hFl a0 a1
        have g2 := g1 a.cr.toNat (by omega)
        have hx := ok.rg _ (getD_mem a0 a1)
        have hw := hx.wt
        have hfb := hf.bd a.cr.toNat (by omega)
        have hw2 := (ok.rg n.cs[a.cr.toNat] (List.getElem_mem (by omega))).wt
        rw [show ((a.cr.toNat : Nat) : Int) = a.cr by omega] at hfb g2
        have hsg : a.sg = 1 ∨ a.sg = -1 := by rcases ha.dir with ⟨s, -⟩ | ⟨s, -⟩ <;> omega
        have m0 := mul_bd (a := dlP (arcsU n.cs fl n.cs.length) P c a.cr i) (b := b) (A := 1) (B := 20) (by omega) (by omega) (by omega) (by omega)
        have m1 := mul_w (a := a.sg) (b := b) 1 20 (by omega) (by omega) (by omega) (by omega) (by omega)
        have m2 := mul_bd (a := a.sg) (b := b) (A := 1) (B := 20) (by omega) (by omega) (by omega) (by omega)
        have g3 : -40 ≤ cAt F a.cr ∧ cAt F a.cr ≤ 40 := by omega
        clear g1 g2 m0 d1
        have hls : ∀ (j i : Nat) (x : Int), ltL j (us.set i (I64 x)) = true := fun j i x => ltL_set (hlu j) rfl
        repeat (first | apply ef_seq | (apply ef_mv; exact rfl; exact rfl) | (apply ef_bin; exact rfl; exact rfl; exact rfl; (first | exact cmp_t rfl (by first | exact rfl | (simp only [cmpP]; omega)) | ((with_reducible refine bin_add (wrap_of ?_ ?_)) <;> omega) | ((with_reducible refine bin_mul (wrap_of ?_ ?_)) <;> omega))) | (apply ef_ldp; exact rfl; exact rfl; (exact rfl); exact rfl; (first | exact rfl | assumption); (first | exact rd_5 rfl rfl rfl rfl rfl | exact rfl)) | (apply ef_iaa; exact rfl; exact rfl; exact rfl; (omega); (omega); (exact rfl)) | (apply ef_fap; exact rfl; exact rfl) | (apply ef_new; exact rfl) | (apply ef_st; exact rfl; exact rfl; exact rfl; exact rfl; exact rfl; exact rfl; (first | exact rfl | assumption); exact rfl) | apply ef_nil | apply seqQ.normal | apply blockQ.normal | apply ef_block | apply ef_skip | (apply ef_condt; exact rfl; (exact (rfl : true = true))))
        (refine loopQ.normal _ _ ⟨(i + 1, chgA b F a, us.set (0 + a.cr.toNat) (I64 (cAt F a.cr + a.sg * b))), ⟨hli, HN.out.symm, by rw [hus, Nat.zero_add]; unfold chgA; rw [List.map_set]⟩, (by first | (simp only; omega) | omega), ⟨by ((repeat (refine Hold.cons (by exact rfl) ?_)); exact Hold.nil), by ((repeat (refine Hold.cons (by exact rfl) ?_)); exact Hold.nil)⟩, .inr ⟨by ((repeat (refine hdl_cons rfl (by first | rfl | (simp [MV.lt, ltL, ltL_A, ltL_I, ltL_Ln, ltL_Cr, hls, hlt2, splice, MV.cells])) ?_)); exact hdl_nil), by (simp [hltL, ltL, MV.lt, ltL, ltL_A, ltL_I, ltL_Ln, ltL_Cr, hls, hlt2, splice, MV.cells])⟩, by exact rfl⟩)
      · obtain rfl : i = p + 1 := by omega
        rw [← hC] at hF
        repeat (first | apply ef_seq | (apply ef_bin; exact rfl; exact rfl; exact rfl; (exact cmp_f rfl (by simp only [cmpP]; omega))) | apply ef_nil | apply seqQ.normal | apply loopQ.exit | apply ef_exit | apply seqQ.exit | apply blockQ.normal | apply blockQ.here | (apply ef_condf; exact rfl; (exact (rfl : false = false))))
        (refine loopQ.normal _ _ ⟨(f, F, us), ⟨hus, by rw [hF]; exact hf2, by rw [hF]; exact hZ, by show (2000000 - valU n.cs F n.cs.length).toNat < f; rw [hF]; omega⟩, (by show (2000000 - valU n.cs F n.cs.length).toNat < (2000000 - valU n.cs fl n.cs.length).toNat; rw [hF]; omega), ⟨by ((repeat (refine Hold.cons (by exact rfl) ?_)); exact Hold.nil), by ((repeat (refine Hold.cons (by exact rfl) ?_)); exact Hold.nil)⟩, .inr ⟨by ((repeat (refine hdl_cons rfl (by first | rfl | (simp [MV.lt, ltL, ltL_A, ltL_I, ltL_Ln, ltL_Cr, hlu, hlt2, splice, MV.cells])) ?_)); exact hdl_nil), by (simp [hltL, ltL, MV.lt, ltL, ltL_A, ltL_I, ltL_Ln, ltL_Cr, hlu, hlt2, splice, MV.cells])⟩, by exact rfl⟩)
theorem flow_c (k : Nat) (n : Nt) (ok : OkN n) (h : MHeap) : orA (k + 6) 44 [encN n] h = some (.arr h.length 0 n.cs.length 0, h ++ [⟨0, false, 1, (flZ n).map I64⟩]) := by
  have := callA (k := k + 5) (h := h) (args := [encN n]) (args' := [encN n]) (frzL_lt (by simp [ltL, MV.lt, ltL_Ln, ltL_Cr])) rfl (flow_z k n ok) rfl (by simp [okH, ltL_I, pureL_I])
  simpa [shV, sh1] using this
end Go.Proofs.Ytbdleggmdbihnaa

/- Flows and corrections: no flow has a greater value than corrections cost; the program's flow has that of its potentials. Without a program. -/
namespace Go.Proofs.Ytbdleggmdbihnaa
set_option linter.unusedVariables false
set_option linter.unusedSimpArgs false
def sumN (g : Nat → Int) : Nat → Int
  | 0 => 0
  | k + 1 => sumN g k + g k
theorem sumN_zero {g : Nat → Int} : ∀ m, (∀ v, v < m → g v = 0) → sumN g m = 0
  | 0, _ => rfl
  | m + 1, h => by rw [sumN, sumN_zero m (fun v hv => h v (by omega)), h m (by omega)]; rfl
theorem sumN_add {g g' : Nat → Int} : ∀ m, sumN (fun v => g v + g' v) m = sumN g m + sumN g' m
  | 0 => rfl
  | m + 1 => by rw [sumN, sumN, sumN, sumN_add m]; omega
theorem sumN_pick {a : Int} (h0 : 0 ≤ a) (c : Int → Int) (f : Int) : ∀ m : Nat, sumN (fun v => c (v : Int) * (if a = (v : Int) then f else 0)) m = if a < (m : Int) then c a * f else 0
  | 0 => by rw [if_neg (by omega)]; rfl
  | m + 1 => by
    rw [sumN, sumN_pick h0 c f m]
    by_cases h : a = (m : Int)
    · rw [if_neg (by omega), if_pos h, if_pos (by omega), ← h]; omega
    · rw [if_neg h, Int.mul_zero]
      by_cases h2 : a < (m : Int)
      · rw [if_pos h2, if_pos (by omega)]; omega
      · rw [if_neg h2, if_neg (by omega)]; rfl
def resP (x : Cr) (p : Int → Int) : Int := x.df - p x.ln + p x.ti
def valP (cs : List Cr) (fl : List Int) (p : Int → Int) : Nat → Int
  | 0 => 0
  | i + 1 => valP cs fl p i + cAt fl i * resP (cs.getD i default) p
def absI (z : Int) : Int := if z < 0 then 0 - z else z
def costP (cs : List Cr) (p : Int → Int) : Nat → Int
  | 0 => 0
  | i + 1 => costP cs p i + (cs.getD i default).wt * absI (resP (cs.getD i default) p)
theorem valP_at {n : Nt} (ok : OkN n) (fl : List Int) (p : Int → Int) : ∀ i, i ≤ n.cs.length → valP n.cs fl p i = valU n.cs fl i - sumN (fun v => sgV n (v : Int) * p (v : Int) * sumV n.cs fl (v : Int) i) n.ls.length
  | 0, _ => by
    rw [sumN_zero n.ls.length (fun v _ => by simp [sumV])]; rfl
  | i + 1, hi => by
    have hm := getD_mem (n := n) (i := (i : Int)) (by omega) (by omega)
    rw [Int.toNat_natCast] at hm
    have hx := ok.rg _ hm
    have hk := ok.kd _ hm
    rw [valP, valU, valP_at ok fl p i (by omega)]
    have e : (fun v : Nat => sgV n (v : Int) * p (v : Int) * sumV n.cs fl (v : Int) (i + 1)) = fun v : Nat => (sgV n (v : Int) * p (v : Int) * sumV n.cs fl (v : Int) i) + ((fun u : Int => sgV n u * p u) (v : Int) * (if (n.cs.getD i default).ln = (v : Int) then cAt fl i else 0) + (fun u : Int => sgV n u * p u) (v : Int) * (if (n.cs.getD i default).ti = (v : Int) then cAt fl i else 0)) := by
      funext v
      rw [sumV, att, Int.mul_add, Int.mul_add]
    rw [e, sumN_add, sumN_add, sumN_pick hx.l0 (fun u : Int => sgV n u * p u), sumN_pick hx.t0 (fun u : Int => sgV n u * p u), if_pos hx.l1, if_pos hx.t1]
    generalize n.cs.getD i default = x at *
    have s1 : sgV n x.ln = 1 := by unfold sgV; rw [hk.1]; rfl
    have s2 : sgV n x.ti = -1 := by unfold sgV; rw [hk.2]; rfl
    simp only [s1, s2]
    unfold resP
    generalize cAt fl i = f
    generalize p x.ln = u
    generalize p x.ti = w
    rw [Int.mul_add, Int.mul_sub, Int.one_mul, Int.neg_mul, Int.neg_mul, Int.one_mul, Int.mul_comm u f, Int.mul_comm w f]
    omega
theorem valP_eq {n : Nt} (ok : OkN n) {fl : List Int} (hf : FlOk n fl) (p : Int → Int) : valP n.cs fl p n.cs.length = valU n.cs fl n.cs.length := by
  rw [valP_at ok fl p _ (Nat.le_refl _), sumN_zero n.ls.length (fun v _ => by rw [hf.sum]; simp)]; omega
theorem absI_mul {f w z : Int} (h1 : -w ≤ f) (h2 : f ≤ w) : f * z ≤ w * absI z := by
  unfold absI
  split
  · have := Int.mul_le_mul_of_nonneg_right (show 0 - f ≤ w by omega) (show 0 ≤ 0 - z by omega)
    rw [Int.sub_mul, Int.zero_mul, Int.mul_sub, Int.mul_zero] at this
    omega
  · exact Int.mul_le_mul_of_nonneg_right h2 (by omega)
theorem gd_at {n : Nt} {i : Nat} (h : i < n.cs.length) : n.cs.getD i default = n.cs[i] := by rw [List.getD_eq_getElem?_getD, List.getElem?_eq_getElem h]; rfl
theorem weak {n : Nt} (ok : OkN n) {fl : List Int} (hf : FlOk n fl) (p : Int → Int) : valU n.cs fl n.cs.length ≤ costP n.cs p n.cs.length := by
  rw [← valP_eq ok hf p]
  have : ∀ i, i ≤ n.cs.length → valP n.cs fl p i ≤ costP n.cs p i := fun i => by
    induction i with
    | zero => intro _; exact Int.le_refl _
    | succ i ih =>
      intro hi
      rw [valP, costP]
      have h1 := ih (by omega)
      have hb := hf.bd i (by omega)
      rw [← gd_at (by omega)] at hb
      have := absI_mul (z := resP (n.cs.getD i default) p) hb.1 hb.2
      omega
  exact this _ (Nat.le_refl _)
theorem strong {n : Nt} (ok : OkN n) {fl : List Int} (hf : FlOk n fl) {p : Int → Int} (hp : ∀ a ∈ arcsU n.cs fl n.cs.length, p a.fr + a.ln ≤ p a.tv) : valU n.cs fl n.cs.length = costP n.cs p n.cs.length := by
  rw [← valP_eq ok hf p]
  have : ∀ i, i ≤ n.cs.length → valP n.cs fl p i = costP n.cs p i := fun i => by
    induction i with
    | zero => intro _; rfl
    | succ i ih =>
      intro hi
      rw [valP, costP, ih (by omega)]
      have hb := hf.bd i (by omega)
      rw [← gd_at (by omega)] at hb
      obtain ⟨a1, a2⟩ := arcsU_mem (n := n) (fl := fl) (i := i) (j := n.cs.length) (by omega) (Nat.le_refl _)
      have h1 : cAt fl i < (n.cs.getD i default).wt → resP (n.cs.getD i default) p ≤ 0 := fun h => by
        have := hp _ (a1 h)
        simp only at this
        unfold resP; omega
      have h2 : 0 - (n.cs.getD i default).wt < cAt fl i → 0 ≤ resP (n.cs.getD i default) p := fun h => by
        have := hp _ (a2 h)
        simp only at this
        unfold resP; omega
      congr 1
      generalize n.cs.getD i default = x at *
      generalize resP x p = z at *
      generalize cAt fl i = f at *
      unfold absI
      split
      · rw [show f = 0 - x.wt by omega, Int.sub_mul, Int.zero_mul, Int.mul_sub, Int.mul_zero]
      · by_cases hz : z = 0
        · rw [hz]; simp
        · rw [show f = x.wt by omega]
  exact this _ (Nat.le_refl _)
theorem upL_at : ∀ (m i : Nat) (h : i < (upL m).length), (upL m)[i] = (i : Int)
  | 0, i, h => by simp [upL] at h
  | m + 1, i, h => by
    simp only [upL]
    rw [List.getElem_append]
    split
    · exact upL_at m i _
    · rename_i h2
      have := upL_len m
      have h3 : i = m := by simp [upL, upL_len] at h; omega
      simp [h3]
theorem srcL_up (m : Nat) {v : Int} (h0 : 0 ≤ v) (h1 : v < (m : Int)) : cAt (srcL m (upL m)) v = 0 := by
  have hl := upL_len m
  have h := srcU_at m (upL m) (upL_mem m) (upL m).length v.toNat (by omega) (by omega) (Nat.le_refl _)
  rw [upL_at, show ((v.toNat : Nat) : Int) = v by omega] at h
  exact h
theorem flow_pot {n : Nt} (ok : OkN n) {fl : List Int} (hC : flC n fl = []) : ∃ p : Int → Int, ∀ a ∈ arcsU n.cs fl n.cs.length, p a.fr + a.ln ≤ p a.tv := by
  have hO : ∀ a ∈ arcsU n.cs fl n.cs.length, OkA n.ls.length 10000 a := fun a ha => (arcsU_ok (fl := fl) n.cs.length (Nat.le_refl _) a ha).okA ok
  rcases lg_out (m := n.ls.length) (fs := upL n.ls.length) (show (0 : Int) ≤ 10000 by omega) hO with ⟨-, ⟨q, t, -, HI⟩, h⟩ | ⟨P, c, p, h, H⟩
  · refine ⟨fun v => cAt (lgS (arcsU n.cs fl n.cs.length) n.ls.length (upL n.ls.length)).1.L v, fun a ha => h a ha ?_⟩
    have o := hO a ha
    have := HI.mon a.fr
    rw [srcL_up _ o.f0 o.f1] at this
    omega
  · have h2 : (flC n fl).length = p := by rw [show flC n fl = _ from h, cycL_len]
    rw [hC] at h2
    have := H.p0
    simp at h2; omega
theorem flZ_max {n : Nt} (ok : OkN n) : (∀ fl, FlOk n fl → valU n.cs fl n.cs.length ≤ valU n.cs (flZ n) n.cs.length) ∧ ∃ p, valU n.cs (flZ n) n.cs.length = costP n.cs p n.cs.length := by
  obtain ⟨h1, h2⟩ := flZ_ok ok
  obtain ⟨p, hp⟩ := flow_pot ok h2
  have hs := strong ok h1 hp
  exact ⟨fun fl hf => by rw [hs]; exact weak ok hf p, p, hs⟩
end Go.Proofs.Ytbdleggmdbihnaa

/- Contracts: sizes, sums of weights times sizes, clones, other differences. -/
namespace Go.Proofs.Ytbdleggmdbihnaa
open Go.RowKit
set_option linter.unusedVariables false
set_option linter.unusedSimpArgs false
theorem mx_abs (z : Int) : mx z (0 - z) = absI z := by unfold mx absI; split <;> split <;> omega
theorem absI_bd {z B : Int} (h1 : -B ≤ z) (h2 : z ≤ B) : 0 ≤ absI z ∧ absI z ≤ B := by unfold absI; split <;> omega
theorem mf_size : MT.mf 70 = some mfW_l70 := mfW_q70
theorem size_c (k : Nat) (z : Int) (h1 : -1000000000000 ≤ z) (h2 : z ≤ 1000000000000) (h : MHeap) : orA (k + 1) 70 [I64 z] h = some (I64 (absI z), h) := by
  refine callL (args' := [I64 z]) (frzL_lt rfl) rfl (runZ_of mf_size (by simp [mfW_l70]) ?_)
  simp only [mfW_l70, argsL]
  repeat (first | apply ef_seq | (apply ef_mv; exact rfl; exact rfl) | (apply ef_neg; exact rfl; exact rfl; exact wrap_of (by omega) (by omega)) | (apply ef_mx; exact rfl; exact rfl; exact rfl) | apply ef_nil | apply seqQ.normal | apply ef_ret)
  (refine fin1 rfl (by exact rfl) rfl ?_)
  rw [mx_abs]
theorem mf_bSize : MT.mf 23 = some mfW_l70 := by kernel_rfl
theorem bSize_c (k : Nat) (z : Int) (h1 : -1000000000000 ≤ z) (h2 : z ≤ 1000000000000) (h : MHeap) : orA (k + 1) 23 [I64 z] h = some (I64 (absI z), h) := by
  refine callL (args' := [I64 z]) (frzL_lt rfl) rfl (runZ_of mf_bSize (by simp) ?_)
  simp only [argsL]
  repeat (first | apply ef_seq | (apply ef_mv; exact rfl; exact rfl) | (apply ef_neg; exact rfl; exact rfl; exact wrap_of (by omega) (by omega)) | (apply ef_mx; exact rfl; exact rfl; exact rfl) | apply ef_nil | apply seqQ.normal | apply ef_ret)
  (refine fin1 rfl (by exact rfl) rfl ?_)
  rw [mx_abs]
def wsU (cs : List Cr) (ds : List Int) : Nat → Int
  | 0 => 0
  | i + 1 => wsU cs ds i + (cs.getD i default).wt * absI (cAt ds i)
theorem wsU_next {cs : List Cr} {ds : List Int} {i : Nat} {x : Cr} (h : cs[i]? = some x) : wsU cs ds (i + 1) = wsU cs ds i + x.wt * absI (cAt ds i) := by
  rw [wsU, List.getD_eq_getElem?_getD, h]; rfl
theorem wsU_bd {n : Nt} (ok : OkN n) {ds : List Int} (hb : ∀ v, -10000000 ≤ cAt ds v ∧ cAt ds v ≤ 10000000) : ∀ i, i ≤ n.cs.length → 0 ≤ wsU n.cs ds i ∧ wsU n.cs ds i ≤ 100000000 * (i : Int)
  | 0, _ => by simp [wsU]
  | i + 1, hi => by
    have ih := wsU_bd ok hb i (by omega)
    have hx := (ok.rg n.cs[i] (List.getElem_mem (by omega))).wt
    rw [wsU_next (List.getElem?_eq_getElem (by omega))]
    have ha := absI_bd (hb (i : Int)).1 (hb (i : Int)).2
    have := mul_bd (a := n.cs[i].wt) (b := absI (cAt ds i)) (A := 10) (B := 10000000) (by omega) (by omega) (by omega) (by omega)
    have := Int.mul_nonneg (show 0 ≤ n.cs[i].wt by omega) ha.1
    omega
theorem mf_cost : MT.mf 45 = some mfW_l45 := mfW_q45
set_option maxHeartbeats 1000000 in
theorem cost_z (k : Nat) (n : Nt) (ok : OkN n) (ds : List Int) (hl : ds.length = n.cs.length) (hb : ∀ v, -10000000 ≤ cAt ds v ∧ cAt ds v ≤ 10000000) :
    runZ MT (orA (k + 1)) (itA (k + 1)) 4000000 45 [encN n, .sl (ds.map I64)] [] = some (I64 (wsU n.cs ds n.cs.length), []) := by
  have hs2 : (MV.sl (n.cs.map encCr)).slen = some n.cs.length := by simp [MV.slen]
  have c16 := ok.c16
  refine runZ_of mf_cost (by simp [mfW_l45]) ?_
  simp only [mfW_l45, argsL]
  repeat (first | apply ef_seq | (apply ef_mv; exact rfl; exact rfl) | (apply ef_len; exact rfl; exact rfl; (assumption)) | (apply ef_ldp; exact rfl; exact rfl; (exact rfl); exact rfl; (exact rfl); (exact rfl)) | (apply ef_fap; exact rfl; exact rfl) | (apply ef_box; exact rfl; exact rfl; exact rfl; exact rfl) | apply ef_nil | apply seqQ.normal | apply ef_block)
  refine ef_loopf (α := Nat × Int) (fun p => p.1 ≤ n.cs.length ∧ p.2 = wsU n.cs ds p.1) (fun p => [(12, I64 (p.1 : Int)), (5, I64 p.2)]) [(11, I64 (n.cs.length : Int)), (10, .sl (n.cs.map encCr)), (1, .sl (ds.map I64))] (fun _ => [⟨0, false, 2, [encN n]⟩]) (fun p => n.cs.length - p.1) (0, 0) [12, 5] (fun _ => rfl) (by ((repeat (refine Hold.cons (by exact rfl) ?_)); exact Hold.nil)) (by ((repeat (refine Hold.cons (by exact rfl) ?_)); exact Hold.nil)) rfl rfl ⟨by omega, rfl⟩ (by simp; omega) ?_
  rintro ⟨i, q⟩ ⟨hi, hq⟩
  try simp only at hi hq ⊢
  by_cases hlt : i < n.cs.length
  · have e1 := at_map encCr n.cs i hlt
    have hat : n.cs[i]? = some n.cs[i] := List.getElem?_eq_getElem hlt
    have hx := ok.rg n.cs[i] (List.getElem_mem hlt)
    have e2 := cAt_at hl (i := (i : Int)) (by omega) (by omega)
    have hv := wsU_bd ok hb i hi
    have hvn := wsU_bd ok hb (i + 1) hlt
    have hbi := hb (i : Int)
    generalize n.cs[i] = x at e1 hat hx
    have HN := Lib.hid (wsU_next (ds := ds) hat)
    rw [HN.out] at hvn
    have w2 := hx.wt
    rw [← hq] at hv hvn
    generalize cAt ds i = f at e2 HN hvn hbi
    have ha := absI_bd hbi.1 hbi.2
    have w3 := fun h => size_c k f (by omega) (by omega) h
    generalize absI f = g at *
    have m1 := mul_w (a := x.wt) (b := g) 10 10000000 (by omega) (by omega) (by omega) (by omega) (by omega)
    repeat (first | apply ef_seq | (apply ef_mv; exact rfl; exact rfl) | (apply ef_bin; exact rfl; exact rfl; exact rfl; (first | exact cmp_t rfl (by first | exact rfl | (simp only [cmpP]; omega)) | ((with_reducible refine bin_add (wrap_of ?_ ?_)) <;> omega) | ((with_reducible refine bin_mul (wrap_of ?_ ?_)) <;> omega))) | (apply ef_ldr; exact rfl; exact rfl; (first | exact rd_6 rfl rfl rfl rfl rfl rfl | exact rfl)) | (apply ef_ldp; exact rfl; exact rfl; (exact rfl); exact rfl; (exact rfl); (exact rfl)) | (apply ef_ias; exact rfl; exact rfl; exact rfl; (omega); assumption; exact rfl) | (apply ef_fap; exact rfl; exact rfl) | (apply ef_new; exact rfl) | (apply ef_st; exact rfl; exact rfl; exact rfl; exact rfl; exact rfl; exact rfl; (exact rfl); exact rfl) | apply ef_nil | apply seqQ.normal | apply blockQ.normal | apply ef_block | apply ef_skip | (apply ef_condt; exact rfl; (exact (rfl : true = true))) | (apply ef_call; exact rfl; ((repeat (apply XVs.cons; exact rfl)); exact XVs.nil); (with_reducible exact w3 _)))
    (refine loopQ.normal _ _ ⟨(i + 1, q + x.wt * g), ⟨hlt, by rw [HN.out, hq]⟩, (by first | (simp only; omega) | omega), ⟨by ((repeat (refine Hold.cons (by exact rfl) ?_)); exact Hold.nil), by ((repeat (refine Hold.cons (by exact rfl) ?_)); exact Hold.nil)⟩, .inr ⟨by ((repeat (refine hdl_cons rfl (by first | rfl | (simp [MV.lt, ltL, ltL_Ln, ltL_Cr, ltL_I, splice, MV.cells])) ?_)); exact hdl_nil), by (simp [hltL, ltL, MV.lt, ltL, ltL_Ln, ltL_Cr, ltL_I, splice, MV.cells])⟩, by exact rfl⟩)
  · obtain rfl : i = n.cs.length := by omega
    repeat (first | apply ef_seq | (apply ef_mv; exact rfl; exact rfl) | (apply ef_bin; exact rfl; exact rfl; exact rfl; (exact cmp_f rfl (by simp only [cmpP]; omega))) | apply ef_nil | apply seqQ.normal | apply loopQ.exit | apply ef_ret | apply ef_exit | apply seqQ.exit | apply blockQ.here | (apply ef_condf; exact rfl; (exact (rfl : false = false))))
    (refine fin1 rfl (by exact rfl) rfl ?_)
    rw [hq]
theorem cost_c (k : Nat) (n : Nt) (ok : OkN n) (ds : List Int) (hl : ds.length = n.cs.length) (hb : ∀ v, -10000000 ≤ cAt ds v ∧ cAt ds v ≤ 10000000) (h : MHeap) {v : MV} (hv : frz 0 [] h 8 v = some (.sl (ds.map I64))) :
    orA (k + 2) 45 [encN n, v] h = some (I64 (wsU n.cs ds n.cs.length), h) :=
  callL (args' := [encN n, .sl (ds.map I64)]) (by simp [List.mapM_cons, hv, frz_lt (ltL_N n 0)]) rfl (cost_z k n ok ds hl hb)
theorem mf_SumOf : MT.mf 17 = some ⟨28, [(.tmp 4)], (.seq (.reg [⟨none, some 2, .box 2 (.s 0)⟩, ⟨none, some 4, .mv (.c (.lit (.int .i64 0)))⟩]) (.seq (.reg [⟨none, some 5, .mv (.c (.lit (.int .i64 0)))⟩]) (.seq (.seq (.reg [⟨none, some 6, .mv (.c (.lit (.int .i64 0)))⟩]) (.block 0 (.loop [6, 1, 5, 2] (.seq (.seq (.reg [⟨none, some 7, .mv (.s 6)⟩, ⟨none, some 8, .mv (.s 1)⟩, ⟨none, some 9, .len (.s 8)⟩, ⟨none, some 10, .bin .lss (.s 7) (.s 9)⟩]) (.cond (.s 10) .skip (.exit 0))) (.seq (.block 1 (.reg [⟨none, some 13, .mv (.s 5)⟩, ⟨none, some 14, .fa 1 (.s 2)⟩, ⟨none, some 15, .ld none (.s 14)⟩, ⟨none, some 16, .mv (.s 6)⟩, ⟨none, some 17, .ia 6 (.s 15) (.s 16)⟩, ⟨none, some 18, .fa 5 (.s 17)⟩, ⟨none, some 19, .ld none (.s 18)⟩, ⟨none, some 20, .mv (.s 1)⟩, ⟨none, some 21, .mv (.s 6)⟩, ⟨none, some 22, .ia 1 (.s 20) (.s 21)⟩, ⟨none, some 23, .ld none (.s 22)⟩, ⟨none, some 24, .call 23 [.s 23]⟩, ⟨none, some 25, .bin .mul (.s 19) (.s 24)⟩, ⟨none, some 26, .bin .add (.s 13) (.s 25)⟩, ⟨none, some 5, .mv (.s 26)⟩])) (.reg [⟨none, some 11, .mv (.s 6)⟩, ⟨none, some 12, .bin .add (.s 11) (.c (.lit (.int .i64 1)))⟩, ⟨none, some 6, .mv (.s 12)⟩])))))) (.seq (.reg [⟨none, some 27, .mv (.s 5)⟩, ⟨none, some 4, .mv (.s 27)⟩]) .ret))))⟩ := by kernel_rfl
set_option maxHeartbeats 1000000 in
theorem SumOf_z (k : Nat) (n : Nt) (ok : OkN n) (ds : List Int) (hl : ds.length = n.cs.length) (hb : ∀ v, -10000000 ≤ cAt ds v ∧ cAt ds v ≤ 10000000) :
    runZ MT (orA (k + 1)) (itA (k + 1)) 4000000 17 [encN n, .sl (ds.map I64)] [] = some (I64 (wsU n.cs ds n.cs.length), []) := by
  have hs3 : (MV.sl (ds.map I64)).slen = some ds.length := by simp [MV.slen]
  have c16 := ok.c16
  refine runZ_of mf_SumOf (by simp) ?_
  simp only [argsL]
  repeat (first | apply ef_seq | (apply ef_mv; exact rfl; exact rfl) | (apply ef_box; exact rfl; exact rfl; exact rfl; exact rfl) | apply ef_nil | apply seqQ.normal | apply ef_block)
  refine ef_loopf (α := Nat × Int) (fun p => p.1 ≤ n.cs.length ∧ p.2 = wsU n.cs ds p.1) (fun p => [(6, I64 (p.1 : Int)), (5, I64 p.2)]) [(1, .sl (ds.map I64)), (2, .ptr 0 0 0 0)] (fun _ => [⟨0, false, 2, [encN n]⟩]) (fun p => n.cs.length - p.1) (0, 0) [6, 5] (fun _ => rfl) (by ((repeat (refine Hold.cons (by exact rfl) ?_)); exact Hold.nil)) (by ((repeat (refine Hold.cons (by exact rfl) ?_)); exact Hold.nil)) rfl rfl ⟨by omega, rfl⟩ (by simp; omega) ?_
  rintro ⟨i, q⟩ ⟨hi, hq⟩
  try simp only at hi hq ⊢
  by_cases hlt : i < n.cs.length
  · have e1 := at_map encCr n.cs i hlt
    have hat : n.cs[i]? = some n.cs[i] := List.getElem?_eq_getElem hlt
    have hx := ok.rg n.cs[i] (List.getElem_mem hlt)
    have e2 := cAt_at hl (i := (i : Int)) (by omega) (by omega)
    have hv := wsU_bd ok hb i hi
    have hvn := wsU_bd ok hb (i + 1) hlt
    have hbi := hb (i : Int)
    generalize n.cs[i] = x at e1 hat hx
    have HN := Lib.hid (wsU_next (ds := ds) hat)
    rw [HN.out] at hvn
    have w2 := hx.wt
    rw [← hq] at hv hvn
    generalize cAt ds i = f at e2 HN hvn hbi
    have ha := absI_bd hbi.1 hbi.2
    have w3 := fun h => bSize_c k f (by omega) (by omega) h
    generalize absI f = g at *
    have m1 := mul_w (a := x.wt) (b := g) 10 10000000 (by omega) (by omega) (by omega) (by omega) (by omega)
    repeat (first | apply ef_seq | (apply ef_mv; exact rfl; exact rfl) | (apply ef_bin; exact rfl; exact rfl; exact rfl; (first | exact cmp_t rfl (by first | exact rfl | (simp only [cmpP]; omega)) | ((with_reducible refine bin_add (wrap_of ?_ ?_)) <;> omega) | ((with_reducible refine bin_mul (wrap_of ?_ ?_)) <;> omega))) | (apply ef_len; exact rfl; exact rfl; (assumption)) | (apply ef_ldr; exact rfl; exact rfl; (exact rfl)) | (apply ef_ldp; exact rfl; exact rfl; (exact rfl); exact rfl; (exact rfl); (exact rfl)) | (apply ef_ias; exact rfl; exact rfl; exact rfl; (omega); assumption; exact rfl) | (apply ef_fap; exact rfl; exact rfl) | (apply ef_far; exact rfl; exact rfl) | apply ef_nil | apply seqQ.normal | apply blockQ.normal | apply ef_block | apply ef_skip | (apply ef_condt; exact rfl; (exact (rfl : true = true))) | (apply ef_call; exact rfl; ((repeat (apply XVs.cons; exact rfl)); exact XVs.nil); (with_reducible exact w3 _)))
    (refine loopQ.normal _ _ ⟨(i + 1, q + x.wt * g), ⟨hlt, by rw [HN.out, hq]⟩, (by first | (simp only; omega) | omega), ⟨by ((repeat (refine Hold.cons (by exact rfl) ?_)); exact Hold.nil), by ((repeat (refine Hold.cons (by exact rfl) ?_)); exact Hold.nil)⟩, .inr ⟨by ((repeat (refine hdl_cons rfl (by first | rfl | (simp [MV.lt, ltL, ltL_Ln, ltL_Cr, ltL_I, splice, MV.cells])) ?_)); exact hdl_nil), by (simp [hltL, ltL, MV.lt, ltL, ltL_Ln, ltL_Cr, ltL_I, splice, MV.cells])⟩, by exact rfl⟩)
  · obtain rfl : i = n.cs.length := by omega
    repeat (first | apply ef_seq | (apply ef_mv; exact rfl; exact rfl) | (apply ef_bin; exact rfl; exact rfl; exact rfl; (exact cmp_f rfl (by simp only [cmpP]; omega))) | (apply ef_len; exact rfl; exact rfl; (assumption)) | apply ef_nil | apply seqQ.normal | apply loopQ.exit | apply ef_ret | apply ef_exit | apply seqQ.exit | apply blockQ.here | (apply ef_condf; exact rfl; (exact (rfl : false = false))))
    (refine fin1 rfl (by exact rfl) rfl ?_)
    rw [hq]
theorem SumOf_c (k : Nat) (n : Nt) (ok : OkN n) (ds : List Int) (hl : ds.length = n.cs.length) (hb : ∀ v, -10000000 ≤ cAt ds v ∧ cAt ds v ≤ 10000000) (h : MHeap) {v : MV} (hv : frz 0 [] h 8 v = some (.sl (ds.map I64))) :
    orA (k + 2) 17 [encN n, v] h = some (I64 (wsU n.cs ds n.cs.length), h) :=
  callL (args' := [encN n, .sl (ds.map I64)]) (by simp [List.mapM_cons, hv, frz_lt (ltL_N n 0)]) rfl (SumOf_z k n ok ds hl hb)
def anB (z : Int) : Bool := !inB z (-10000) 10000
def anE (m : Nat) (ds : List Int) : Int := if ds.length = m then (if ds.any anB then 2 else 0) else 10
theorem mf_kp1 : MT.mf 38 = some mfW_l38 := mfW_q38
theorem kp1_c (k : Nat) (z : Int) (h : MHeap) : orA (k + 3) 38 [I64 z] h = some (Bo (anB z), h) := by
  refine callL (args' := [I64 z]) (frzL_lt rfl) rfl (runZ_of mf_kp1 (by simp [mfW_l38]) ?_)
  simp only [mfW_l38, argsL]
  have hw := fun h => isSized_c k z 10000 h (by omega) (by omega) rfl
  have e : anB z = !inB z (-(10000 : Int)) 10000 := rfl
  rw [e]
  generalize inB z (-(10000 : Int)) 10000 = b at *
  repeat (first | apply ef_seq | (apply ef_mv; exact rfl; exact rfl) | (apply ef_not; exact rfl; exact rfl; exact rfl) | apply ef_nil | apply seqQ.normal | apply ef_ret | (apply ef_call; exact rfl; ((repeat (apply XVs.cons; exact rfl)); exact XVs.nil); (with_reducible exact hw _)))
  (refine fin1 rfl (by exact rfl) rfl ?_)
  rfl
theorem mf_anErr : MT.mf 15 = some ⟨24, [(.tmp 4)], (.seq (.reg [⟨none, some 2, .box 2 (.s 0)⟩, ⟨none, some 4, .mv (.c (.lit (.int .i64 0)))⟩]) (.seq (.seq (.reg [⟨none, some 6, .mv (.s 1)⟩, ⟨none, some 7, .len (.s 6)⟩, ⟨none, some 8, .fa 1 (.s 2)⟩, ⟨none, some 9, .ld none (.s 8)⟩, ⟨none, some 10, .len (.s 9)⟩, ⟨none, some 11, .bin .neq (.s 7) (.s 10)⟩]) (.cond (.s 11) (.seq (.reg [⟨none, some 4, .mv (.c (.lit (.int .i64 10)))⟩]) .ret) .skip)) (.seq (.seq (.reg [⟨none, some 5, .mv (.c (.lit (.int .i64 0)))⟩]) (.block 0 (.loop [5, 1] (.seq (.seq (.reg [⟨none, some 12, .mv (.s 5)⟩, ⟨none, some 13, .mv (.s 1)⟩, ⟨none, some 14, .len (.s 13)⟩, ⟨none, some 15, .bin .lss (.s 12) (.s 14)⟩]) (.cond (.s 15) .skip (.exit 0))) (.seq (.block 1 (.seq (.reg [⟨none, some 18, .mv (.s 1)⟩, ⟨none, some 19, .mv (.s 5)⟩, ⟨none, some 20, .ia 1 (.s 18) (.s 19)⟩, ⟨none, some 21, .ld none (.s 20)⟩, ⟨none, some 22, .call 47 [.s 21]⟩, ⟨none, some 23, .un .not (.s 22)⟩]) (.cond (.s 23) (.seq (.reg [⟨none, some 4, .mv (.c (.lit (.int .i64 2)))⟩]) .ret) .skip))) (.reg [⟨none, some 16, .mv (.s 5)⟩, ⟨none, some 17, .bin .add (.s 16) (.c (.lit (.int .i64 1)))⟩, ⟨none, some 5, .mv (.s 17)⟩])))))) (.seq (.reg [⟨none, some 4, .mv (.c (.lit (.int .i64 0)))⟩]) .ret))))⟩ := by kernel_rfl
set_option maxHeartbeats 1000000 in
theorem anErr_z (k : Nat) (n : Nt) (ds : List Int) (hn : n.cs.length ≤ 1000) (hd : ds.length ≤ 1000) :
    runZ MT (orA (k + 2)) (itA (k + 2)) 4000000 15 [encN n, .sl (ds.map I64)] [] = some (I64 (anE n.cs.length ds), []) := by
  have hs2 : (MV.sl (n.cs.map encCr)).slen = some n.cs.length := by simp [MV.slen]
  have hs3 : (MV.sl (ds.map I64)).slen = some ds.length := by simp [MV.slen]
  have HE := Lib.hid (show anE n.cs.length ds = if ds.length = n.cs.length then (if ds.any anB then 2 else 0) else 10 from rfl)
  refine runZ_of mf_anErr (by simp) ?_
  simp only [argsL]
  by_cases hl : ds.length = n.cs.length
  · repeat (first | apply ef_seq | (apply ef_mv; exact rfl; exact rfl) | (apply ef_bin; exact rfl; exact rfl; exact rfl; (exact cmp_f rfl (by simp only [cmpP]; omega))) | (apply ef_len; exact rfl; exact rfl; (assumption)) | (apply ef_ldp; exact rfl; exact rfl; (exact rfl); exact rfl; (exact rfl); (exact rfl)) | (apply ef_fap; exact rfl; exact rfl) | (apply ef_box; exact rfl; exact rfl; exact rfl; exact rfl) | apply ef_nil | apply seqQ.normal | apply ef_block | apply ef_skip | (apply ef_condf; exact rfl; (exact (rfl : false = false))))
    refine ef_loopf (α := Nat) (fun i => i ≤ ds.length ∧ ds.any anB = (ds.drop i).any anB) (fun i => [(5, I64 (i : Int))]) [(1, .sl (ds.map I64))] (fun _ => [⟨0, false, 2, [encN n]⟩]) (fun i => ds.length - i) 0 [5] (fun _ => rfl) (by ((repeat (refine Hold.cons (by exact rfl) ?_)); exact Hold.nil)) (by ((repeat (refine Hold.cons (by exact rfl) ?_)); exact Hold.nil)) rfl rfl ⟨by omega, rfl⟩ (by simp; omega) ?_
    rintro i ⟨hi, hz⟩
    try simp only at hi hz ⊢
    by_cases hlt : i < ds.length
    · have e1 := at_map I64 ds i hlt
      have HS := Lib.hid (drop_at ds i hlt)
      have HZ := Lib.hid hz
      clear hz
      generalize ds[i] = z at e1 HS
      cases hb : inB z (-10000) 10000
      · have w1 := fun h => IsDifference_c k z h hb
        have hany : ds.any anB = true := by rw [HZ.out, HS.out, List.any_cons]; simp [anB, hb]
        rw [HE.out, if_pos hl, if_pos hany]
        repeat (first | apply ef_seq | (apply ef_mv; exact rfl; exact rfl) | (apply ef_bin; exact rfl; exact rfl; exact rfl; (exact cmp_t rfl (by first | exact rfl | (simp only [cmpP]; omega)))) | (apply ef_len; exact rfl; exact rfl; (assumption)) | (apply ef_ldr; exact rfl; exact rfl; (exact rfl)) | (apply ef_ias; exact rfl; exact rfl; exact rfl; (omega); assumption; exact rfl) | (apply ef_notF; exact rfl; exact rfl) | apply ef_nil | apply seqQ.normal | apply loopQ.ret | apply ef_ret | apply seqQ.ret | apply blockQ.ret | apply ef_block | apply ef_skip | (apply ef_condt; exact rfl; (exact (rfl : true = true))) | (apply ef_call; exact rfl; ((repeat (apply XVs.cons; exact rfl)); exact XVs.nil); (with_reducible exact w1 _)))
        (refine fin1 rfl (by exact rfl) rfl ?_)
        rfl
      · have w1 := fun h => IsDifference_c k z h hb
        repeat (first | apply ef_seq | (apply ef_mv; exact rfl; exact rfl) | (apply ef_bin; exact rfl; exact rfl; exact rfl; (first | exact cmp_t rfl (by first | exact rfl | (simp only [cmpP]; omega)) | ((with_reducible refine bin_add (wrap_of ?_ ?_)) <;> omega))) | (apply ef_len; exact rfl; exact rfl; (assumption)) | (apply ef_ldr; exact rfl; exact rfl; (exact rfl)) | (apply ef_ias; exact rfl; exact rfl; exact rfl; (omega); assumption; exact rfl) | (apply ef_notT; exact rfl; exact rfl) | apply ef_nil | apply seqQ.normal | apply blockQ.normal | apply ef_block | apply ef_skip | (apply ef_condt; exact rfl; (exact (rfl : true = true))) | (apply ef_condf; exact rfl; (exact (rfl : false = false))) | (apply ef_call; exact rfl; ((repeat (apply XVs.cons; exact rfl)); exact XVs.nil); (with_reducible exact w1 _)))
        (refine loopQ.normal _ _ ⟨i + 1, ⟨hlt, by rw [HZ.out, HS.out, List.any_cons]; simp [anB, hb]⟩, (by first | (simp only; omega) | omega), ⟨by ((repeat (refine Hold.cons (by exact rfl) ?_)); exact Hold.nil), by ((repeat (refine Hold.cons (by exact rfl) ?_)); exact Hold.nil)⟩, .inr ⟨by ((repeat (refine hdl_cons rfl (by first | rfl | (simp [MV.lt, ltL, ltL_Ln, ltL_Cr, ltL_I, splice, MV.cells])) ?_)); exact hdl_nil), by (simp [hltL, ltL, MV.lt, ltL, ltL_Ln, ltL_Cr, ltL_I, splice, MV.cells])⟩, by exact rfl⟩)
    · have hany : ds.any anB = false := by rw [hz, List.drop_eq_nil_of_le (by omega)]; rfl
      rw [HE.out, if_pos hl, hany, if_neg (by simp)]
      repeat (first | apply ef_seq | (apply ef_mv; exact rfl; exact rfl) | (apply ef_bin; exact rfl; exact rfl; exact rfl; (exact cmp_f rfl (by simp only [cmpP]; omega))) | (apply ef_len; exact rfl; exact rfl; (assumption)) | apply ef_nil | apply seqQ.normal | apply loopQ.exit | apply ef_ret | apply ef_exit | apply seqQ.exit | apply blockQ.here | (apply ef_condf; exact rfl; (exact (rfl : false = false))))
      (refine fin1 rfl (by exact rfl) rfl ?_)
      rfl
  · rw [HE.out, if_neg hl]
    repeat (first | apply ef_seq | (apply ef_mv; exact rfl; exact rfl) | (apply ef_bin; exact rfl; exact rfl; exact rfl; (exact cmp_t rfl (by first | exact rfl | (simp only [cmpP]; omega)))) | (apply ef_len; exact rfl; exact rfl; (assumption)) | (apply ef_ldp; exact rfl; exact rfl; (exact rfl); exact rfl; (exact rfl); (exact rfl)) | (apply ef_fap; exact rfl; exact rfl) | (apply ef_box; exact rfl; exact rfl; exact rfl; exact rfl) | apply ef_nil | apply seqQ.normal | apply ef_ret | apply seqQ.ret | (apply ef_condt; exact rfl; (exact (rfl : true = true))))
    (refine fin1 rfl (by exact rfl) rfl ?_)
    rfl
theorem anErr_c (k : Nat) (n : Nt) (ds : List Int) (hn : n.cs.length ≤ 1000) (hd : ds.length ≤ 1000) (h : MHeap) {v : MV} (hv : frz 0 [] h 8 v = some (.sl (ds.map I64))) : orA (k + 3) 15 [encN n, v] h = some (I64 (anE n.cs.length ds), h) :=
  callL (args' := [encN n, .sl (ds.map I64)]) (by simp [List.mapM_cons, hv, frz_lt (ltL_N n 0)]) rfl (anErr_z k n ds hn hd)
end Go.Proofs.Ytbdleggmdbihnaa

/- Contracts: clones; a net with other differences. -/
namespace Go.Proofs.Ytbdleggmdbihnaa
open Go.RowKit
set_option linter.unusedVariables false
set_option linter.unusedSimpArgs false
theorem ef_eqns {O : Oracle} {I : Iter} {N n : Nat} {lk : Nat → Bool} {A : Sl} {h : MHeap} {Q : MX2 → Sl → MHeap → Prop} {os : List GO} {t : Nat} {neg : Bool} {x : MX} {e : MV} {es : List MV} (ht : Nat.blt t n = true) (hx : XV A x (.sl (e :: es))) (hE : Ef O I N n lk (.reg os) ((t, .lit (.bool neg)) :: A) h Q) : Ef O I N n lk (.reg (⟨none, some t, .eqn neg x⟩ :: os)) A h Q :=
  ef_op (fun S HS => by simp only [evO, HS.x hx]) ht hE
theorem mf_CloneL : MT.mf 66 = some mfW_l66 := mfW_q66
theorem mf_CloneC : MT.mf 67 = some mfW_l67 := mfW_q67
theorem CloneL_z (k : Nat) (l : Ln) (ls : List Ln) (hl : (l :: ls).length ≤ 1000) : runZ MT (orA k) (itA k) 4000000 66 [.sl ((l :: ls).map encLn)] [] = some (.arr 0 0 (l :: ls).length 0, [⟨0, false, 2, (l :: ls).map encLn⟩]) := by
  have q1 := sOk_Ln (l :: ls)
  refine runZ_of mf_CloneL (by simp [mfW_l66]) ?_
  simp only [mfW_l66, argsL]
  repeat (first | apply ef_seq | (apply ef_mv; exact rfl; exact rfl) | (apply ef_nil0; exact rfl) | apply ef_nil | apply seqQ.normal)
  refine ef_eqns (by exact rfl) (by exact rfl) ?_
  repeat (first | apply ef_seq | (apply ef_mv; exact rfl; exact rfl) | (apply ef_bsl; exact rfl; (repeat (apply XVs.cons; exact rfl)); exact XVs.nil; exact rfl) | apply ef_nil | apply seqQ.normal | apply ef_skip | (apply ef_condf; exact rfl; (exact (rfl : false = false))))
  (apply ef_app; (· exact rfl); (· exact rfl); (· exact rfl); (· exact rfl); (· exact rfl); (· exact rfl); (· exact rfl); (· exact rfl); (· (simp at hl ⊢; omega)); (· exact q1); (· exact rfl))
  repeat (first | (apply ef_mv; exact rfl; exact rfl) | apply ef_nil | apply seqQ.normal | apply ef_ret)
  (apply fin_arr; (· exact rfl); (· exact rfl); (· exact rfl); (· exact rfl); (· simp); (· (exact ltL_Ln 0 (l :: ls))); (· (simp; rw [List.take_of_length_le (by simp)])); (· exact rfl); (· exact rfl); (· (simp)))
theorem CloneC_z (k : Nat) (l : Cr) (ls : List Cr) (hl : (l :: ls).length ≤ 1000) : runZ MT (orA k) (itA k) 4000000 67 [.sl ((l :: ls).map encCr)] [] = some (.arr 0 0 (l :: ls).length 0, [⟨0, false, 6, (l :: ls).map encCr⟩]) := by
  have q1 := sOk_Cr (l :: ls)
  refine runZ_of mf_CloneC (by simp [mfW_l67]) ?_
  simp only [mfW_l67, argsL]
  repeat (first | apply ef_seq | (apply ef_mv; exact rfl; exact rfl) | (apply ef_nil0; exact rfl) | apply ef_nil | apply seqQ.normal)
  refine ef_eqns (by exact rfl) (by exact rfl) ?_
  repeat (first | apply ef_seq | (apply ef_mv; exact rfl; exact rfl) | (apply ef_bsl; exact rfl; (repeat (apply XVs.cons; exact rfl)); exact XVs.nil; exact rfl) | apply ef_nil | apply seqQ.normal | apply ef_skip | (apply ef_condf; exact rfl; (exact (rfl : false = false))))
  (apply ef_app; (· exact rfl); (· exact rfl); (· exact rfl); (· exact rfl); (· exact rfl); (· exact rfl); (· exact rfl); (· exact rfl); (· (simp at hl ⊢; omega)); (· exact q1); (· exact rfl))
  repeat (first | (apply ef_mv; exact rfl; exact rfl) | apply ef_nil | apply seqQ.normal | apply ef_ret)
  (apply fin_arr; (· exact rfl); (· exact rfl); (· exact rfl); (· exact rfl); (· simp); (· (exact ltL_Cr 0 (l :: ls))); (· (simp; rw [List.take_of_length_le (by simp)])); (· exact rfl); (· exact rfl); (· (simp)))
theorem CloneL_c (k : Nat) (l : Ln) (ls : List Ln) (hl : (l :: ls).length ≤ 1000) (h : MHeap) : orA (k + 1) 66 [.sl ((l :: ls).map encLn)] h = some (.arr h.length 0 (l :: ls).length 0, h ++ [⟨0, false, 2, (l :: ls).map encLn⟩]) := by
  have := callA (k := k) (h := h) (args := [.sl ((l :: ls).map encLn)]) (frzL_lt (by simp [ltL, MV.lt, ltL_Ln])) rfl (CloneL_z k l ls hl) rfl (by simp [okH, ltL, MV.lt, ltL_Ln, pureL, MV.pure, pureL_Ln])
  simpa [shV, sh1] using this
theorem CloneC_c (k : Nat) (l : Cr) (ls : List Cr) (hl : (l :: ls).length ≤ 1000) (h : MHeap) : orA (k + 1) 67 [.sl ((l :: ls).map encCr)] h = some (.arr h.length 0 (l :: ls).length 0, h ++ [⟨0, false, 6, (l :: ls).map encCr⟩]) := by
  have := callA (k := k) (h := h) (args := [.sl ((l :: ls).map encCr)]) (frzL_lt (by simp [ltL, MV.lt, ltL_Cr])) rfl (CloneC_z k l ls hl) rfl (by simp [okH, ltL, MV.lt, ltL_Cr, pureL, MV.pure, pureL_Cr])
  simpa [shV, sh1] using this
theorem CloneC_e (k : Nat) (h : MHeap) : orA (k + 1) 67 [.sl []] h = some (.sl [], h) := by
  have := callT (f := 67) (k := k) (h := h) (args := [.sl []]) (args' := [.sl []]) (m := .sl []) (news := []) rfl rfl rfl rfl
  simpa [shV, sh1] using this
end Go.Proofs.Ytbdleggmdbihnaa

/- Contracts: a net with other differences. -/
namespace Go.Proofs.Ytbdleggmdbihnaa
open Go.RowKit
set_option linter.unusedVariables false
set_option linter.unusedSimpArgs false
def setD (x : Cr) (d : Int) : Cr := ⟨x.ln, x.ti, x.pa, x.pt, d, x.wt⟩
def wiU (cs : List Cr) (ds : List Int) : Nat → List Cr
  | 0 => cs
  | i + 1 => (wiU cs ds i).set i (setD (cs.getD i default) (cAt ds i))
def nW (n : Nt) (ds : List Int) : Nt := ⟨n.ls, wiU n.cs ds n.cs.length⟩
theorem wiU_len (cs : List Cr) (ds : List Int) : ∀ i, (wiU cs ds i).length = cs.length
  | 0 => rfl
  | i + 1 => by rw [wiU, List.length_set, wiU_len cs ds i]
theorem wiU_at (cs : List Cr) (ds : List Int) : ∀ i j, i ≤ j → (wiU cs ds i)[j]? = cs[j]?
  | 0, j, _ => rfl
  | i + 1, j, h => by rw [wiU, List.getElem?_set_ne (by omega)]; exact wiU_at cs ds i j (by omega)
theorem wiU_next {cs : List Cr} {ds : List Int} {i : Nat} {x : Cr} (h : cs[i]? = some x) : wiU cs ds (i + 1) = (wiU cs ds i).set i (setD x (cAt ds i)) := by
  rw [wiU, List.getD_eq_getElem?_getD, h]; rfl
theorem mf_with : MT.mf 42 = some mfW_l42 := mfW_q42
set_option maxHeartbeats 2000000 in
theorem with_z (k : Nat) (l : Ln) (ls : List Ln) (c : Cr) (cs : List Cr) (h1 : (l :: ls).length ≤ 1000) (h2 : (c :: cs).length ≤ 1000) (ds : List Int) (hd : ds.length = (c :: cs).length) :
    runZ MT (orA (k + 1)) (itA (k + 1)) 4000000 42 [encN ⟨l :: ls, c :: cs⟩, .sl (ds.map I64)] [] = some (encN (nW ⟨l :: ls, c :: cs⟩ ds), []) := by
  have hs3 : (MV.sl (ds.map I64)).slen = some ds.length := by simp [MV.slen]
  have w1 := fun h => CloneL_c k l ls h1 h
  have w2 := fun h => CloneC_c k c cs h2 h
  refine runZ_of mf_with (by simp [mfW_l42]) ?_
  simp only [mfW_l42, argsL]
  generalize hL : l :: ls = L at *
  generalize hC : c :: cs = C at *
  repeat (first | apply ef_seq | (apply ef_mv; exact rfl; exact rfl) | (apply ef_len; exact rfl; exact rfl; (assumption)) | (apply ef_ldp; exact rfl; exact rfl; (exact rfl); exact rfl; (exact rfl); (exact rfl)) | (apply ef_fap; exact rfl; exact rfl) | (apply ef_box; exact rfl; exact rfl; exact rfl; exact rfl) | (apply ef_new; exact rfl) | (apply ef_build; exact rfl; (repeat (apply XVs.cons; exact rfl)); exact XVs.nil; exact rfl; exact rfl) | (apply ef_nilck; exact rfl; exact rfl; exact rfl) | (apply ef_st; exact rfl; exact rfl; exact rfl; exact rfl; exact rfl; exact rfl; (exact rfl); exact rfl) | apply ef_nil | apply seqQ.normal | apply ef_block | (apply ef_call; exact rfl; ((repeat (apply XVs.cons; exact rfl)); exact XVs.nil); (with_reducible first | exact w1 _ | exact w2 _)))
  refine ef_loopf (α := Nat × List MV) (fun p => p.1 ≤ C.length ∧ p.2 = (wiU C ds p.1).map encCr) (fun p => [(20, I64 (p.1 : Int))]) [(19, I64 (ds.length : Int)), (18, .sl (ds.map I64)), (5, .ptr 2 0 0 0), (4, .ptr 1 0 0 0)] (fun p => [⟨0, false, 2, [encN ⟨L, C⟩]⟩, ⟨0, false, 2, [.agg [.lit (.slice none 0 0), .lit (.slice none 0 0)]]⟩, ⟨0, false, 2, [.agg [.arr 3 0 L.length 0, .arr 4 0 C.length 0]]⟩, ⟨0, false, 2, L.map encLn⟩, ⟨0, false, 6, p.2⟩]) (fun p => C.length - p.1) (0, C.map encCr) [20] (fun _ => rfl) (by ((repeat (refine Hold.cons (by exact rfl) ?_)); exact Hold.nil)) (by ((repeat (refine Hold.cons (by exact rfl) ?_)); exact Hold.nil)) rfl rfl ⟨by omega, rfl⟩ (by simp; omega) ?_
  rintro ⟨i, rs⟩ ⟨hi, hrs⟩
  try simp only at hi hrs ⊢
  have hrl : rs.length = C.length := by rw [hrs]; simp [wiU_len]
  by_cases hlt : i < C.length
  · have e1 := at_map I64 ds i (by omega)
    have hat : C[i]? = some C[i] := List.getElem?_eq_getElem hlt
    have e2 : rs[0 + ((i : Nat) : Int).toNat]? = some (encCr C[i]) := by
      rw [hrs, Nat.zero_add, Int.toNat_natCast, List.getElem?_map, wiU_at C ds i i (Nat.le_refl _), hat]; rfl
    have hcd : cAt ds (i : Int) = ds[i] := by unfold cAt; rw [Int.toNat_natCast, List.getD_eq_getElem?_getD, List.getElem?_eq_getElem (by omega)]; rfl
    have HN := Lib.hid (wiU_next (ds := ds) hat)
    rw [hcd] at HN
    generalize C[i] = x at e2 HN
    generalize ds[i] = d at e1 HN
    have hls : ∀ (j i : Nat) (a b c d e f : Int), ltL j (rs.set i (.agg [I64 a, I64 b, I64 c, I64 d, I64 e, I64 f])) = true := fun j i a b c d e f => ltL_set (by rw [hrs]; exact ltL_Cr j _) rfl
    repeat (first | apply ef_seq | (apply ef_mv; exact rfl; exact rfl) | (apply ef_bin; exact rfl; exact rfl; exact rfl; (first | exact cmp_t rfl (by first | exact rfl | (simp only [cmpP]; omega)) | ((with_reducible refine bin_add (wrap_of ?_ ?_)) <;> omega))) | (apply ef_ldr; exact rfl; exact rfl; (exact rfl)) | (apply ef_ldp; exact rfl; exact rfl; (exact rfl); exact rfl; (exact rfl); (exact rfl)) | (apply ef_ias; exact rfl; exact rfl; exact rfl; (omega); assumption; exact rfl) | (apply ef_iaa; exact rfl; exact rfl; exact rfl; (omega); (omega); (exact rfl)) | (apply ef_fap; exact rfl; exact rfl) | (apply ef_st; exact rfl; exact rfl; exact rfl; exact rfl; exact rfl; exact rfl; (assumption); exact rfl) | apply ef_nil | apply seqQ.normal | apply blockQ.normal | apply ef_block | apply ef_skip | (apply ef_condt; exact rfl; (exact (rfl : true = true))))
    (refine loopQ.normal _ _ ⟨(i + 1, rs.set (0 + ((i : Nat) : Int).toNat) (encCr (setD x d))), ⟨hlt, by rw [HN.out, hrs, Nat.zero_add, Int.toNat_natCast, List.map_set]⟩, (by first | (simp only; omega) | omega), ⟨by ((repeat (refine Hold.cons (by exact rfl) ?_)); exact Hold.nil), by ((repeat (refine Hold.cons (by exact rfl) ?_)); exact Hold.nil)⟩, .inr ⟨by ((repeat (refine hdl_cons rfl (by first | rfl | (simp [MV.lt, ltL, ltL_Ln, ltL_Cr, ltL_I, hls, splice, MV.cells])) ?_)); exact hdl_nil), by (simp [hltL, ltL, MV.lt, ltL, ltL_Ln, ltL_Cr, ltL_I, hls, splice, MV.cells])⟩, by exact rfl⟩)
  · obtain rfl : i = C.length := by omega
    repeat (first | apply ef_seq | (apply ef_bin; exact rfl; exact rfl; exact rfl; (exact cmp_f rfl (by simp only [cmpP]; omega))) | (apply ef_ldp; exact rfl; exact rfl; (exact rfl); exact rfl; (exact rfl); (exact rd_2 rfl rfl)) | (apply ef_st; exact rfl; exact rfl; exact rfl; exact rfl; exact rfl; exact rfl; (exact rfl); exact rfl) | apply ef_nil | apply seqQ.normal | apply loopQ.exit | apply ef_ret | apply ef_exit | apply seqQ.exit | apply blockQ.here | (apply ef_condf; exact rfl; (exact (rfl : false = false))))
    (apply fin_cellz; (· exact rfl); (· exact ⟨1, 0, 0, 0, _, _, by exact rfl, by exact rfl, rfl, rfl, rd_2 rfl rfl⟩))
    exact frzF_agg2 rfl (frzF_arr (o := ⟨0, false, 2, L.map encLn⟩) rfl rfl (by simp [nW]) (ltL_Ln 0 _) rfl) (frzF_arr (o := ⟨0, false, 6, rs⟩) rfl rfl (by simp [nW, wiU_len]) (ltL_Cr 0 _) hrs)
theorem with0_z (k : Nat) (l : Ln) (ls : List Ln) (h1 : (l :: ls).length ≤ 1000) :
    runZ MT (orA (k + 1)) (itA (k + 1)) 4000000 42 [encN ⟨l :: ls, []⟩, .sl []] [] = some (encN ⟨l :: ls, []⟩, []) := by
  have w1 := fun h => CloneL_c k l ls h1 h
  have w2 : ∀ h, orA (k + 1) 67 [.sl (([] : List Cr).map encCr)] h = some (.sl [], h) := fun h => CloneC_e k h
  refine runZ_of mf_with (by simp [mfW_l42]) ?_
  simp only [mfW_l42, argsL]
  generalize hL : l :: ls = L at *
  repeat (first | apply ef_seq | (apply ef_mv; exact rfl; exact rfl) | (apply ef_len; exact rfl; exact rfl; (exact rfl)) | (apply ef_ldp; exact rfl; exact rfl; (exact rfl); exact rfl; (exact rfl); (exact rfl)) | (apply ef_fap; exact rfl; exact rfl) | (apply ef_box; exact rfl; exact rfl; exact rfl; exact rfl) | (apply ef_new; exact rfl) | (apply ef_build; exact rfl; (repeat (apply XVs.cons; exact rfl)); exact XVs.nil; exact rfl; exact rfl) | (apply ef_nilck; exact rfl; exact rfl; exact rfl) | (apply ef_st; exact rfl; exact rfl; exact rfl; exact rfl; exact rfl; exact rfl; (exact rfl); exact rfl) | apply ef_nil | apply seqQ.normal | apply ef_block | (apply ef_call; exact rfl; ((repeat (apply XVs.cons; exact rfl)); exact XVs.nil); (with_reducible first | exact w1 _ | exact w2 _)))
  refine ef_loop (α := Unit) (fun _ => True) (fun _ => [(20, I64 0), (19, I64 0), (5, .ptr 2 0 0 0), (4, .ptr 1 0 0 0)]) (fun _ => [⟨0, false, 2, [encN ⟨L, []⟩]⟩, ⟨0, false, 2, [.agg [.lit (.slice none 0 0), .lit (.slice none 0 0)]]⟩, ⟨0, false, 2, [.agg [.arr 3 0 L.length 0, .sl []]]⟩, ⟨0, false, 2, L.map encLn⟩]) (fun _ => 0) () [20, 19, 5, 4] (fun _ => rfl) rfl trivial (by simp) (by ((repeat (refine Hold.cons (by exact rfl) ?_)); exact Hold.nil)) rfl ?_
  rintro ⟨⟩ -
  repeat (first | apply ef_seq | (apply ef_bin; exact rfl; exact rfl; exact rfl; (exact cmp_f rfl (by simp only [cmpP]; omega))) | (apply ef_ldp; exact rfl; exact rfl; (exact rfl); exact rfl; (exact rfl); (exact rd_2 rfl rfl)) | (apply ef_st; exact rfl; exact rfl; exact rfl; exact rfl; exact rfl; exact rfl; (exact rfl); exact rfl) | apply ef_nil | apply seqQ.normal | apply loopQ.exit | apply ef_ret | apply ef_exit | apply seqQ.exit | apply blockQ.here | (apply ef_condf; exact rfl; (exact (rfl : false = false))))
  (apply fin_cellz; (· exact rfl); (· exact ⟨1, 0, 0, 0, _, _, by exact rfl, by exact rfl, rfl, rfl, rd_2 rfl rfl⟩))
  exact frzF_agg2 rfl (frzF_arr (o := ⟨0, false, 2, L.map encLn⟩) rfl rfl (by simp) (ltL_Ln 0 _) rfl) (frzF_lt rfl)
theorem withN_z (k : Nat) (n : Nt) (h0 : 0 < n.ls.length) (h1 : n.ls.length ≤ 1000) (h2 : n.cs.length ≤ 1000) (ds : List Int) (hd : ds.length = n.cs.length) :
    runZ MT (orA (k + 1)) (itA (k + 1)) 4000000 42 [encN n, .sl (ds.map I64)] [] = some (encN (nW n ds), []) := by
  obtain ⟨ls, cs⟩ := n
  cases ls with
  | nil => simp at h0
  | cons l ls =>
    cases cs with
    | nil =>
      obtain rfl : ds = [] := List.length_eq_zero_iff.1 hd
      exact with0_z k l ls h1
    | cons c cs => exact with_z k l ls c cs h1 h2 ds hd
theorem withN_c (k : Nat) (n : Nt) (h0 : 0 < n.ls.length) (h1 : n.ls.length ≤ 1000) (h2 : n.cs.length ≤ 1000) (ds : List Int) (hd : ds.length = n.cs.length) (h : MHeap) :
    orA (k + 2) 42 [encN n, .sl (ds.map I64)] h = some (encN (nW n ds), h) := by
  have := callA (k := k + 1) (h := h) (args := [encN n, .sl (ds.map I64)]) (args' := [encN n, .sl (ds.map I64)]) (frzL_lt (by simp [ltL, MV.lt, ltL_Ln, ltL_Cr, ltL_I])) rfl (withN_z k n h0 h1 h2 ds hd) (by simp [okV, ok1, MV.lt, ltL, ltL_Ln, ltL_Cr, ltL_I]) rfl
  simpa [shV, sh1] using this
theorem wiU_get (cs : List Cr) (ds : List Int) : ∀ (N i : Nat) (hi : i < cs.length), i < N → (wiU cs ds N)[i]? = some (setD cs[i] (cAt ds i))
  | 0, i, _, h => by omega
  | N + 1, i, hi, h => by
    rw [wiU]
    by_cases e : i = N
    · subst e
      rw [List.getElem?_set_self (by rw [wiU_len]; exact hi), List.getD_eq_getElem?_getD, List.getElem?_eq_getElem hi]; rfl
    · rw [List.getElem?_set_ne (by omega)]
      exact wiU_get cs ds N i hi (by omega)
theorem nW_get (n : Nt) (ds : List Int) (i : Nat) (hi : i < n.cs.length) (hi2 : i < (nW n ds).cs.length) : (nW n ds).cs[i] = setD n.cs[i] (cAt ds i) := by
  have := wiU_get n.cs ds n.cs.length i hi hi
  rw [List.getElem?_eq_getElem (by rw [wiU_len]; exact hi)] at this
  exact Option.some.inj this
theorem nW_ok {n : Nt} (ok : OkN n) {ds : List Int} (hb : ∀ v, -10000 ≤ cAt ds v ∧ cAt ds v ≤ 10000) : OkN (nW n ds) := by
  have hlen : (nW n ds).cs.length = n.cs.length := wiU_len _ _ _
  have key : ∀ x ∈ (nW n ds).cs, ∃ (i : Nat) (h : i < n.cs.length), x = setD n.cs[i] (cAt ds i) := fun x hx => by
    obtain ⟨i, hi, rfl⟩ := List.getElem_of_mem hx
    exact ⟨i, by omega, nW_get n ds i (by omega) hi⟩
  refine ⟨ok.l1, ok.l8, by rw [hlen]; exact ok.c16, fun x hx => ?_, fun x hx => ?_, fun i j hi hj hij => ?_⟩
  · obtain ⟨i, hi, rfl⟩ := key x hx
    have o := ok.rg _ (List.getElem_mem hi)
    exact ⟨o.l0, o.l1, o.t0, o.t1, o.pa, o.pt, hb _, o.wt⟩
  · obtain ⟨i, hi, rfl⟩ := key x hx
    have hk := ok.kd n.cs[i] (List.getElem_mem hi)
    exact hk
  · rw [nW_get n ds i (by omega) hi, nW_get n ds j (by omega) hj]
    exact ok.ds i j (by omega) (by omega) hij
end Go.Proofs.Ytbdleggmdbihnaa

/- Contracts: the document's net with other differences. -/
namespace Go.Proofs.Ytbdleggmdbihnaa
open Go.RowKit
set_option linter.unusedVariables false
set_option linter.unusedSimpArgs false
theorem mf_rWith : MT.mf 21 = some ⟨25, [(.cell 4 (some 2))], (.seq (.reg [⟨none, some 2, .box 2 (.s 0)⟩, ⟨none, some 4, .new (.agg [(.lit (.slice none 0 0)), (.lit (.slice none 0 0))])⟩]) (.seq (.reg [⟨none, some 7, .ld (some 2) (.s 2)⟩, ⟨none, some 8, .call 12 [.s 7]⟩, ⟨none, some 5, .new (.agg [(.lit (.slice none 0 0)), (.lit (.slice none 0 0))])⟩, ⟨none, none, .st 2 (.s 5) (.s 8)⟩]) (.seq (.seq (.reg [⟨none, some 6, .mv (.c (.lit (.int .i64 0)))⟩]) (.block 0 (.loop [6, 1, 5, 4] (.seq (.seq (.reg [⟨none, some 9, .mv (.s 6)⟩, ⟨none, some 10, .mv (.s 1)⟩, ⟨none, some 11, .len (.s 10)⟩, ⟨none, some 12, .bin .lss (.s 9) (.s 11)⟩]) (.cond (.s 12) .skip (.exit 0))) (.seq (.block 1 (.reg [⟨none, some 15, .fa 1 (.s 5)⟩, ⟨none, some 16, .ld none (.s 15)⟩, ⟨none, some 17, .mv (.s 6)⟩, ⟨none, some 18, .mv (.s 1)⟩, ⟨none, some 19, .mv (.s 6)⟩, ⟨none, some 20, .ia 1 (.s 18) (.s 19)⟩, ⟨none, some 21, .ld none (.s 20)⟩, ⟨none, some 22, .ia 6 (.s 16) (.s 17)⟩, ⟨none, some 23, .fa 4 (.s 22)⟩, ⟨none, none, .st 1 (.s 23) (.s 21)⟩])) (.reg [⟨none, some 13, .mv (.s 6)⟩, ⟨none, some 14, .bin .add (.s 13) (.c (.lit (.int .i64 1)))⟩, ⟨none, some 6, .mv (.s 14)⟩])))))) (.seq (.reg [⟨none, some 24, .ld (some 2) (.s 5)⟩, ⟨none, none, .st 2 (.s 4) (.s 24)⟩]) .ret))))⟩ := by kernel_rfl
set_option maxHeartbeats 2000000 in
theorem rWith_z (k : Nat) (l : Ln) (ls : List Ln) (c : Cr) (cs : List Cr) (hb : BdN ⟨l :: ls, c :: cs⟩) (h2 : (c :: cs).length ≤ 1000) (ds : List Int) (hd : ds.length = (c :: cs).length) :
    runZ MT (orA (k + 1)) (itA (k + 1)) 4000000 21 [encN ⟨l :: ls, c :: cs⟩, .sl (ds.map I64)] [] = some (encN (nW ⟨l :: ls, c :: cs⟩ ds), []) := by
  have hs3 : (MV.sl (ds.map I64)).slen = some ds.length := by simp [MV.slen]
  have w1 := fun h => Copy_c k ⟨l :: ls, c :: cs⟩ hb h
  simp only [cpV, cpH] at w1
  refine runZ_of mf_rWith (by simp) ?_
  simp only [argsL]
  generalize hL : l :: ls = L at *
  generalize hC : c :: cs = C at *
  repeat (first | apply ef_seq | (apply ef_mv; exact rfl; exact rfl) | (apply ef_ldp; exact rfl; exact rfl; (exact rfl); exact rfl; (exact rfl); (exact rd_2 rfl rfl)) | (apply ef_box; exact rfl; exact rfl; exact rfl; exact rfl) | (apply ef_new; exact rfl) | (apply ef_st; exact rfl; exact rfl; exact rfl; exact rfl; exact rfl; exact rfl; (exact rfl); exact rfl) | apply ef_nil | apply seqQ.normal | apply ef_block | (apply ef_call; exact rfl; ((repeat (apply XVs.cons; exact rfl)); exact XVs.nil); (with_reducible exact w1 _)))
  refine ef_loopf (α := Nat × List MV) (fun p => p.1 ≤ C.length ∧ p.2 = (wiU C ds p.1).map encCr) (fun p => [(6, I64 (p.1 : Int))]) [(1, .sl (ds.map I64)), (5, .ptr 4 0 0 0), (4, .ptr 1 0 0 0)] (fun p => [⟨0, false, 2, [encN ⟨L, C⟩]⟩, ⟨0, false, 2, [.agg [.lit (.slice none 0 0), .lit (.slice none 0 0)]]⟩, ⟨0, false, 2, L.map encLn⟩, ⟨0, false, 6, p.2⟩, ⟨0, false, 2, [.agg [.arr 2 0 L.length 0, .arr 3 0 C.length 0]]⟩]) (fun p => C.length - p.1) (0, C.map encCr) [6] (fun _ => rfl) (by ((repeat (refine Hold.cons (by exact rfl) ?_)); exact Hold.nil)) (by ((repeat (refine Hold.cons (by exact rfl) ?_)); exact Hold.nil)) rfl rfl ⟨by omega, rfl⟩ (by simp; omega) ?_
  rintro ⟨i, rs⟩ ⟨hi, hrs⟩
  try simp only at hi hrs ⊢
  have hrl : rs.length = C.length := by rw [hrs]; simp [wiU_len]
  by_cases hlt : i < C.length
  · have e1 := at_map I64 ds i (by omega)
    have hat : C[i]? = some C[i] := List.getElem?_eq_getElem hlt
    have e2 : rs[0 + ((i : Nat) : Int).toNat]? = some (encCr C[i]) := by
      rw [hrs, Nat.zero_add, Int.toNat_natCast, List.getElem?_map, wiU_at C ds i i (Nat.le_refl _), hat]; rfl
    have hcd : cAt ds (i : Int) = ds[i] := by unfold cAt; rw [Int.toNat_natCast, List.getD_eq_getElem?_getD, List.getElem?_eq_getElem (by omega)]; rfl
    have HN := Lib.hid (wiU_next (ds := ds) hat)
    rw [hcd] at HN
    generalize C[i] = x at e2 HN
    generalize ds[i] = d at e1 HN
    have hls : ∀ (j i : Nat) (a b c d e f : Int), ltL j (rs.set i (.agg [I64 a, I64 b, I64 c, I64 d, I64 e, I64 f])) = true := fun j i a b c d e f => ltL_set (by rw [hrs]; exact ltL_Cr j _) rfl
    repeat (first | apply ef_seq | (apply ef_mv; exact rfl; exact rfl) | (apply ef_bin; exact rfl; exact rfl; exact rfl; (first | exact cmp_t rfl (by first | exact rfl | (simp only [cmpP]; omega)) | ((with_reducible refine bin_add (wrap_of ?_ ?_)) <;> omega))) | (apply ef_len; exact rfl; exact rfl; (assumption)) | (apply ef_ldr; exact rfl; exact rfl; (exact rfl)) | (apply ef_ldp; exact rfl; exact rfl; (exact rfl); exact rfl; (exact rfl); (exact rfl)) | (apply ef_ias; exact rfl; exact rfl; exact rfl; (omega); assumption; exact rfl) | (apply ef_iaa; exact rfl; exact rfl; exact rfl; (omega); (omega); (exact rfl)) | (apply ef_fap; exact rfl; exact rfl) | (apply ef_st; exact rfl; exact rfl; exact rfl; exact rfl; exact rfl; exact rfl; (assumption); exact rfl) | apply ef_nil | apply seqQ.normal | apply blockQ.normal | apply ef_block | apply ef_skip | (apply ef_condt; exact rfl; (exact (rfl : true = true))))
    (refine loopQ.normal _ _ ⟨(i + 1, rs.set (0 + ((i : Nat) : Int).toNat) (encCr (setD x d))), ⟨hlt, by rw [HN.out, hrs, Nat.zero_add, Int.toNat_natCast, List.map_set]⟩, (by first | (simp only; omega) | omega), ⟨by ((repeat (refine Hold.cons (by exact rfl) ?_)); exact Hold.nil), by ((repeat (refine Hold.cons (by exact rfl) ?_)); exact Hold.nil)⟩, .inr ⟨by ((repeat (refine hdl_cons rfl (by first | rfl | (simp [MV.lt, ltL, ltL_Ln, ltL_Cr, ltL_I, hls, splice, MV.cells])) ?_)); exact hdl_nil), by (simp [hltL, ltL, MV.lt, ltL, ltL_Ln, ltL_Cr, ltL_I, hls, splice, MV.cells])⟩, by exact rfl⟩)
  · obtain rfl : i = C.length := by omega
    repeat (first | apply ef_seq | (apply ef_mv; exact rfl; exact rfl) | (apply ef_bin; exact rfl; exact rfl; exact rfl; (exact cmp_f rfl (by simp only [cmpP]; omega))) | (apply ef_len; exact rfl; exact rfl; (assumption)) | (apply ef_ldp; exact rfl; exact rfl; (exact rfl); exact rfl; (exact rfl); (exact rd_2 rfl rfl)) | (apply ef_st; exact rfl; exact rfl; exact rfl; exact rfl; exact rfl; exact rfl; (exact rfl); exact rfl) | apply ef_nil | apply seqQ.normal | apply loopQ.exit | apply ef_ret | apply ef_exit | apply seqQ.exit | apply blockQ.here | (apply ef_condf; exact rfl; (exact (rfl : false = false))))
    (apply fin_cellz; (· exact rfl); (· exact ⟨1, 0, 0, 0, _, _, by exact rfl, by exact rfl, rfl, rfl, rd_2 rfl rfl⟩))
    exact frzF_agg2 rfl (frzF_arr (o := ⟨0, false, 2, L.map encLn⟩) rfl rfl (by simp [nW]) (ltL_Ln 0 _) rfl) (frzF_arr (o := ⟨0, false, 6, rs⟩) rfl rfl (by simp [nW, wiU_len]) (ltL_Cr 0 _) hrs)
theorem rWith0_z (k : Nat) (l : Ln) (ls : List Ln) (hb : BdN ⟨l :: ls, []⟩) :
    runZ MT (orA (k + 1)) (itA (k + 1)) 4000000 21 [encN ⟨l :: ls, []⟩, .sl []] [] = some (encN ⟨l :: ls, []⟩, []) := by
  have w1 := fun h => Copy_c k ⟨l :: ls, []⟩ hb h
  simp only [cpV, cpH] at w1
  refine runZ_of mf_rWith (by simp) ?_
  simp only [argsL]
  generalize hL : l :: ls = L at *
  repeat (first | apply ef_seq | (apply ef_mv; exact rfl; exact rfl) | (apply ef_ldp; exact rfl; exact rfl; (exact rfl); exact rfl; (exact rfl); (exact rd_2 rfl rfl)) | (apply ef_box; exact rfl; exact rfl; exact rfl; exact rfl) | (apply ef_new; exact rfl) | (apply ef_st; exact rfl; exact rfl; exact rfl; exact rfl; exact rfl; exact rfl; (exact rfl); exact rfl) | apply ef_nil | apply seqQ.normal | apply ef_block | (apply ef_call; exact rfl; ((repeat (apply XVs.cons; exact rfl)); exact XVs.nil); (with_reducible exact w1 _)))
  refine ef_loop (α := Unit) (fun _ => True) (fun _ => [(6, I64 0), (1, .sl []), (4, .ptr 1 0 0 0), (5, .ptr 3 0 0 0)]) (fun _ => [⟨0, false, 2, [encN ⟨L, []⟩]⟩, ⟨0, false, 2, [.agg [.lit (.slice none 0 0), .lit (.slice none 0 0)]]⟩, ⟨0, false, 2, L.map encLn⟩, ⟨0, false, 2, [.agg [.arr 2 0 L.length 0, .sl []]]⟩]) (fun _ => 0) () [6, 1, 4, 5] (fun _ => rfl) rfl trivial (by simp) (by ((repeat (refine Hold.cons (by exact rfl) ?_)); exact Hold.nil)) rfl ?_
  rintro ⟨⟩ -
  repeat (first | apply ef_seq | (apply ef_mv; exact rfl; exact rfl) | (apply ef_bin; exact rfl; exact rfl; exact rfl; (exact rfl)) | (apply ef_len; exact rfl; exact rfl; (exact rfl)) | (apply ef_ldp; exact rfl; exact rfl; (exact rfl); exact rfl; (exact rfl); (exact rd_2 rfl rfl)) | (apply ef_st; exact rfl; exact rfl; exact rfl; exact rfl; exact rfl; exact rfl; (exact rfl); exact rfl) | apply ef_nil | apply seqQ.normal | apply loopQ.exit | apply ef_ret | apply ef_exit | apply seqQ.exit | apply blockQ.here | (apply ef_condf; exact rfl; (exact (rfl : false = false))))
  (apply fin_cellz; (· exact rfl); (· exact ⟨1, 0, 0, 0, _, _, by exact rfl, by exact rfl, rfl, rfl, rd_2 rfl rfl⟩))
  exact frzF_agg2 rfl (frzF_arr (o := ⟨0, false, 2, L.map encLn⟩) rfl rfl (by simp) (ltL_Ln 0 _) rfl) (frzF_lt rfl)
theorem rWithN_z (k : Nat) (n : Nt) (hb : BdN n) (h0 : 0 < n.ls.length) (h2 : n.cs.length ≤ 1000) (ds : List Int) (hd : ds.length = n.cs.length) :
    runZ MT (orA (k + 1)) (itA (k + 1)) 4000000 21 [encN n, .sl (ds.map I64)] [] = some (encN (nW n ds), []) := by
  obtain ⟨ls, cs⟩ := n
  cases ls with
  | nil => simp at h0
  | cons l ls =>
    cases cs with
    | nil =>
      obtain rfl : ds = [] := List.length_eq_zero_iff.1 hd
      exact rWith0_z k l ls hb
    | cons c cs => exact rWith_z k l ls c cs hb h2 ds hd
theorem rWithN_c (k : Nat) (n : Nt) (hb : BdN n) (h0 : 0 < n.ls.length) (h2 : n.cs.length ≤ 1000) (ds : List Int) (hd : ds.length = n.cs.length) (h : MHeap) :
    orA (k + 2) 21 [encN n, .sl (ds.map I64)] h = some (encN (nW n ds), h) := by
  have := callA (k := k + 1) (h := h) (args := [encN n, .sl (ds.map I64)]) (args' := [encN n, .sl (ds.map I64)]) (frzL_lt (by simp [ltL, MV.lt, ltL_Ln, ltL_Cr, ltL_I])) rfl (rWithN_z k n hb h0 h2 ds hd) (by simp [okV, ok1, MV.lt, ltL, ltL_Ln, ltL_Cr, ltL_I]) rfl
  simpa [shV, sh1] using this
end Go.Proofs.Ytbdleggmdbihnaa

/- Contracts: which flows are accepted, and their values; the program, and the document. -/
namespace Go.Proofs.Ytbdleggmdbihnaa
open Go.RowKit
set_option linter.unusedVariables false
set_option linter.unusedSimpArgs false
end Go.Proofs.Ytbdleggmdbihnaa

/- Contracts of the document: the error and the value of a flow. -/
namespace Go.Proofs.Ytbdleggmdbihnaa
open Go.RowKit
set_option linter.unusedVariables false
set_option linter.unusedSimpArgs false
end Go.Proofs.Ytbdleggmdbihnaa

/- Contracts: the misclosure of a walk; the program, and the document. -/
namespace Go.Proofs.Ytbdleggmdbihnaa
open Go.RowKit
set_option linter.unusedVariables false
set_option linter.unusedSimpArgs false
def mcE (cs : List Cr) : List Int → Nat → Int → Int → Int → Int × Int
  | [], _, b, a, s => if a = b then (s, 0) else (0, 21)
  | i :: w, k, b, a, s =>
    if inB i 0 ((cs.length : Int) - 1) = false then (0, 6)
    else
      let x := cs.getD i.toNat default
      let fr := if k % 2 = 1 then x.ti else x.ln
      let t := if k % 2 = 1 then x.ln else x.ti
      let d := if k % 2 = 1 then 0 - x.df else x.df
      let b' := if k = 0 then fr else b
      let a' := if k = 0 then fr else a
      if fr ≠ a' then (0, 14) else mcE cs w (k + 1) b' t (s + d)
def misF (cs : List Cr) (w : List Int) : Int × Int :=
  if 0 < w.length ∧ w.length % 2 = 0 then (if w.length ≤ 32 then mcE cs w 0 (-1) (-1) 0 else (0, 8)) else (0, 10)
theorem mcE_nil (cs : List Cr) (k : Nat) (b a s : Int) : mcE cs [] k b a s = if a = b then (s, 0) else (0, 21) := rfl
theorem mcE_out {cs : List Cr} {i : Int} {w : List Int} {k : Nat} {b a s : Int} (h : inB i 0 ((cs.length : Int) - 1) = false) : mcE cs (i :: w) k b a s = (0, 6) := by rw [mcE, if_pos h]
theorem mcE_in {cs : List Cr} {i : Int} {w : List Int} {k : Nat} {b a s : Int} (h : inB i 0 ((cs.length : Int) - 1) = true) {x : Cr} (hx : cs.getD i.toNat default = x) {fr t d : Int} (h1 : (if k % 2 = 1 then x.ti else x.ln) = fr) (h2 : (if k % 2 = 1 then x.ln else x.ti) = t) (h3 : (if k % 2 = 1 then 0 - x.df else x.df) = d) :
    mcE cs (i :: w) k b a s = if fr ≠ (if k = 0 then fr else a) then (0, 14) else mcE cs w (k + 1) (if k = 0 then fr else b) t (s + d) := by
  rw [mcE, if_neg (by rw [h]; simp)]
  simp only [hx, h1, h2, h3]
theorem mcE_z {cs : List Cr} {i : Int} {w : List Int} {b a s : Int} (h : inB i 0 ((cs.length : Int) - 1) = true) {x : Cr} (hx : cs.getD i.toNat default = x) : mcE cs (i :: w) 0 b a s = mcE cs w 1 x.ln x.ti (s + x.df) := by
  rw [mcE_in h hx (fr := x.ln) (t := x.ti) (d := x.df) rfl rfl rfl, if_neg (by simp)]; rfl
theorem mcE_o {cs : List Cr} {i : Int} {w : List Int} {k : Nat} {b a s : Int} (h : inB i 0 ((cs.length : Int) - 1) = true) {x : Cr} (hx : cs.getD i.toNat default = x) (hk : k % 2 = 1) : mcE cs (i :: w) k b a s = if x.ti = a then mcE cs w (k + 1) b x.ln (s + (0 - x.df)) else (0, 14) := by
  rw [mcE_in h hx (fr := x.ti) (t := x.ln) (d := 0 - x.df) (by rw [if_pos hk]) (by rw [if_pos hk]) (by rw [if_pos hk]), if_neg (show ¬ k = 0 by omega), if_neg (show ¬ k = 0 by omega)]
  by_cases e : x.ti = a
  · rw [if_neg (by simpa using e), if_pos e]
  · rw [if_pos e, if_neg e]
theorem mcE_e {cs : List Cr} {i : Int} {w : List Int} {k : Nat} {b a s : Int} (h : inB i 0 ((cs.length : Int) - 1) = true) {x : Cr} (hx : cs.getD i.toNat default = x) (hk : k % 2 = 0) (h0 : k ≠ 0) : mcE cs (i :: w) k b a s = if x.ln = a then mcE cs w (k + 1) b x.ti (s + x.df) else (0, 14) := by
  rw [mcE_in h hx (fr := x.ln) (t := x.ti) (d := x.df) (by rw [if_neg (by omega)]) (by rw [if_neg (by omega)]) (by rw [if_neg (by omega)]), if_neg h0, if_neg h0]
  by_cases e : x.ln = a
  · rw [if_neg (by simpa using e), if_pos e]
  · rw [if_pos e, if_neg e]
theorem cr_at2 {n : Nt} {i : Int} (h0 : 0 ≤ i) (h1 : i < (n.cs.length : Int)) : (n.cs.map encCr)[i.toNat]? = some (encCr (n.cs.getD i.toNat default)) := by
  have h : i.toNat < n.cs.length := by omega
  rw [List.getElem?_map, List.getD_eq_getElem?_getD, List.getElem?_eq_getElem h]; rfl
def msF (n : Nt) (w : List Int) : Int × Int := if (netF n).2 = 0 then misF n.cs w else (0, (netF n).2)
abbrev msH (n : Nt) : MHeap := [⟨0, false, 2, [encN n]⟩, ⟨0, false, 2, [encN n]⟩, ⟨0, false, 1, [I64 0, I64 0, I64 0]⟩]
theorem mf_Mis : MT.mf 20 = some mfW_l20 := mfW_q20
set_option maxHeartbeats 4000000 in
theorem Mis_z (k : Nat) (n : Nt) (hb : BdN n) (w : List Int) (hw : w.length ≤ 1000) :
    runZ MT (orA (k + 6)) (itA (k + 6)) 4000000 20 [encN n, .sl (w.map I64)] [] = some (.tup [I64 (msF n w).1, I64 (msF n w).2], []) := by
  have hs2 : (MV.sl (n.cs.map encCr)).slen = some n.cs.length := by simp [MV.slen]
  have hs3 : (MV.sl (w.map I64)).slen = some w.length := by simp [MV.slen]
  have w1 := fun h => open_c k n hb h
  have w2 := fun b e h => unless_c (k + 5) b e h rfl
  have hmod : ((w.length : Int)).tmod 2 = ((w.length % 2 : Nat) : Int) := by rw [Int.tmod_eq_emod_of_nonneg (by omega)]; omega
  refine runZ_of mf_Mis (by simp [mfW_l20]) ?_
  simp only [mfW_l20, argsL]
  by_cases h0 : (netF n).2 = 0
  rotate_left
  · rw [show msF n w = (0, (netF n).2) by unfold msF; rw [if_neg h0]]
    generalize (netF n).2 = e at *
    have hfe : ∀ y z, firstE [e, y, z] = e := fun y z => by unfold firstE; rw [if_pos h0]
    by_cases c1 : w.length = 0
    · repeat (first | apply ef_seq | (apply ef_mv; exact rfl; exact rfl) | (apply ef_bin; exact rfl; exact rfl; exact rfl; (first | exact cmp_t rfl (by first | exact rfl | (simp only [cmpP]; omega)) | exact cmp_f rfl (by simp only [cmpP]; omega))) | (apply ef_gn; exact rfl; (exact (rfl : false = false)); exact rfl) | (apply ef_pick; exact rfl; exact rfl; exact rfl) | (apply ef_len; exact rfl; exact rfl; (assumption)) | (apply ef_ldp; exact rfl; exact rfl; (exact rfl); exact rfl; (exact rfl); (exact rd_2 rfl rfl)) | (apply ef_ext; exact rfl; exact rfl; exact rfl) | (apply ef_box; exact rfl; exact rfl; exact rfl; exact rfl) | (apply ef_new; exact rfl) | (apply ef_bsl; exact rfl; (repeat (apply XVs.cons; exact rfl)); exact XVs.nil; exact rfl) | (apply ef_st; exact rfl; exact rfl; exact rfl; exact rfl; exact rfl; exact rfl; (exact rfl); exact rfl) | apply ef_nil | apply seqQ.normal | apply ef_ret | apply seqQ.ret | (apply ef_condt; exact rfl; (exact (rfl : true = true))) | (apply ef_call; exact rfl; ((repeat (apply XVs.cons; exact rfl)); exact XVs.nil); (with_reducible first | exact w1 _ | exact w2 _ _ _)) | (apply ef_call; exact rfl; ((repeat (apply XVs.cons; exact rfl)); exact XVs.nil); (with_reducible apply first3_c); exact rfl; exact rfl; exact rfl; exact hfe _ _))
      (apply fin2; (· exact rfl); (· exact rfl); (· exact rfl); (· rfl))
    · by_cases c2 : w.length % 2 = 0
      · by_cases c3 : w.length ≤ 32
        · repeat (first | apply ef_seq | (apply ef_mv; exact rfl; exact rfl) | (apply ef_bin; exact rfl; exact rfl; exact rfl; (first | exact cmp_t rfl (by first | exact rfl | (simp only [cmpP]; omega)) | exact rfl)) | (apply ef_gy; exact rfl; (exact (rfl : true = true))) | (apply ef_pick; exact rfl; exact rfl; exact rfl) | (apply ef_len; exact rfl; exact rfl; (assumption)) | (apply ef_ldp; exact rfl; exact rfl; (exact rfl); exact rfl; (exact rfl); (exact rd_2 rfl rfl)) | (apply ef_ext; exact rfl; exact rfl; exact rfl) | (apply ef_box; exact rfl; exact rfl; exact rfl; exact rfl) | (apply ef_new; exact rfl) | (apply ef_bsl; exact rfl; (repeat (apply XVs.cons; exact rfl)); exact XVs.nil; exact rfl) | (apply ef_st; exact rfl; exact rfl; exact rfl; exact rfl; exact rfl; exact rfl; (exact rfl); exact rfl) | apply ef_nil | apply seqQ.normal | apply ef_ret | apply seqQ.ret | (apply ef_condt; exact rfl; (exact (rfl : true = true))) | (apply ef_call; exact rfl; ((repeat (apply XVs.cons; exact rfl)); exact XVs.nil); (with_reducible first | exact w1 _ | exact w2 _ _ _)) | (apply ef_call; exact rfl; ((repeat (apply XVs.cons; exact rfl)); exact XVs.nil); (with_reducible apply first3_c); exact rfl; exact rfl; exact rfl; exact hfe _ _))
          (apply fin2; (· exact rfl); (· exact rfl); (· exact rfl); (· rfl))
        · repeat (first | apply ef_seq | (apply ef_mv; exact rfl; exact rfl) | (apply ef_bin; exact rfl; exact rfl; exact rfl; (first | exact cmp_t rfl (by first | exact rfl | (simp only [cmpP]; omega)) | exact cmp_f rfl (by simp only [cmpP]; omega) | exact rfl)) | (apply ef_gy; exact rfl; (exact (rfl : true = true))) | (apply ef_pick; exact rfl; exact rfl; exact rfl) | (apply ef_len; exact rfl; exact rfl; (assumption)) | (apply ef_ldp; exact rfl; exact rfl; (exact rfl); exact rfl; (exact rfl); (exact rd_2 rfl rfl)) | (apply ef_ext; exact rfl; exact rfl; exact rfl) | (apply ef_box; exact rfl; exact rfl; exact rfl; exact rfl) | (apply ef_new; exact rfl) | (apply ef_bsl; exact rfl; (repeat (apply XVs.cons; exact rfl)); exact XVs.nil; exact rfl) | (apply ef_st; exact rfl; exact rfl; exact rfl; exact rfl; exact rfl; exact rfl; (exact rfl); exact rfl) | apply ef_nil | apply seqQ.normal | apply ef_ret | apply seqQ.ret | (apply ef_condt; exact rfl; (exact (rfl : true = true))) | (apply ef_call; exact rfl; ((repeat (apply XVs.cons; exact rfl)); exact XVs.nil); (with_reducible first | exact w1 _ | exact w2 _ _ _)) | (apply ef_call; exact rfl; ((repeat (apply XVs.cons; exact rfl)); exact XVs.nil); (with_reducible apply first3_c); exact rfl; exact rfl; exact rfl; exact hfe _ _))
          (apply fin2; (· exact rfl); (· exact rfl); (· exact rfl); (· rfl))
      · by_cases c3 : w.length ≤ 32
        · repeat (first | apply ef_seq | (apply ef_mv; exact rfl; exact rfl) | (apply ef_bin; exact rfl; exact rfl; exact rfl; (first | exact cmp_t rfl (by first | exact rfl | (simp only [cmpP]; omega)) | exact cmp_f rfl (by simp only [cmpP]; omega) | exact rfl)) | (apply ef_gy; exact rfl; (exact (rfl : true = true))) | (apply ef_pick; exact rfl; exact rfl; exact rfl) | (apply ef_len; exact rfl; exact rfl; (assumption)) | (apply ef_ldp; exact rfl; exact rfl; (exact rfl); exact rfl; (exact rfl); (exact rd_2 rfl rfl)) | (apply ef_ext; exact rfl; exact rfl; exact rfl) | (apply ef_box; exact rfl; exact rfl; exact rfl; exact rfl) | (apply ef_new; exact rfl) | (apply ef_bsl; exact rfl; (repeat (apply XVs.cons; exact rfl)); exact XVs.nil; exact rfl) | (apply ef_st; exact rfl; exact rfl; exact rfl; exact rfl; exact rfl; exact rfl; (exact rfl); exact rfl) | apply ef_nil | apply seqQ.normal | apply ef_ret | apply seqQ.ret | (apply ef_condt; exact rfl; (exact (rfl : true = true))) | (apply ef_call; exact rfl; ((repeat (apply XVs.cons; exact rfl)); exact XVs.nil); (with_reducible first | exact w1 _ | exact w2 _ _ _)) | (apply ef_call; exact rfl; ((repeat (apply XVs.cons; exact rfl)); exact XVs.nil); (with_reducible apply first3_c); exact rfl; exact rfl; exact rfl; exact hfe _ _))
          (apply fin2; (· exact rfl); (· exact rfl); (· exact rfl); (· rfl))
        · repeat (first | apply ef_seq | (apply ef_mv; exact rfl; exact rfl) | (apply ef_bin; exact rfl; exact rfl; exact rfl; (first | exact cmp_t rfl (by first | exact rfl | (simp only [cmpP]; omega)) | exact cmp_f rfl (by simp only [cmpP]; omega) | exact rfl)) | (apply ef_gy; exact rfl; (exact (rfl : true = true))) | (apply ef_pick; exact rfl; exact rfl; exact rfl) | (apply ef_len; exact rfl; exact rfl; (assumption)) | (apply ef_ldp; exact rfl; exact rfl; (exact rfl); exact rfl; (exact rfl); (exact rd_2 rfl rfl)) | (apply ef_ext; exact rfl; exact rfl; exact rfl) | (apply ef_box; exact rfl; exact rfl; exact rfl; exact rfl) | (apply ef_new; exact rfl) | (apply ef_bsl; exact rfl; (repeat (apply XVs.cons; exact rfl)); exact XVs.nil; exact rfl) | (apply ef_st; exact rfl; exact rfl; exact rfl; exact rfl; exact rfl; exact rfl; (exact rfl); exact rfl) | apply ef_nil | apply seqQ.normal | apply ef_ret | apply seqQ.ret | (apply ef_condt; exact rfl; (exact (rfl : true = true))) | (apply ef_call; exact rfl; ((repeat (apply XVs.cons; exact rfl)); exact XVs.nil); (with_reducible first | exact w1 _ | exact w2 _ _ _)) | (apply ef_call; exact rfl; ((repeat (apply XVs.cons; exact rfl)); exact XVs.nil); (with_reducible apply first3_c); exact rfl; exact rfl; exact rfl; exact hfe _ _))
          (apply fin2; (· exact rfl); (· exact rfl); (· exact rfl); (· rfl))
  have ok := net_ok h0
  have c16 := ok.c16
  rw [h0] at w1
  rw [show msF n w = misF n.cs w by unfold msF; rw [if_pos h0]]
  have HM := Lib.hid (show misF n.cs w = if 0 < w.length ∧ w.length % 2 = 0 then (if w.length ≤ 32 then mcE n.cs w 0 (-1) (-1) 0 else (0, 8)) else (0, 10) from rfl)
  by_cases c1 : w.length = 0
  · rw [HM.out, if_neg (by omega)]
    repeat (first | apply ef_seq | (apply ef_mv; exact rfl; exact rfl) | (apply ef_bin; exact rfl; exact rfl; exact rfl; (first | exact cmp_t rfl (by first | exact rfl | (simp only [cmpP]; omega)) | exact cmp_f rfl (by simp only [cmpP]; omega) | exact rfl)) | (apply ef_gn; exact rfl; (exact (rfl : false = false)); exact rfl) | (apply ef_pick; exact rfl; exact rfl; exact rfl) | (apply ef_len; exact rfl; exact rfl; (assumption)) | (apply ef_ldp; exact rfl; exact rfl; (exact rfl); exact rfl; (exact rfl); (exact rd_2 rfl rfl)) | (apply ef_ext; exact rfl; exact rfl; exact rfl) | (apply ef_box; exact rfl; exact rfl; exact rfl; exact rfl) | (apply ef_new; exact rfl) | (apply ef_bsl; exact rfl; (repeat (apply XVs.cons; exact rfl)); exact XVs.nil; exact rfl) | (apply ef_st; exact rfl; exact rfl; exact rfl; exact rfl; exact rfl; exact rfl; (exact rfl); exact rfl) | apply ef_nil | apply seqQ.normal | apply ef_ret | apply seqQ.ret | (apply ef_condt; exact rfl; (exact (rfl : true = true))) | (apply ef_call; exact rfl; ((repeat (apply XVs.cons; exact rfl)); exact XVs.nil); (with_reducible first | exact w1 _ | exact w2 _ _ _)) | (apply ef_call; exact rfl; ((repeat (apply XVs.cons; exact rfl)); exact XVs.nil); (with_reducible apply first3_c); exact rfl; exact rfl; exact rfl; (exact rfl)))
    (apply fin2; (· exact rfl); (· exact rfl); (· exact rfl); (· rfl))
  by_cases c2 : w.length % 2 = 1
  · rw [HM.out, if_neg (by omega)]
    by_cases c3 : w.length ≤ 32
    · repeat (first | apply ef_seq | (apply ef_mv; exact rfl; exact rfl) | (apply ef_bin; exact rfl; exact rfl; exact rfl; (first | exact cmp_t rfl (by first | exact rfl | (simp only [cmpP]; omega)) | exact cmp_f rfl (by simp only [cmpP]; omega) | exact rfl)) | (apply ef_gy; exact rfl; (exact (rfl : true = true))) | (apply ef_pick; exact rfl; exact rfl; exact rfl) | (apply ef_len; exact rfl; exact rfl; (assumption)) | (apply ef_ldp; exact rfl; exact rfl; (exact rfl); exact rfl; (exact rfl); (exact rd_2 rfl rfl)) | (apply ef_ext; exact rfl; exact rfl; exact rfl) | (apply ef_box; exact rfl; exact rfl; exact rfl; exact rfl) | (apply ef_new; exact rfl) | (apply ef_bsl; exact rfl; (repeat (apply XVs.cons; exact rfl)); exact XVs.nil; exact rfl) | (apply ef_st; exact rfl; exact rfl; exact rfl; exact rfl; exact rfl; exact rfl; (exact rfl); exact rfl) | apply ef_nil | apply seqQ.normal | apply ef_ret | apply seqQ.ret | (apply ef_condt; exact rfl; (exact (rfl : true = true))) | (apply ef_call; exact rfl; ((repeat (apply XVs.cons; exact rfl)); exact XVs.nil); (with_reducible first | exact w1 _ | exact w2 _ _ _)) | (apply ef_call; exact rfl; ((repeat (apply XVs.cons; exact rfl)); exact XVs.nil); (with_reducible apply first3_c); exact rfl; exact rfl; exact rfl; (exact rfl)))
      (apply fin2; (· exact rfl); (· exact rfl); (· exact rfl); (· rfl))
    · repeat (first | apply ef_seq | (apply ef_mv; exact rfl; exact rfl) | (apply ef_bin; exact rfl; exact rfl; exact rfl; (first | exact cmp_t rfl (by first | exact rfl | (simp only [cmpP]; omega)) | exact cmp_f rfl (by simp only [cmpP]; omega) | exact rfl)) | (apply ef_gy; exact rfl; (exact (rfl : true = true))) | (apply ef_pick; exact rfl; exact rfl; exact rfl) | (apply ef_len; exact rfl; exact rfl; (assumption)) | (apply ef_ldp; exact rfl; exact rfl; (exact rfl); exact rfl; (exact rfl); (exact rd_2 rfl rfl)) | (apply ef_ext; exact rfl; exact rfl; exact rfl) | (apply ef_box; exact rfl; exact rfl; exact rfl; exact rfl) | (apply ef_new; exact rfl) | (apply ef_bsl; exact rfl; (repeat (apply XVs.cons; exact rfl)); exact XVs.nil; exact rfl) | (apply ef_st; exact rfl; exact rfl; exact rfl; exact rfl; exact rfl; exact rfl; (exact rfl); exact rfl) | apply ef_nil | apply seqQ.normal | apply ef_ret | apply seqQ.ret | (apply ef_condt; exact rfl; (exact (rfl : true = true))) | (apply ef_call; exact rfl; ((repeat (apply XVs.cons; exact rfl)); exact XVs.nil); (with_reducible first | exact w1 _ | exact w2 _ _ _)) | (apply ef_call; exact rfl; ((repeat (apply XVs.cons; exact rfl)); exact XVs.nil); (with_reducible apply first3_c); exact rfl; exact rfl; exact rfl; (exact rfl)))
      (apply fin2; (· exact rfl); (· exact rfl); (· exact rfl); (· rfl))
  by_cases h2 : w.length ≤ 32
  rotate_left
  · rw [HM.out, if_pos (by omega), if_neg h2]
    repeat (first | apply ef_seq | (apply ef_mv; exact rfl; exact rfl) | (apply ef_bin; exact rfl; exact rfl; exact rfl; (first | exact cmp_t rfl (by first | exact rfl | (simp only [cmpP]; omega)) | exact cmp_f rfl (by simp only [cmpP]; omega) | exact rfl)) | (apply ef_gy; exact rfl; (exact (rfl : true = true))) | (apply ef_pick; exact rfl; exact rfl; exact rfl) | (apply ef_len; exact rfl; exact rfl; (assumption)) | (apply ef_ldp; exact rfl; exact rfl; (exact rfl); exact rfl; (exact rfl); (exact rd_2 rfl rfl)) | (apply ef_ext; exact rfl; exact rfl; exact rfl) | (apply ef_box; exact rfl; exact rfl; exact rfl; exact rfl) | (apply ef_new; exact rfl) | (apply ef_bsl; exact rfl; (repeat (apply XVs.cons; exact rfl)); exact XVs.nil; exact rfl) | (apply ef_st; exact rfl; exact rfl; exact rfl; exact rfl; exact rfl; exact rfl; (exact rfl); exact rfl) | apply ef_nil | apply seqQ.normal | apply ef_ret | apply seqQ.ret | (apply ef_condt; exact rfl; (exact (rfl : true = true))) | (apply ef_call; exact rfl; ((repeat (apply XVs.cons; exact rfl)); exact XVs.nil); (with_reducible first | exact w1 _ | exact w2 _ _ _)) | (apply ef_call; exact rfl; ((repeat (apply XVs.cons; exact rfl)); exact XVs.nil); (with_reducible apply first3_c); exact rfl; exact rfl; exact rfl; (exact rfl)))
    (apply fin2; (· exact rfl); (· exact rfl); (· exact rfl); (· rfl))
  have HM2 : misF n.cs w = mcE n.cs w 0 (-1) (-1) 0 := by rw [HM.out, if_pos (by omega), if_pos h2]
  clear HM
  repeat (first | apply ef_seq | (apply ef_mv; exact rfl; exact rfl) | (apply ef_bin; exact rfl; exact rfl; exact rfl; (first | exact cmp_t rfl (by first | exact rfl | (simp only [cmpP]; omega)) | exact rfl)) | (apply ef_gy; exact rfl; (exact (rfl : true = true))) | (apply ef_pick; exact rfl; exact rfl; exact rfl) | (apply ef_len; exact rfl; exact rfl; (assumption)) | (apply ef_ldp; exact rfl; exact rfl; (exact rfl); exact rfl; (exact rfl); (exact rd_2 rfl rfl)) | (apply ef_ext; exact rfl; exact rfl; exact rfl) | (apply ef_box; exact rfl; exact rfl; exact rfl; exact rfl) | (apply ef_new; exact rfl) | (apply ef_bsl; exact rfl; (repeat (apply XVs.cons; exact rfl)); exact XVs.nil; exact rfl) | (apply ef_st; exact rfl; exact rfl; exact rfl; exact rfl; exact rfl; exact rfl; (exact rfl); exact rfl) | apply ef_nil | apply seqQ.normal | apply ef_block | apply ef_skip | (apply ef_condf; exact rfl; (exact (rfl : false = false))) | (apply ef_call; exact rfl; ((repeat (apply XVs.cons; exact rfl)); exact XVs.nil); (with_reducible first | exact w1 _ | exact w2 _ _ _)) | (apply ef_call; exact rfl; ((repeat (apply XVs.cons; exact rfl)); exact XVs.nil); (with_reducible apply first3_c); exact rfl; exact rfl; exact rfl; (exact rfl)))
  refine ef_loopf (α := Nat × Int × Int × Int) (fun q => q.1 ≤ w.length ∧ misF n.cs w = mcE n.cs (w.drop q.1) q.1 q.2.1 q.2.2.1 q.2.2.2 ∧ -(10000 * (q.1 : Int)) ≤ q.2.2.2 ∧ q.2.2.2 ≤ 10000 * (q.1 : Int)) (fun q => [(44, I64 (q.1 : Int)), (8, I64 q.2.1), (9, I64 q.2.2.1), (10, I64 q.2.2.2)]) [(43, I64 (w.length : Int)), (42, .sl (w.map I64)), (2, .ptr 0 0 0 0)] (fun _ => msH n) (fun q => w.length - q.1) (0, -1, -1, 0) [44, 8, 9, 10] (fun _ => rfl) (by ((repeat (refine Hold.cons (by exact rfl) ?_)); exact Hold.nil)) (by ((repeat (refine Hold.cons (by exact rfl) ?_)); exact Hold.nil)) rfl rfl ⟨by omega, HM2, by simp, by simp⟩ (by simp; omega) ?_
  rintro ⟨q, b, a, s⟩ ⟨hq, HZ0, s0, s1⟩
  try simp only at hq HZ0 s0 s1 ⊢
  have hmq : ((q : Int)).tmod 2 = ((q % 2 : Nat) : Int) := by rw [Int.tmod_eq_emod_of_nonneg (by omega)]; omega
  by_cases hlt : q < w.length
  · have e1 := at_map I64 w q hlt
    rw [drop_at w q hlt] at HZ0
    generalize w[q] = z at e1 HZ0
    cases hin : inB z 0 ((n.cs.length : Int) - 1)
    · have w3 := fun h => within_c (k + 5) z 0 ((n.cs.length : Int) - 1) h hin
      rw [HZ0, mcE_out hin]
      repeat (first | apply ef_seq | (apply ef_mv; exact rfl; exact rfl) | (apply ef_bin; exact rfl; exact rfl; exact rfl; (first | exact cmp_t rfl (by first | exact rfl | (simp only [cmpP]; omega)) | ((with_reducible refine bin_sub (wrap_of ?_ ?_)) <;> omega))) | (apply ef_len; exact rfl; exact rfl; (assumption)) | (apply ef_ldr; exact rfl; exact rfl; (exact rfl)) | (apply ef_ldp; exact rfl; exact rfl; (exact rfl); exact rfl; (exact rfl); (exact rfl)) | (apply ef_ias; exact rfl; exact rfl; exact rfl; (omega); assumption; exact rfl) | (apply ef_fap; exact rfl; exact rfl) | (apply ef_notF; exact rfl; exact rfl) | apply ef_nil | apply seqQ.normal | apply loopQ.ret | apply ef_ret | apply seqQ.ret | apply blockQ.ret | apply ef_block | apply ef_skip | (apply ef_condt; exact rfl; (exact (rfl : true = true))) | (apply ef_call; exact rfl; ((repeat (apply XVs.cons; exact rfl)); exact XVs.nil); (with_reducible exact w3 _)))
      (apply fin2; (· exact rfl); (· exact rfl); (· exact rfl); (· rfl))
    · have w3 := fun h => within_c (k + 5) z 0 ((n.cs.length : Int) - 1) h hin
      have hzb := inB_iff.1 hin
      have e2 := cr_at2 (n := n) (i := z) (by omega) (by omega)
      obtain ⟨x, hxd⟩ : ∃ x, n.cs.getD z.toNat default = x := ⟨_, rfl⟩
      have hx := ok.rg _ (getD_mem (n := n) (i := z) (by omega) (by omega))
      rw [hxd] at e2 hx
      have hdf := hx.df
      by_cases hq0 : q = 0
      · subst hq0
        rw [mcE_z hin hxd] at HZ0
        have HZ := Lib.hid HZ0
        clear HZ0
        repeat (first | apply ef_seq | (apply ef_mv; exact rfl; exact rfl) | (apply ef_bin; exact rfl; exact rfl; exact rfl; (first | exact cmp_t rfl (by first | exact rfl | (simp only [cmpP]; omega)) | exact cmp_f rfl (by simp only [cmpP]; omega) | ((with_reducible refine bin_add (wrap_of ?_ ?_)) <;> omega) | ((with_reducible refine bin_sub (wrap_of ?_ ?_)) <;> omega) | ((with_reducible refine bin_mul (wrap_of ?_ ?_)) <;> omega) | exact rfl)) | (apply ef_len; exact rfl; exact rfl; (assumption)) | (apply ef_ldr; exact rfl; exact rfl; (first | exact rd_6 rfl rfl rfl rfl rfl rfl | exact rfl)) | (apply ef_ldp; exact rfl; exact rfl; (exact rfl); exact rfl; (exact rfl); (exact rfl)) | (apply ef_ias; exact rfl; exact rfl; exact rfl; (omega); assumption; exact rfl) | (apply ef_fap; exact rfl; exact rfl) | (apply ef_notT; exact rfl; exact rfl) | (apply ef_new; exact rfl) | (apply ef_st; exact rfl; exact rfl; exact rfl; exact rfl; exact rfl; exact rfl; (exact rfl); exact rfl) | apply ef_nil | apply seqQ.normal | apply blockQ.normal | apply ef_block | apply ef_skip | (apply ef_condt; exact rfl; (exact (rfl : true = true))) | (apply ef_condf; exact rfl; (exact (rfl : false = false))) | (apply ef_call; exact rfl; ((repeat (apply XVs.cons; exact rfl)); exact XVs.nil); (with_reducible exact w3 _)))
        (refine loopQ.normal _ _ ⟨(0 + 1, x.ln, x.ti, s + 1 * x.df), ⟨hlt, by rw [show s + 1 * x.df = s + x.df by omega, HZ.out], by simp only; omega, by simp only; omega⟩, (by first | (simp only; omega) | omega), ⟨by ((repeat (refine Hold.cons (by exact rfl) ?_)); exact Hold.nil), by ((repeat (refine Hold.cons (by exact rfl) ?_)); exact Hold.nil)⟩, .inr ⟨by ((repeat (refine hdl_cons rfl (by first | rfl | (simp [MV.lt, ltL, ltL_Ln, ltL_Cr, ltL_I, splice, MV.cells])) ?_)); exact hdl_nil), by (simp [hltL, ltL, MV.lt, ltL, ltL_Ln, ltL_Cr, ltL_I, splice, MV.cells])⟩, by exact rfl⟩)
      · by_cases hq1 : q % 2 = 1
        · rw [mcE_o hin hxd hq1] at HZ0
          by_cases hg : x.ti = a
          · rw [if_pos hg] at HZ0
            have HZ := Lib.hid HZ0
            clear HZ0
            repeat (first | apply ef_seq | (apply ef_mv; exact rfl; exact rfl) | (apply ef_bin; exact rfl; exact rfl; exact rfl; (first | exact cmp_t rfl (by first | exact rfl | (simp only [cmpP]; omega)) | exact cmp_f rfl (by simp only [cmpP]; omega) | ((with_reducible refine bin_add (wrap_of ?_ ?_)) <;> omega) | ((with_reducible refine bin_sub (wrap_of ?_ ?_)) <;> omega) | ((with_reducible refine bin_mul (wrap_of ?_ ?_)) <;> omega) | exact rfl)) | (apply ef_len; exact rfl; exact rfl; (assumption)) | (apply ef_ldr; exact rfl; exact rfl; (first | exact rd_6 rfl rfl rfl rfl rfl rfl | exact rfl)) | (apply ef_ldp; exact rfl; exact rfl; (exact rfl); exact rfl; (exact rfl); (exact rfl)) | (apply ef_ias; exact rfl; exact rfl; exact rfl; (omega); assumption; exact rfl) | (apply ef_fap; exact rfl; exact rfl) | (apply ef_notT; exact rfl; exact rfl) | (apply ef_new; exact rfl) | (apply ef_st; exact rfl; exact rfl; exact rfl; exact rfl; exact rfl; exact rfl; (exact rfl); exact rfl) | apply ef_nil | apply seqQ.normal | apply blockQ.normal | apply ef_block | apply ef_skip | (apply ef_condt; exact rfl; (exact (rfl : true = true))) | (apply ef_condf; exact rfl; (exact (rfl : false = false))) | (apply ef_call; exact rfl; ((repeat (apply XVs.cons; exact rfl)); exact XVs.nil); (with_reducible exact w3 _)))
            (refine loopQ.normal _ _ ⟨(q + 1, b, x.ln, s + -1 * x.df), ⟨hlt, by rw [show s + -1 * x.df = s + (0 - x.df) by omega, HZ.out], by simp only; omega, by simp only; omega⟩, (by first | (simp only; omega) | omega), ⟨by ((repeat (refine Hold.cons (by exact rfl) ?_)); exact Hold.nil), by ((repeat (refine Hold.cons (by exact rfl) ?_)); exact Hold.nil)⟩, .inr ⟨by ((repeat (refine hdl_cons rfl (by first | rfl | (simp [MV.lt, ltL, ltL_Ln, ltL_Cr, ltL_I, splice, MV.cells])) ?_)); exact hdl_nil), by (simp [hltL, ltL, MV.lt, ltL, ltL_Ln, ltL_Cr, ltL_I, splice, MV.cells])⟩, by exact rfl⟩)
          · rw [if_neg hg] at HZ0
            rw [HZ0]
            repeat (first | apply ef_seq | (apply ef_mv; exact rfl; exact rfl) | (apply ef_bin; exact rfl; exact rfl; exact rfl; (first | exact cmp_t rfl (by first | exact rfl | (simp only [cmpP]; omega)) | exact cmp_f rfl (by simp only [cmpP]; omega) | ((with_reducible refine bin_sub (wrap_of ?_ ?_)) <;> omega) | exact rfl)) | (apply ef_len; exact rfl; exact rfl; (assumption)) | (apply ef_ldr; exact rfl; exact rfl; (first | exact rd_6 rfl rfl rfl rfl rfl rfl | exact rfl)) | (apply ef_ldp; exact rfl; exact rfl; (exact rfl); exact rfl; (exact rfl); (exact rfl)) | (apply ef_ias; exact rfl; exact rfl; exact rfl; (omega); assumption; exact rfl) | (apply ef_fap; exact rfl; exact rfl) | (apply ef_notT; exact rfl; exact rfl) | (apply ef_new; exact rfl) | (apply ef_st; exact rfl; exact rfl; exact rfl; exact rfl; exact rfl; exact rfl; (exact rfl); exact rfl) | apply ef_nil | apply seqQ.normal | apply loopQ.ret | apply ef_ret | apply seqQ.ret | apply blockQ.ret | apply ef_block | apply ef_skip | (apply ef_condt; exact rfl; (exact (rfl : true = true))) | (apply ef_condf; exact rfl; (exact (rfl : false = false))) | (apply ef_call; exact rfl; ((repeat (apply XVs.cons; exact rfl)); exact XVs.nil); (with_reducible exact w3 _)))
            (apply fin2; (· exact rfl); (· exact rfl); (· exact rfl); (· rfl))
        · rw [mcE_e hin hxd (by omega) hq0] at HZ0
          by_cases hg : x.ln = a
          · rw [if_pos hg] at HZ0
            have HZ := Lib.hid HZ0
            clear HZ0
            repeat (first | apply ef_seq | (apply ef_mv; exact rfl; exact rfl) | (apply ef_bin; exact rfl; exact rfl; exact rfl; (first | exact cmp_t rfl (by first | exact rfl | (simp only [cmpP]; omega)) | exact cmp_f rfl (by simp only [cmpP]; omega) | ((with_reducible refine bin_add (wrap_of ?_ ?_)) <;> omega) | ((with_reducible refine bin_sub (wrap_of ?_ ?_)) <;> omega) | ((with_reducible refine bin_mul (wrap_of ?_ ?_)) <;> omega) | exact rfl)) | (apply ef_len; exact rfl; exact rfl; (assumption)) | (apply ef_ldr; exact rfl; exact rfl; (first | exact rd_6 rfl rfl rfl rfl rfl rfl | exact rfl)) | (apply ef_ldp; exact rfl; exact rfl; (exact rfl); exact rfl; (exact rfl); (exact rfl)) | (apply ef_ias; exact rfl; exact rfl; exact rfl; (omega); assumption; exact rfl) | (apply ef_fap; exact rfl; exact rfl) | (apply ef_notT; exact rfl; exact rfl) | (apply ef_new; exact rfl) | (apply ef_st; exact rfl; exact rfl; exact rfl; exact rfl; exact rfl; exact rfl; (exact rfl); exact rfl) | apply ef_nil | apply seqQ.normal | apply blockQ.normal | apply ef_block | apply ef_skip | (apply ef_condt; exact rfl; (exact (rfl : true = true))) | (apply ef_condf; exact rfl; (exact (rfl : false = false))) | (apply ef_call; exact rfl; ((repeat (apply XVs.cons; exact rfl)); exact XVs.nil); (with_reducible exact w3 _)))
            (refine loopQ.normal _ _ ⟨(q + 1, b, x.ti, s + 1 * x.df), ⟨hlt, by rw [show s + 1 * x.df = s + x.df by omega, HZ.out], by simp only; omega, by simp only; omega⟩, (by first | (simp only; omega) | omega), ⟨by ((repeat (refine Hold.cons (by exact rfl) ?_)); exact Hold.nil), by ((repeat (refine Hold.cons (by exact rfl) ?_)); exact Hold.nil)⟩, .inr ⟨by ((repeat (refine hdl_cons rfl (by first | rfl | (simp [MV.lt, ltL, ltL_Ln, ltL_Cr, ltL_I, splice, MV.cells])) ?_)); exact hdl_nil), by (simp [hltL, ltL, MV.lt, ltL, ltL_Ln, ltL_Cr, ltL_I, splice, MV.cells])⟩, by exact rfl⟩)
          · rw [if_neg hg] at HZ0
            rw [HZ0]
            repeat (first | apply ef_seq | (apply ef_mv; exact rfl; exact rfl) | (apply ef_bin; exact rfl; exact rfl; exact rfl; (first | exact cmp_t rfl (by first | exact rfl | (simp only [cmpP]; omega)) | exact cmp_f rfl (by simp only [cmpP]; omega) | ((with_reducible refine bin_sub (wrap_of ?_ ?_)) <;> omega) | exact rfl)) | (apply ef_len; exact rfl; exact rfl; (assumption)) | (apply ef_ldr; exact rfl; exact rfl; (first | exact rd_6 rfl rfl rfl rfl rfl rfl | exact rfl)) | (apply ef_ldp; exact rfl; exact rfl; (exact rfl); exact rfl; (exact rfl); (exact rfl)) | (apply ef_ias; exact rfl; exact rfl; exact rfl; (omega); assumption; exact rfl) | (apply ef_fap; exact rfl; exact rfl) | (apply ef_notT; exact rfl; exact rfl) | (apply ef_new; exact rfl) | (apply ef_st; exact rfl; exact rfl; exact rfl; exact rfl; exact rfl; exact rfl; (exact rfl); exact rfl) | apply ef_nil | apply seqQ.normal | apply loopQ.ret | apply ef_ret | apply seqQ.ret | apply blockQ.ret | apply ef_block | apply ef_skip | (apply ef_condt; exact rfl; (exact (rfl : true = true))) | (apply ef_condf; exact rfl; (exact (rfl : false = false))) | (apply ef_call; exact rfl; ((repeat (apply XVs.cons; exact rfl)); exact XVs.nil); (with_reducible exact w3 _)))
            (apply fin2; (· exact rfl); (· exact rfl); (· exact rfl); (· rfl))
  · obtain rfl : q = w.length := by omega
    rw [List.drop_eq_nil_of_le (Nat.le_refl _), mcE_nil] at HZ0
    by_cases hg : a = b
    · rw [if_pos hg] at HZ0
      rw [HZ0]
      repeat (first | apply ef_seq | (apply ef_mv; exact rfl; exact rfl) | (apply ef_bin; exact rfl; exact rfl; exact rfl; (exact cmp_f rfl (by simp only [cmpP]; omega))) | apply ef_nil | apply seqQ.normal | apply loopQ.exit | apply ef_ret | apply ef_exit | apply seqQ.exit | apply blockQ.here | apply ef_skip | (apply ef_condf; exact rfl; (exact (rfl : false = false))))
      (apply fin2; (· exact rfl); (· exact rfl); (· exact rfl); (· rfl))
    · rw [if_neg hg] at HZ0
      rw [HZ0]
      repeat (first | apply ef_seq | (apply ef_mv; exact rfl; exact rfl) | (apply ef_bin; exact rfl; exact rfl; exact rfl; (first | exact cmp_t rfl (by first | exact rfl | (simp only [cmpP]; omega)) | exact cmp_f rfl (by simp only [cmpP]; omega))) | apply ef_nil | apply seqQ.normal | apply loopQ.exit | apply ef_ret | apply seqQ.ret | apply ef_exit | apply seqQ.exit | apply blockQ.here | (apply ef_condt; exact rfl; (exact (rfl : true = true))) | (apply ef_condf; exact rfl; (exact (rfl : false = false))))
      (apply fin2; (· exact rfl); (· exact rfl); (· exact rfl); (· rfl))
theorem Mis_c (k : Nat) (n : Nt) (hb : BdN n) (w : List Int) (hw : w.length ≤ 1000) (h : MHeap) {v : MV} (hv : frz 0 [] h 8 v = some (.sl (w.map I64))) : orA (k + 7) 20 [encN n, v] h = some (.tup [I64 (msF n w).1, I64 (msF n w).2], h) :=
  callTT (args' := [encN n, .sl (w.map I64)]) (by simp [List.mapM_cons, hv, frz_lt (ltL_N n 0)]) rfl (Mis_z k n hb w hw)
end Go.Proofs.Ytbdleggmdbihnaa

/- What is kept of an anomaly: its bounds, walks, corrections' own differences; without a program. -/
namespace Go.Proofs.Ytbdleggmdbihnaa
set_option linter.unusedVariables false
set_option linter.unusedSimpArgs false
def kpV (n : Nt) (a : List Int) : Int := valU (nW n a).cs (flZ (nW n a)) (nW n a).cs.length
theorem nW_len (n : Nt) (a : List Int) : (nW n a).cs.length = n.cs.length := wiU_len _ _ _
theorem nW_getD (n : Nt) (a : List Int) {i : Nat} (h : i < n.cs.length) : (nW n a).cs.getD i default = setD (n.cs.getD i default) (cAt a i) := by
  rw [List.getD_eq_getElem?_getD, List.getElem?_eq_getElem (by rw [nW_len]; exact h), nW_get n a i h, List.getD_eq_getElem?_getD, List.getElem?_eq_getElem h]; rfl
def sumA (fl a : List Int) : Nat → Int
  | 0 => 0
  | i + 1 => sumA fl a i + cAt fl i * cAt a i
theorem valU_nW (n : Nt) (a fl : List Int) : ∀ i, i ≤ n.cs.length → valU (nW n a).cs fl i = sumA fl a i
  | 0, _ => rfl
  | i + 1, h => by rw [valU, sumA, valU_nW n a fl i (by omega), nW_getD n a (by omega)]; rfl
theorem sumV_nW (n : Nt) (a fl : List Int) (v : Int) : ∀ i, i ≤ n.cs.length → sumV (nW n a).cs fl v i = sumV n.cs fl v i
  | 0, _ => rfl
  | i + 1, h => by rw [sumV, sumV, sumV_nW n a fl v i (by omega), nW_getD n a (by omega)]; rfl
theorem flOk_nW {n : Nt} {a fl : List Int} : FlOk (nW n a) fl ↔ FlOk n fl := by
  constructor
  · rintro ⟨h1, h2, h3⟩
    refine ⟨by rw [h1, nW_len], fun i hi => ?_, fun v => ?_⟩
    · have := h2 i (by rw [nW_len]; exact hi)
      rw [nW_get n a i hi] at this
      exact this
    · have := h3 v
      rw [nW_len, sumV_nW n a fl v _ (Nat.le_refl _)] at this
      exact this
  · rintro ⟨h1, h2, h3⟩
    refine ⟨by rw [h1, nW_len], fun i hi => ?_, fun v => ?_⟩
    · rw [nW_len] at hi
      rw [nW_get n a i hi]
      exact h2 i hi
    · rw [nW_len, sumV_nW n a fl v _ (Nat.le_refl _)]
      exact h3 v
theorem kp_max {n : Nt} {a : List Int} (ok : OkN (nW n a)) {fl : List Int} (hf : FlOk n fl) : sumA fl a n.cs.length ≤ kpV n a := by
  have := (flZ_max ok).1 fl (flOk_nW.2 hf)
  unfold kpV
  rw [nW_len, valU_nW n a fl _ (Nat.le_refl _)] at this
  rw [nW_len]; exact this
theorem kp_is {n : Nt} {a : List Int} (ok : OkN (nW n a)) : ∃ fl, FlOk n fl ∧ kpV n a = sumA fl a n.cs.length := by
  refine ⟨flZ (nW n a), flOk_nW.1 (flZ_ok ok).1, ?_⟩
  unfold kpV
  rw [nW_len, valU_nW n a _ _ (Nat.le_refl _)]
theorem kp_nn {n : Nt} {a : List Int} (ok : OkN (nW n a)) : 0 ≤ kpV n a := by
  have := (flZ_max ok).1 _ (fl_zero ok)
  rwa [val_zero] at this
theorem resP_nW (n : Nt) (a : List Int) (p : Int → Int) {i : Nat} (h : i < n.cs.length) : resP ((nW n a).cs.getD i default) p = cAt a i - p (n.cs.getD i default).ln + p (n.cs.getD i default).ti := by
  rw [nW_getD n a h]; rfl
theorem kp_le {n : Nt} {a : List Int} (ok : OkN (nW n a)) : kpV n a ≤ wsU n.cs a n.cs.length := by
  have h1 := weak ok (flZ_ok ok).1 (fun _ => 0)
  have h2 : ∀ i, i ≤ n.cs.length → costP (nW n a).cs (fun _ => 0) i = wsU n.cs a i := fun i => by
    induction i with
    | zero => intro _; rfl
    | succ i ih =>
      intro hi
      rw [costP, wsU, ih (by omega), resP_nW n a _ (by omega), nW_getD n a (by omega)]
      simp only [Int.sub_zero, Int.add_zero]
      rfl
  rw [nW_len, h2 _ (Nat.le_refl _)] at h1
  unfold kpV
  rw [nW_len]; exact h1
def OwnD (n : Nt) (c d : List Int) : Prop := ∀ (i : Nat), i < n.cs.length → cAt d i = cAt c (n.cs.getD i default).ln - cAt c (n.cs.getD i default).ti
theorem val_own {n : Nt} {c d fl : List Int} (ok : OkN (nW n d)) (hd : OwnD n c d) (hf : FlOk n fl) : sumA fl d n.cs.length = 0 := by
  have h1 := valP_eq ok (flOk_nW.2 hf) (cAt c)
  rw [nW_len, valU_nW n d fl _ (Nat.le_refl _)] at h1
  rw [← h1]
  have : ∀ i, i ≤ n.cs.length → valP (nW n d).cs fl (cAt c) i = 0 := fun i => by
    induction i with
    | zero => intro _; rfl
    | succ i ih =>
      intro hi
      rw [valP, ih (by omega), resP_nW n d _ (by omega), hd i (by omega)]
      rw [show ∀ x y : Int, x - y - x + y = 0 by intro x y; omega]; simp
  exact this _ (Nat.le_refl _)
theorem kp_own {n : Nt} {c d : List Int} (ok : OkN (nW n d)) (hd : OwnD n c d) : kpV n d = 0 := by
  obtain ⟨fl, h1, h2⟩ := kp_is ok
  rw [h2, val_own ok hd h1]
theorem sumA_add {fl a d b : List Int} : ∀ k, (∀ i : Nat, i < k → cAt b i = cAt a i + cAt d i) → sumA fl b k = sumA fl a k + sumA fl d k
  | 0, _ => rfl
  | k + 1, h => by rw [sumA, sumA, sumA, sumA_add k (fun i hi => h i (by omega)), h k (by omega), Int.mul_add]; omega
theorem kp_both {n : Nt} {c a d b : List Int} (okA : OkN (nW n a)) (okD : OkN (nW n d)) (okB : OkN (nW n b)) (hd : OwnD n c d) (hb : ∀ i : Nat, i < n.cs.length → cAt b i = cAt a i + cAt d i) : kpV n b = kpV n a := by
  have key : ∀ fl, FlOk n fl → sumA fl b n.cs.length = sumA fl a n.cs.length := fun fl hf => by
    rw [sumA_add _ hb, val_own okD hd hf]; omega
  obtain ⟨f1, h1, h2⟩ := kp_is okA
  obtain ⟨f2, h3, h4⟩ := kp_is okB
  have h5 := kp_max okA h3
  have h6 := kp_max okB h1
  rw [key f2 h3] at h4
  rw [key f1 h1] at h6
  omega
def indV (a v : Int) : Int := if a = v then 1 else 0
theorem mcE_step {cs : List Cr} {i : Int} {w : List Int} {k : Nat} {b a s m : Int} (h : mcE cs (i :: w) k b a s = (m, 0)) : inB i 0 ((cs.length : Int) - 1) = true ∧ ∃ b' a' s', mcE cs w (k + 1) b' a' s' = (m, 0) ∧ (s' = s + (cs.getD i.toNat default).df ∨ s' = s + (0 - (cs.getD i.toNat default).df)) := by
  cases hin : inB i 0 ((cs.length : Int) - 1) with
  | false => rw [mcE_out hin] at h; exact absurd (congrArg Prod.snd h) (by simp)
  | true =>
    refine ⟨rfl, ?_⟩
    obtain ⟨fr, hfr⟩ : ∃ fr, (if k % 2 = 1 then (cs.getD i.toNat default).ti else (cs.getD i.toNat default).ln) = fr := ⟨_, rfl⟩
    obtain ⟨t, ht⟩ : ∃ t, (if k % 2 = 1 then (cs.getD i.toNat default).ln else (cs.getD i.toNat default).ti) = t := ⟨_, rfl⟩
    obtain ⟨d, hd⟩ : ∃ d, (if k % 2 = 1 then 0 - (cs.getD i.toNat default).df else (cs.getD i.toNat default).df) = d := ⟨_, rfl⟩
    rw [mcE_in hin rfl hfr ht hd] at h
    by_cases hc : fr ≠ (if k = 0 then fr else a)
    · rw [if_pos hc] at h; exact absurd (congrArg Prod.snd h) (by simp)
    · rw [if_neg hc] at h
      refine ⟨_, _, _, h, ?_⟩
      rw [← hd]
      split
      · exact .inr rfl
      · exact .inl rfl
theorem mcE_nn {cs : List Cr} : ∀ (w : List Int) (k : Nat) (b a s m j : Int), mcE cs w k b a s = (m, 0) → j ∈ w → 0 ≤ j
  | [], _, _, _, _, _, _, _, h => by cases h
  | i :: w, k, b, a, s, m, j, h, hj => by
    obtain ⟨h1, b', a', s', h2, -⟩ := mcE_step h
    rcases List.mem_cons.1 hj with rfl | hj
    · exact (inB_iff.1 h1).1
    · exact mcE_nn w _ _ _ _ _ _ h2 hj
theorem wk_bd {cs : List Cr} (hb : ∀ x ∈ cs, -10000 ≤ x.df ∧ x.df ≤ 10000) : ∀ (w : List Int) (k : Nat) (b a s m : Int), mcE cs w k b a s = (m, 0) → s - 10000 * (w.length : Int) ≤ m ∧ m ≤ s + 10000 * (w.length : Int)
  | [], k, b, a, s, m, h => by
    rw [mcE_nil] at h
    split at h
    · cases h; simp
    · exact absurd (congrArg Prod.snd h) (by simp)
  | i :: w, k, b, a, s, m, h => by
    have hx : -10000 ≤ (cs.getD i.toNat default).df ∧ (cs.getD i.toNat default).df ≤ 10000 := by
      rw [List.getD_eq_getElem?_getD]
      cases hh : cs[i.toNat]? with
      | none => decide
      | some x => exact hb x (List.mem_of_getElem? hh)
    obtain ⟨-, b', a', s', h2, h3⟩ := mcE_step h
    have := wk_bd hb w _ _ _ _ _ h2
    simp only [List.length_cons]
    rcases h3 with rfl | rfl <;> omega
theorem att_ind (x : Cr) (v f : Int) : att x v f = f * (indV x.ln v + indV x.ti v) := by
  unfold att indV
  by_cases h1 : x.ln = v <;> by_cases h2 : x.ti = v <;> simp [h1, h2] <;> omega
theorem wk_ok {cs : List Cr} : ∀ (w : List Int) (k : Nat) (b a s m : Int) (fl : List Int), mcE cs w k b a s = (m, 0) → k ≠ 0 → w.Nodup → fl.length = cs.length → (∀ i ∈ w, cAt fl i = 0) → (∀ v, -1 ≤ cAt fl v ∧ cAt fl v ≤ 1) →
    (∀ v, sumV cs fl v cs.length = indV b v + (if k % 2 = 1 then indV a v else - indV a v)) →
    ∃ fl' : List Int, fl'.length = cs.length ∧ (∀ v, -1 ≤ cAt fl' v ∧ cAt fl' v ≤ 1) ∧ (∀ v, sumV cs fl' v cs.length = indV b v + (if (k + w.length) % 2 = 1 then indV b v else - indV b v)) ∧ valU cs fl' cs.length = valU cs fl cs.length + (m - s)
  | [], k, b, a, s, m, fl, h, hk, hn, hl, hz, hb, hs => by
    rw [mcE_nil] at h
    split at h
    · rename_i e
      cases h
      subst e
      exact ⟨fl, hl, hb, by simpa using hs, by omega⟩
    · exact absurd (congrArg Prod.snd h) (by simp)
  | i :: w, k, b, a, s, m, fl, h, hk, hn, hl, hz, hb, hs => by
    cases hin : inB i 0 ((cs.length : Int) - 1) with
    | false => rw [mcE_out hin] at h; exact absurd (congrArg Prod.snd h) (by simp)
    | true =>
      have hi := inB_iff.1 hin
      have hlt : i.toNat < fl.length := by omega
      have hn' := List.nodup_cons.1 hn
      have hz0 := hz i (by simp)
      have hcz : cAt fl (i.toNat : Int) = 0 := by rw [show ((i.toNat : Nat) : Int) = i by omega]; exact hz0
      have step : ∀ (d : Int), -1 ≤ d → d ≤ 1 → (∀ j ∈ w, cAt (fl.set i.toNat (cAt fl i.toNat + d)) j = 0) ∧ (∀ v, -1 ≤ cAt (fl.set i.toNat (cAt fl i.toNat + d)) v ∧ cAt (fl.set i.toNat (cAt fl i.toNat + d)) v ≤ 1) := fun d h1 h2 => by
        have key : ∀ v : Int, cAt (fl.set i.toNat (cAt fl i.toNat + d)) v = if v.toNat = i.toNat then d else cAt fl v := fun v => by
          have e : ∀ l : List Int, cAt l v = cAt l ((v.toNat : Nat) : Int) := fun l => by unfold cAt; rw [Int.toNat_natCast]
          rw [e, cAt_setN hlt, hcz, Int.zero_add, ← e]
        refine ⟨fun j hj => ?_, fun v => ?_⟩
        · rw [key]
          by_cases e : j.toNat = i.toNat
          · exfalso
            by_cases hj0 : 0 ≤ j
            · exact hn'.1 (by rw [show i = j by omega]; exact hj)
            · exact hj0 (mcE_nn _ _ _ _ _ _ _ h (List.mem_cons_of_mem _ hj))
          · rw [if_neg e]; exact hz j (List.mem_cons_of_mem _ hj)
        · rw [key]
          split
          · exact ⟨h1, h2⟩
          · exact hb v
      have hx : cs.getD i.toNat default = cs.getD i.toNat default := rfl
      by_cases ho : k % 2 = 1
      · rw [mcE_o hin hx ho] at h
        split at h
        case isFalse => exact absurd (congrArg Prod.snd h) (by simp)
        rename_i hat
        obtain ⟨q1, q2⟩ := step (-1) (by omega) (by omega)
        obtain ⟨fl', r1, r2, r3, r4⟩ := wk_ok w (k + 1) b (cs.getD i.toNat default).ln _ m _ h (by omega) hn'.2 (by rw [List.length_set]; exact hl) q1 q2 (fun v => by
          rw [sumV_set hlt, if_pos (by omega), hs, if_pos ho, if_neg (by omega), att_ind, hat]; omega)
        refine ⟨fl', r1, r2, fun v => ?_, ?_⟩
        · rw [r3, List.length_cons, show k + 1 + w.length = k + (w.length + 1) by omega]
        · rw [r4, valU_set hlt, if_pos (by omega)]; omega
      · rw [mcE_e hin hx (by omega) hk] at h
        split at h
        case isFalse => exact absurd (congrArg Prod.snd h) (by simp)
        rename_i hat
        obtain ⟨q1, q2⟩ := step 1 (by omega) (by omega)
        obtain ⟨fl', r1, r2, r3, r4⟩ := wk_ok w (k + 1) b (cs.getD i.toNat default).ti _ m _ h (by omega) hn'.2 (by rw [List.length_set]; exact hl) q1 q2 (fun v => by
          rw [sumV_set hlt, if_pos (by omega), hs, if_neg ho, if_pos (by omega), att_ind, hat]; omega)
        refine ⟨fl', r1, r2, fun v => ?_, ?_⟩
        · rw [r3, List.length_cons, show k + 1 + w.length = k + (w.length + 1) by omega]
        · rw [r4, valU_set hlt, if_pos (by omega)]; omega
theorem wk_flow {n : Nt} (ok : OkN n) {w : List Int} {m : Int} (h : misF n.cs w = (m, 0)) (hn : w.Nodup) : ∃ fl, FlOk n fl ∧ valU n.cs fl n.cs.length = m := by
  unfold misF at h
  split at h
  case isFalse => exact absurd (congrArg Prod.snd h) (by simp)
  rename_i hl
  split at h
  case isFalse => exact absurd (congrArg Prod.snd h) (by simp)
  cases w with
  | nil => simp at hl
  | cons i w =>
    cases hin : inB i 0 ((n.cs.length : Int) - 1) with
    | false => rw [mcE_out hin] at h; exact absurd (congrArg Prod.snd h) (by simp)
    | true =>
      have hi := inB_iff.1 hin
      rw [mcE_z hin rfl] at h
      have hn' := List.nodup_cons.1 hn
      have hz := fl_zero ok
      have hlt : i.toNat < (List.replicate n.cs.length (0 : Int)).length := by simp; omega
      have key : ∀ v : Int, cAt ((List.replicate n.cs.length (0 : Int)).set i.toNat (cAt (List.replicate n.cs.length (0 : Int)) i.toNat + 1)) v = if v.toNat = i.toNat then 1 else 0 := fun v => by
        have e : ∀ l : List Int, cAt l v = cAt l ((v.toNat : Nat) : Int) := fun l => by unfold cAt; rw [Int.toNat_natCast]
        rw [e, cAt_setN hlt, cAt_zer, cAt_zer]; rfl
      obtain ⟨fl', r1, r2, r3, r4⟩ := wk_ok w 1 _ _ _ m ((List.replicate n.cs.length (0 : Int)).set i.toNat (cAt (List.replicate n.cs.length (0 : Int)) i.toNat + 1)) h (by omega) hn'.2 (by simp) (fun j hj => by
          rw [key]
          by_cases e : j.toNat = i.toNat
          · exfalso
            by_cases hj0 : 0 ≤ j
            · exact hn'.1 (by rw [show i = j by omega]; exact hj)
            · exact hj0 (mcE_nn _ _ _ _ _ _ _ h hj)
          · rw [if_neg e]) (fun v => by rw [key]; split <;> omega) (fun v => by
          rw [sumV_set hlt, if_pos (by omega), hz.sum, if_pos (by omega), att_ind]; omega)
      refine ⟨fl', ⟨r1, fun j hj => ?_, fun v => ?_⟩, ?_⟩
      · have := (ok.rg _ (List.getElem_mem hj)).wt
        have := r2 j
        omega
      · rw [r3, if_neg (by simp only [List.length_cons] at hl; omega)]; omega
      · rw [r4, valU_set hlt, val_zero, if_pos (by omega)]; omega
theorem sumA_neg (fl a : List Int) : ∀ k, sumA (fl.map (- ·)) a k = - sumA fl a k
  | 0 => rfl
  | k + 1 => by
    have : cAt (fl.map (- ·)) (k : Int) = - cAt fl k := by
      unfold cAt
      rw [List.getD_eq_getElem?_getD, List.getD_eq_getElem?_getD, List.getElem?_map]
      cases fl[(k : Int).toNat]? <;> simp
    rw [sumA, sumA, sumA_neg fl a k, this, Int.neg_mul]; omega
theorem flOk_neg {n : Nt} {fl : List Int} (h : FlOk n fl) : FlOk n (fl.map (- ·)) := by
  have hc : ∀ k : Nat, cAt (fl.map (- ·)) (k : Int) = - cAt fl k := fun k => by
    unfold cAt
    rw [List.getD_eq_getElem?_getD, List.getD_eq_getElem?_getD, List.getElem?_map]
    cases fl[(k : Int).toNat]? <;> simp
  refine ⟨by rw [List.length_map]; exact h.len, fun i hi => ?_, fun v => ?_⟩
  · have := h.bd i hi
    rw [hc]; omega
  · have : ∀ k, sumV n.cs (fl.map (- ·)) v k = - sumV n.cs fl v k := fun k => by
      induction k with
      | zero => rfl
      | succ k ih =>
        rw [sumV, sumV, ih, hc, att_ind, att_ind, Int.neg_mul]; omega
    rw [this, h.sum]; rfl
theorem kp_walk {n : Nt} {a : List Int} (ok : OkN (nW n a)) {w : List Int} {m : Int} (h : misF (nW n a).cs w = (m, 0)) (hn : w.Nodup) : absI m ≤ kpV n a := by
  obtain ⟨fl, h1, h2⟩ := wk_flow ok h hn
  rw [flOk_nW] at h1
  rw [nW_len, valU_nW n a fl _ (Nat.le_refl _)] at h2
  have h3 := kp_max ok h1
  have h4 := kp_max ok (flOk_neg h1)
  rw [sumA_neg] at h4
  unfold absI
  split <;> omega
theorem mis_bd {n : Nt} (ok : OkN n) {w : List Int} {m : Int} (h : misF n.cs w = (m, 0)) : -(10000 * (w.length : Int)) ≤ m ∧ m ≤ 10000 * (w.length : Int) := by
  unfold misF at h
  split at h
  case isFalse => exact absurd (congrArg Prod.snd h) (by simp)
  split at h
  case isFalse => exact absurd (congrArg Prod.snd h) (by simp)
  have := wk_bd (fun x hx => (ok.rg x hx).df) w _ _ _ _ _ h
  omega
theorem scanE_all {α : Type} {f : List α → α → Int} : ∀ (xs pre : List α), (∀ (i : Nat) (h : i < xs.length), f (pre ++ xs.take i) xs[i] = 0) → scanE f pre xs = (0, 0)
  | [], pre, _ => rfl
  | x :: xs, pre, h => by
    have h0 := h 0 (by simp)
    simp only [List.take_zero, List.append_nil, List.getElem_cons_zero] at h0
    rw [scanE, if_pos h0]
    refine scanE_all xs (pre ++ [x]) fun i hi => ?_
    have := h (i + 1) (by simpa using hi)
    simpa using this
theorem net_of {n : Nt} (hl : (scanE lineE [] n.ls).2 = 0) (ok : OkN n) : (netF n).2 = 0 := by
  have h1 := ok.l1
  have h8 := ok.l8
  have h16 := ok.c16
  unfold netF
  rw [if_neg (by omega), if_neg (by omega), if_pos hl, scanE_all n.cs [] fun i hi => ?_]
  have o := ok.rg _ (List.getElem_mem hi)
  have k := ok.kd _ (List.getElem_mem hi)
  have o1 := o.l1
  have o2 := o.t1
  unfold crossE
  rw [if_pos (by rw [inB_iff.2 ⟨o.l0, by omega⟩, inB_iff.2 ⟨o.t0, by omega⟩]; rfl), k.1, k.2]
  have h2 : rngB n.cs[i] = true := by
    unfold rngB
    rw [inB_iff.2 o.pa, inB_iff.2 o.pt, inB_iff.2 o.df, inB_iff.2 o.wt]; rfl
  have h3 : ([] ++ n.cs.take i).any (dblB n.cs[i]) = false := by
    rw [List.any_eq_false]
    intro x hx
    rw [List.nil_append] at hx
    obtain ⟨j, hj, rfl⟩ := List.getElem_of_mem hx
    rw [List.length_take] at hj
    rw [List.getElem_take, ok.ds i j hi (by omega) (by omega)]
    simp
  rw [h2, h3]
  rfl
theorem net_lines {n : Nt} (h : (netF n).2 = 0) : (scanE lineE [] n.ls).2 = 0 := by
  obtain ⟨q1, q2, q3⟩ := netF_pos h
  unfold netF at h
  rw [if_neg (by omega), if_neg (by omega)] at h
  split at h
  · assumption
  · exact h
theorem nW_net {n : Nt} (h : (netF n).2 = 0) {ds : List Int} (hb : ∀ v, -10000 ≤ cAt ds v ∧ cAt ds v ≤ 10000) : (netF (nW n ds)).2 = 0 :=
  net_of (n := nW n ds) (net_lines (n := n) h) (nW_ok (net_ok h) hb)
end Go.Proofs.Ytbdleggmdbihnaa

/- Contracts: what is kept of an anomaly. -/
namespace Go.Proofs.Ytbdleggmdbihnaa
open Go.RowKit
set_option linter.unusedVariables false
set_option linter.unusedSimpArgs false
theorem cAt_ok {ds : List Int} (h : ds.any anB = false) (v : Int) : -10000 ≤ cAt ds v ∧ cAt ds v ≤ 10000 := by
  unfold cAt
  rw [List.getD_eq_getElem?_getD]
  cases hh : ds[v.toNat]? with
  | none => simp
  | some z =>
    rw [List.any_eq_false] at h
    have := h z (List.mem_of_getElem? hh)
    simp only [anB, Bool.not_eq_true', Bool.not_eq_false] at this
    exact inB_iff.1 this
theorem fin3l {x : MX2} {A : Sl} {h : MHeap} {a b c : Value} {m : MV} {t u v : Nat} (hx : outX x = true) (h1 : look A t = some (.lit a)) (h2 : look A u = some (.lit b)) (h3 : look A v = some (.lit c)) (he : MV.tup [.lit a, .lit b, .lit c] = m) : FinF [.tmp t, .tmp u, .tmp v] m [] x A h := by
  subst he
  exact ⟨hx, [.lit a, .lit b, .lit c], [.lit a, .lit b, .lit c], ⟨_, _, rfl, h1, _, _, rfl, h2, _, [], rfl, h3, rfl⟩, by simp [impIds], by simp [impIds, expL, frz, MV.lt], rfl⟩
def kpE (n : Nt) (ds : List Int) : Int := firstE [(netF n).2, unl (decide (ds.length = n.cs.length)) 10, unl (!ds.any anB) 2]
theorem kpE_is (n : Nt) (ds : List Int) : kpE n ds = if (netF n).2 = 0 then anE n.cs.length ds else (netF n).2 := by
  unfold kpE anE unl
  simp only [firstE]
  by_cases h1 : (netF n).2 = 0
  · by_cases h2 : ds.length = n.cs.length
    · cases h3 : ds.any anB <;> simp [h1, h2]
    · simp [h1, h2]
  · simp [h1]
theorem anE_ok {m : Nat} {ds : List Int} (h : anE m ds = 0) : ds.length = m ∧ ds.any anB = false := by
  unfold anE at h
  split at h
  · rename_i hl
    split at h
    · cases h
    · rename_i ha; exact ⟨hl, by simpa using ha⟩
  · cases h
theorem mf_KeptOf : MT.mf 11 = some mfW_l11 := mfW_q11
set_option maxHeartbeats 2000000 in
theorem KeptOf_z (k : Nat) (n : Nt) (hb : BdN n) (h0 : (netF n).2 = 0) (ds : List Int) (hd : ds.length = n.cs.length) (ha : ds.any anB = false) :
    runZ MT (orA (k + 6)) (itA (k + 6)) 4000000 11 [encN n, .sl (ds.map I64)] [] = some (.tup [I64 (kpV n ds), I64 (wsU n.cs ds n.cs.length - kpV n ds), I64 0], []) := by
  have ok := net_ok h0
  have hcb := fun v => cAt_ok ha v
  have okW := nW_ok ok hcb
  have hs3 : (MV.sl (ds.map I64)).slen = some ds.length := by simp [MV.slen]
  have hs2 : (MV.sl (n.cs.map encCr)).slen = some n.cs.length := by simp [MV.slen]
  have c16 := ok.c16
  have l8 := ok.l8
  have l1 := ok.l1
  have hz := (flZ_ok okW).1
  have w1 := fun h => open_c k n hb h
  have w2 := fun e h => unless_c (k + 5) true e h (e := 0) rfl
  have w3 := fun h => ContainsFuncI_c (k + 4) 38 [] anB ds h (v := .sl (ds.map I64)) (fv := .fn 38 0 []) (by omega) (fun z _ h => kp1_c (k + 1) z h) rfl (frz_sl (ltL_I 0 ds)) rfl ha
  have w4 := fun h => withN_c (k + 4) n l1 (by omega) (by omega) ds hd h
  have w5 := fun h => flow_c k (nW n ds) okW h
  have w6 := fun h => cost_c (k + 4) n ok ds hd (fun v => by have := hcb v; omega) h (v := .sl (ds.map I64)) (frz_sl (ltL_I 0 ds))
  have b1 := wsU_bd ok (ds := ds) (fun v => by have := hcb v; omega) _ (Nat.le_refl _)
  have b2 := valU_bd okW (hz.bd10 okW) _ (Nat.le_refl _)
  have w7 := fun h v hv => value_c (k + 5) (nW n ds) okW (flZ (nW n ds)) hz.len (hz.bd10 okW) h (v := v) hv
  have hwl : (nW n ds).cs.length = n.cs.length := wiU_len _ _ _
  rw [h0] at w1
  unfold kpV
  refine runZ_of mf_KeptOf (by simp [mfW_l11]) ?_
  simp only [mfW_l11, argsL]
  generalize hW : nW n ds = W at *
  generalize hF : flZ W = F at *
  generalize valU W.cs F W.cs.length = val at *
  generalize wsU n.cs ds n.cs.length = ws at *
  repeat (first | apply ef_seq | (apply ef_mv; exact rfl; exact rfl) | (apply ef_bin; exact rfl; exact rfl; exact rfl; (first | exact cmp_t rfl (by first | exact rfl | (simp only [cmpP]; omega)) | exact rfl)) | (apply ef_len; exact rfl; exact rfl; (assumption)) | (apply ef_ldp; exact rfl; exact rfl; (exact rfl); exact rfl; (exact rfl); (first | exact rd_2 rfl rfl | exact rfl)) | (apply ef_fap; exact rfl; exact rfl) | (apply ef_notF; exact rfl; exact rfl) | (apply ef_ext; exact rfl; exact rfl; exact rfl) | (apply ef_box; exact rfl; exact rfl; exact rfl; exact rfl) | (apply ef_new; exact rfl) | (apply ef_bsl; exact rfl; (repeat (apply XVs.cons; exact rfl)); exact XVs.nil; exact rfl) | (apply ef_st; exact rfl; exact rfl; exact rfl; exact rfl; exact rfl; exact rfl; (exact rfl); exact rfl) | apply ef_nil | apply seqQ.normal | apply ef_skip | (apply ef_condf; exact rfl; (exact (rfl : false = false))) | (apply ef_call; exact rfl; ((repeat (apply XVs.cons; exact rfl)); exact XVs.nil); (with_reducible first | exact w1 _ | exact w2 _ _ | exact w3 _ | exact w4 _ | exact w5 _)) | (apply ef_call; exact rfl; ((repeat (apply XVs.cons; exact rfl)); exact XVs.nil); (with_reducible apply first3_c); exact rfl; exact rfl; exact rfl; (exact rfl)))
  have hzl := hz.len
  have hwr : IntKind.i64.wrap (ws - val) = ws - val := by
    exact wrap_of (by omega) (by omega)
  (apply ef_call; (· exact rfl); (· ((repeat (apply XVs.cons; exact rfl)); exact XVs.nil)); · exact w7 _ _ (frz_row (o := ⟨0, false, 1, F.map I64⟩) rfl rfl (by simp [hzl]) (ltL_I 0 F) rfl))
  repeat (first | apply ef_seq | (apply ef_mv; exact rfl; exact rfl) | (apply ef_bin; exact rfl; exact rfl; exact rfl; (((with_reducible refine bin_sub (wrap_of ?_ ?_)) <;> omega))) | (apply ef_ldp; exact rfl; exact rfl; (exact rfl); exact rfl; (exact rfl); (exact rd_2 rfl rfl)) | apply ef_nil | apply seqQ.normal | apply ef_ret | (apply ef_call; exact rfl; ((repeat (apply XVs.cons; exact rfl)); exact XVs.nil); (with_reducible exact w6 _)))
  (apply fin3l; (· exact rfl); (· exact rfl); (· exact rfl); (· exact rfl); (· rfl))
set_option maxHeartbeats 2000000 in
theorem KeptOf_e (k : Nat) (n : Nt) (hb : BdN n) (ds : List Int) (hl : ds.length ≤ 1000) (hc : n.cs.length ≤ 1000) (he : kpE n ds ≠ 0) :
    runZ MT (orA (k + 6)) (itA (k + 6)) 4000000 11 [encN n, .sl (ds.map I64)] [] = some (.tup [I64 0, I64 0, I64 (kpE n ds)], []) := by
  have hs3 : (MV.sl (ds.map I64)).slen = some ds.length := by simp [MV.slen]
  have hs2 : (MV.sl (n.cs.map encCr)).slen = some n.cs.length := by simp [MV.slen]
  have w1 := fun h => open_c k n hb h
  have w2 := fun b e h => unless_c (k + 5) b e h rfl
  obtain ⟨sb, hsb⟩ : ∃ sb, ds.any anB = sb := ⟨_, rfl⟩
  have w3 := fun h => ContainsFuncI_c (k + 4) 38 [] anB ds h (v := .sl (ds.map I64)) (fv := .fn 38 0 []) hl (fun z _ h => kp1_c (k + 1) z h) rfl (frz_sl (ltL_I 0 ds)) rfl hsb
  obtain ⟨e, hE⟩ : ∃ e, kpE n ds = e := ⟨_, rfl⟩
  have hE2 := hE
  unfold kpE at hE2
  rw [hsb] at hE2
  have hdl : (((ds.length : Nat) : Int) == ((n.cs.length : Nat) : Int)) = decide (ds.length = n.cs.length) := by
    rw [Bool.eq_iff_iff]; simp; omega
  rw [hE] at he ⊢
  refine runZ_of mf_KeptOf (by simp [mfW_l11]) ?_
  simp only [mfW_l11, argsL]
  generalize (netF n).2 = e0 at *
  generalize decide (ds.length = n.cs.length) = db at *
  have hne : (e != 0) = true := by simpa using he
  repeat (first | apply ef_seq | (apply ef_mv; exact rfl; exact rfl) | (apply ef_bin; exact rfl; exact rfl; exact rfl; (exact rfl)) | (apply ef_len; exact rfl; exact rfl; (assumption)) | (apply ef_ldp; exact rfl; exact rfl; (exact rfl); exact rfl; (exact rfl); (first | exact rd_2 rfl rfl | exact rfl)) | (apply ef_fap; exact rfl; exact rfl) | (apply ef_not; exact rfl; exact rfl; exact rfl) | (apply ef_ext; exact rfl; exact rfl; exact rfl) | (apply ef_box; exact rfl; exact rfl; exact rfl; exact rfl) | (apply ef_new; exact rfl) | (apply ef_bsl; exact rfl; (repeat (apply XVs.cons; exact rfl)); exact XVs.nil; exact rfl) | (apply ef_st; exact rfl; exact rfl; exact rfl; exact rfl; exact rfl; exact rfl; (exact rfl); exact rfl) | apply ef_nil | apply seqQ.normal | (apply ef_call; exact rfl; ((repeat (apply XVs.cons; exact rfl)); exact XVs.nil); (with_reducible first | exact w1 _ | exact w2 _ _ _ | exact w3 _)) | (apply ef_call; exact rfl; ((repeat (apply XVs.cons; exact rfl)); exact XVs.nil); (with_reducible apply first3_c); exact rfl; exact rfl; exact rfl; (exact rfl)))
  rw [hdl, hE2]
  repeat (first | apply ef_seq | (apply ef_mv; exact rfl; exact rfl) | apply ef_nil | apply seqQ.normal | apply ef_ret | apply seqQ.ret | (apply ef_condt; exact rfl; (assumption)))
  (apply fin3l; (· exact rfl); (· exact rfl); (· exact rfl); (· exact rfl); (· rfl))
theorem KeptOf_c (k : Nat) (n : Nt) (hb : BdN n) (ds : List Int) (hl : ds.length ≤ 1000) (hc : n.cs.length ≤ 1000) (h : MHeap) {v : MV} (hv : frz 0 [] h 8 v = some (.sl (ds.map I64))) :
    orA (k + 7) 11 [encN n, v] h = some (.tup [I64 (if kpE n ds = 0 then kpV n ds else 0), I64 (if kpE n ds = 0 then wsU n.cs ds n.cs.length - kpV n ds else 0), I64 (kpE n ds)], h) := by
  have hz : runZ MT (orA (k + 6)) (itA (k + 6)) 4000000 11 [encN n, .sl (ds.map I64)] [] = some (.tup [I64 (if kpE n ds = 0 then kpV n ds else 0), I64 (if kpE n ds = 0 then wsU n.cs ds n.cs.length - kpV n ds else 0), I64 (kpE n ds)], []) := by
    by_cases he : kpE n ds = 0
    · have he2 := he
      rw [kpE_is] at he2
      split at he2
      case isFalse h0 => exact absurd he2 h0
      rename_i h0
      obtain ⟨h1, h2⟩ := anE_ok he2
      rw [he, if_pos rfl, if_pos rfl]
      exact KeptOf_z k n hb h0 ds h1 h2
    · rw [if_neg he, if_neg he]
      exact KeptOf_e k n hb ds hl hc he
  have := callA (k := k + 6) (h := h) (args := [encN n, v]) (args' := [encN n, .sl (ds.map I64)]) (by simp [List.mapM_cons, hv, frz_lt (ltL_N n 0)]) rfl hz (by simp [okV, ok1, MV.lt, MV.pure]) rfl
  simpa [shV, sh1] using this
end Go.Proofs.Ytbdleggmdbihnaa

/- Calls whose answer is frozen: what a copy hands back speaks of no memory. -/
namespace Go.Proofs.Ytbdleggmdbihnaa
open Go.RowKit
set_option linter.unusedVariables false
def frzRun (run : List MV → Option (MV × MHeap)) (args : List MV) : Option (MV × MHeap) :=
  match run args with
  | some (m, news) => match frz 0 [] news 8 m with
    | some m' => some (m', [])
    | none => none
  | none => none
theorem post_frz {E : Env} {w : World} {m m' : MV} {news : MHeap} {e : Ending} {w' : World} (hr : HRel E [] w) (hf : frz 0 [] news 8 m = some m') (hP : Post E w m news e w') : Post E w m' [] e w' := by
  obtain ⟨v, E', rfl, h1, h2, h3⟩ := hP
  obtain ⟨S0, hS0⟩ : ∃ S0 : Nat → Prop, S0 = fun b => E'.S b ∨ ∃ id, E'.K id ∧ 0 < E'.cp id ∧ E'.ρ id = b := ⟨_, rfl⟩
  have hK : ∀ id, ¬ E.K id := fun id hk => absurd (hr.klt id hk) (by simp)
  have ht : E'.top = 0 := by rw [h3.top]; exact Nat.le_zero.1 hr.top
  refine ⟨v, { E' with K := fun _ => False, S := S0 }, rfl, ?_, ?_, ?_⟩
  · refine frz_okG (Es := { E' with K := fun _ => False, S := S0 }) h2 (fun m v hv hl => V.env (E := E'.res 0) (E2 := { E' with K := fun _ => False, S := S0 }) ⟨fun b hb => (by rw [hS0]; exact .inl hb : S0 b), fun id hk => absurd hk.2 (by omega), rfl⟩ (hv.res hl)) (fun b hb => ?_) (fun id hk _ _ hc0 => ?_) 8 _ _ _ h1 hf
    · show S0 b
      rw [hS0]; exact .inl hb
    · show S0 (E'.ρ id)
      rw [hS0]; exact .inr ⟨id, hk, hc0, rfl⟩
  · refine ⟨fun _ hk => hk.elim, by rw [show ({ E' with K := fun _ => False, S := S0 } : Env).top = E'.top from rfl, ht]; exact Nat.zero_le _, fun _ hk => hk.elim, fun _ _ hk => hk.elim, fun _ hk => hk.elim, fun b hb => ?_⟩
    have hb : S0 b := hb
    rw [hS0] at hb
    rcases hb with hb | ⟨id, hk, hc, rfl⟩
    · exact h2.slt b hb
    · exact h2.lt hk hc
  · refine ⟨h3.os, h3.tape, h3.output, h3.size, h3.keep, fun b hb => (by rw [hS0]; exact .inl (h3.S b hb) : S0 b), fun id hk => absurd hk (hK id), fun id hk => absurd hk (hK id), fun id hk => absurd hk (hK id), fun id hk => hk.elim, h3.top, fun id hk => hk.elim, h3.yl, fun b hb => ?_⟩
    have hb : S0 b := hb
    rw [hS0] at hb
    rcases hb with hb | ⟨id, hk, hc, rfl⟩
    · exact h3.srcS b hb
    · rcases h3.src id hk hc with ⟨q, _⟩ | q
      · exact absurd q (hK id)
      · exact .inr (.inr q)
noncomputable def orC (L : List Nat) (k : Nat) : Oracle := fun f args h =>
  if L.contains f then frzCall (frzRun (tabZ MT tA (orA k) (itA k) 4000000 f)) args h else orA (k + 1) f args h
theorem orC_ok (L : List Nat) (k : Nat) : SoundO Try.prog (orC L k) ∧ AppO (orC L k) := by
  have hz := fun k => orZ_ok (N := 4000000) (P := Try.prog) (by kernel_rfl) (tabOf_ok Try.prog) tA_ok tI_ok k
  have hI : SoundI Try.prog (itA k) := orI_ok (by kernel_rfl) (tabOf_ok Try.prog) tI_ok (hz k).1 (hz k).2
  have hrun : ∀ f args' m news, frzRun (tabZ MT tA (orA k) (itA k) 4000000 f) args' = some (m, news) → hasBody Try.prog f = true ∧ ∀ E w vs, HRel E [] w → Vs E w args' vs → Calls Try.prog f vs.toArray w (Post E w m news) := fun f args' m news he => by
    unfold frzRun at he
    split at he
    case h_2 => cases he
    rename_i m0 n0 h0
    split at he
    case h_2 => cases he
    rename_i m1 h1
    cases he
    obtain ⟨hb, hc⟩ := tabZ_ok (by kernel_rfl) (tabOf_ok Try.prog) tA_ok (hz k).1 (hz k).2 hI h0
    exact ⟨hb, fun E w vs hr hv => (hc E w vs hr hv).mono fun e w' hP => post_frz hr h1 hP⟩
  refine ⟨⟨fun f args h m h' he => ?_, tA_ok.2⟩, fun f args h m h' he => ?_⟩
  · unfold orC at he
    split at he
    · have hb : hasBody Try.prog f = true := by
        unfold frzCall at he
        split at he
        case h_2 => cases he
        split at he
        case h_2 => cases he
        rename_i hr
        exact (hrun _ _ _ _ hr).1
      exact ⟨hb, fun E w vs hr hv => frzCall_ok (fun args' m news hq => (hrun f args' m news hq).2) he hr hv⟩
    · exact (hz (k + 1)).1.1 f args h m h' he
  · unfold orC at he
    split at he
    · exact frzCall_app he
    · exact (hz (k + 1)).2 f args h m h' he
theorem orC_of {L : List Nat} {k f : Nat} {args : List MV} {h : MHeap} {r : MV × MHeap} (hf : L.contains f = false) (h1 : orA (k + 1) f args h = some r) : orC L k f args h = some r := by
  unfold orC
  rw [hf]
  exact h1
theorem orC_frz {L : List Nat} {k f : Nat} {args args' : List MV} {h : MHeap} {m m' : MV} {news : MHeap} (hf : L.contains f = true) (h1 : args.mapM (frz 0 [] h 8) = some args') (hT : tA f args' [] = none) (h2 : runZ MT (orA k) (itA k) 4000000 f args' [] = some (m, news))
    (h3 : frz 0 [] news 8 m = some m') (h4 : okV (ltL 0 args) m' = true) (h5 : shV h.length m' = m') : orC L k f args h = some (m', h) := by
  unfold orC
  rw [hf]
  have e : tabZ MT tA (orA k) (itA k) 4000000 f args' = some (m, news) := by unfold tabZ; rw [hT]; exact h2
  simp only [if_true, frzCall, h1, frzRun, e, h3, h4, okH, List.all_nil, Bool.and_self, h5, List.append_nil]
end Go.Proofs.Ytbdleggmdbihnaa

/- Small helpers about memory. -/
namespace Go.Proofs.Ytbdleggmdbihnaa
open Go.RowKit
set_option linter.unusedVariables false
structure Bx (p : Prop) : Prop where
  out : p
end Go.Proofs.Ytbdleggmdbihnaa

/- Copies of nets that are frozen; whether a slice has a number. -/
namespace Go.Proofs.Ytbdleggmdbihnaa
open Go.RowKit
set_option linter.unusedVariables false
set_option linter.unusedSimpArgs false
abbrev LZ : List Nat := [12]
theorem frz_cp (ls : List Ln) (cs : List Cr) : frz 0 [] (cpH ls cs) 8 (cpV 0 ls cs) = some (encN ⟨ls, cs⟩) := by
  cases ls with
  | nil =>
    cases cs with
    | nil => rfl
    | cons c cs => exact frzF_agg2 rfl (frzF_lt rfl) (frzF_arr (o := ⟨0, false, 6, (c :: cs).map encCr⟩) rfl rfl (by simp) (ltL_Cr 0 _) rfl)
  | cons l ls =>
    cases cs with
    | nil => exact frzF_agg2 rfl (frzF_arr (o := ⟨0, false, 2, (l :: ls).map encLn⟩) rfl rfl (by simp) (ltL_Ln 0 _) rfl) (frzF_lt rfl)
    | cons c cs => exact frzF_agg2 rfl (frzF_arr (o := ⟨0, false, 2, (l :: ls).map encLn⟩) rfl rfl (by simp) (ltL_Ln 0 _) rfl) (frzF_arr (o := ⟨0, false, 6, (c :: cs).map encCr⟩) rfl rfl (by simp) (ltL_Cr 0 _) rfl)
theorem Copy_cc (k : Nat) (n : Nt) (hb : BdN n) (h : MHeap) : orC LZ k 12 [encN n] h = some (encN n, h) :=
  orC_frz (args' := [encN n]) rfl (frzL_lt (by simp [ltL, MV.lt, ltL_Ln, ltL_Cr])) rfl (Copy_z k n hb) (frz_cp n.ls n.cs) (by simp [okV, ok1, MV.lt, ltL, ltL_Ln, ltL_Cr]) rfl
theorem mf_bHas : MT.mf 19 = some ⟨18, [(.tmp 4)], (.seq (.reg [⟨none, some 4, .mv (.c (.lit (.bool false)))⟩]) (.seq (.seq (.reg [⟨none, some 5, .mv (.c (.lit (.int .i64 0)))⟩]) (.block 0 (.loop [5, 0, 1] (.seq (.seq (.reg [⟨none, some 6, .mv (.s 5)⟩, ⟨none, some 7, .mv (.s 0)⟩, ⟨none, some 8, .len (.s 7)⟩, ⟨none, some 9, .bin .lss (.s 6) (.s 8)⟩]) (.cond (.s 9) .skip (.exit 0))) (.seq (.block 1 (.seq (.reg [⟨none, some 12, .mv (.s 0)⟩, ⟨none, some 13, .mv (.s 5)⟩, ⟨none, some 14, .ia 1 (.s 12) (.s 13)⟩, ⟨none, some 15, .ld none (.s 14)⟩, ⟨none, some 16, .mv (.s 1)⟩, ⟨none, some 17, .bin .eql (.s 15) (.s 16)⟩]) (.cond (.s 17) (.seq (.reg [⟨none, some 4, .mv (.c (.lit (.bool true)))⟩]) .ret) .skip))) (.reg [⟨none, some 10, .mv (.s 5)⟩, ⟨none, some 11, .bin .add (.s 10) (.c (.lit (.int .i64 1)))⟩, ⟨none, some 5, .mv (.s 11)⟩])))))) (.seq (.reg [⟨none, some 4, .mv (.c (.lit (.bool false)))⟩]) .ret)))⟩ := by kernel_rfl
theorem bHas_z (k : Nat) (xs : List Int) (z : Int) (hx : xs.length ≤ 1000) : runZ MT (orA k) (itA k) 4000000 19 [.sl (xs.map I64), I64 z] [] = some (Bo (xs.any (· == z)), []) := by
  have hl : (MV.sl (xs.map I64)).slen = some xs.length := by simp [MV.slen]
  refine runZ_of mf_bHas (by simp) ?_
  simp only [argsL]
  repeat (first | apply ef_seq | (apply ef_mv; exact rfl; exact rfl) | apply ef_nil | apply seqQ.normal | apply ef_block)
  refine ef_loop (α := Nat) (fun i => i ≤ xs.length ∧ xs.any (· == z) = (xs.drop i).any (· == z)) (fun i => [(5, I64 (i : Int)), (0, .sl (xs.map I64)), (1, I64 z)]) (fun _ => []) (fun i => xs.length - i) 0 [5, 0, 1] (fun _ => rfl) rfl ⟨by omega, rfl⟩ (by simp; omega) (by ((repeat (refine Hold.cons (by exact rfl) ?_)); exact Hold.nil)) rfl ?_
  rintro i ⟨hi, hz⟩
  by_cases hlt : i < xs.length
  · have e1 := at_map I64 xs i hlt
    have HS := Lib.hid (drop_at xs i hlt)
    have HZ := Lib.hid hz
    clear hz
    generalize xs[i] = y at e1 HS
    by_cases h3 : y = z
    · repeat (first | apply ef_seq | (apply ef_mv; exact rfl; exact rfl) | (apply ef_bin; exact rfl; exact rfl; exact rfl; (exact cmp_t rfl (by first | exact rfl | (simp only [cmpP]; omega)))) | (apply ef_len; exact rfl; exact rfl; (assumption)) | (apply ef_ldr; exact rfl; exact rfl; (exact rfl)) | (apply ef_ias; exact rfl; exact rfl; exact rfl; (omega); assumption; exact rfl) | apply ef_nil | apply seqQ.normal | apply loopQ.ret | apply ef_ret | apply seqQ.ret | apply blockQ.ret | apply ef_block | apply ef_skip | (apply ef_condt; exact rfl; (exact (rfl : true = true))))
      (refine fin1 rfl (by exact rfl) rfl ?_)
      rw [HZ.out, HS.out, List.any_cons, h3]; simp
    · repeat (first | apply ef_seq | (apply ef_mv; exact rfl; exact rfl) | (apply ef_bin; exact rfl; exact rfl; exact rfl; (first | exact cmp_t rfl (by first | exact rfl | (simp only [cmpP]; omega)) | exact cmp_f rfl (by simp only [cmpP]; omega) | ((with_reducible refine bin_add (wrap_of ?_ ?_)) <;> omega))) | (apply ef_len; exact rfl; exact rfl; (assumption)) | (apply ef_ldr; exact rfl; exact rfl; (exact rfl)) | (apply ef_ias; exact rfl; exact rfl; exact rfl; (omega); assumption; exact rfl) | apply ef_nil | apply seqQ.normal | apply blockQ.normal | apply ef_block | apply ef_skip | (apply ef_condt; exact rfl; (exact (rfl : true = true))) | (apply ef_condf; exact rfl; (exact (rfl : false = false))))
      (refine loopQ.normal _ _ ⟨i + 1, ⟨hlt, by rw [HZ.out, HS.out, List.any_cons, show (y == z) = false by simpa using h3]; rfl⟩, (by first | (simp only; omega) | omega), by ((repeat (refine Hold.cons (by exact rfl) ?_)); exact Hold.nil), .inl (Nat.le_refl _), (by first | exact List.take_length | exact rfl)⟩)
  · repeat (first | apply ef_seq | (apply ef_mv; exact rfl; exact rfl) | (apply ef_bin; exact rfl; exact rfl; exact rfl; (exact cmp_f rfl (by simp only [cmpP]; omega))) | (apply ef_len; exact rfl; exact rfl; (assumption)) | apply ef_nil | apply seqQ.normal | apply loopQ.exit | apply ef_ret | apply ef_exit | apply seqQ.exit | apply blockQ.here | (apply ef_condf; exact rfl; (exact (rfl : false = false))))
    (refine fin1 rfl (by exact rfl) rfl ?_)
    rw [hz, List.drop_eq_nil_of_le (by omega)]; rfl
theorem bHas_c (k : Nat) (xs : List Int) (z : Int) (hx : xs.length ≤ 1000) (h : MHeap) {v : MV} (hv : frz 0 [] h 8 v = some (.sl (xs.map I64))) {t : Bool} (ht : xs.any (· == z) = t) : orA (k + 1) 19 [v, I64 z] h = some (Bo t, h) :=
  callL (args' := [.sl (xs.map I64), I64 z]) (by simp [List.mapM_cons, hv, frz_lt (m := I64 z) rfl]) rfl (by rw [← ht]; exact bHas_z k xs z hx)
def onB (w : List Int) : Nat → Bool
  | 0 => true
  | i + 1 => onB w i && !((w.take i).any (· == w.getD i 0))
theorem onB_nodup (w : List Int) : ∀ i, i ≤ w.length → onB w i = true → (w.take i).Nodup
  | 0, _, _ => by simp
  | i + 1, hi, h => by
    simp only [onB, Bool.and_eq_true, Bool.not_eq_true', List.any_eq_false] at h
    have e : w.getD i 0 = w[i] := by rw [List.getD_eq_getElem?_getD, List.getElem?_eq_getElem (by omega)]; rfl
    rw [List.take_add_one, List.getElem?_eq_getElem (by omega), List.nodup_append]
    refine ⟨onB_nodup w i (by omega) h.1, by simp, fun a ha b hb => ?_⟩
    simp only [Option.toList_some, List.mem_singleton] at hb
    subst hb
    have := h.2 a ha
    rw [e] at this
    simpa using this
end Go.Proofs.Ytbdleggmdbihnaa

/- LevelAnomalies: the walk. -/
namespace Go.Proofs.Ytbdleggmdbihnaa
open Go.RowKit
set_option linter.unusedVariables false
set_option linter.unusedSimpArgs false
def ownL (n : Nt) (c : List Int) : List Int := n.cs.map fun x => cAt c x.ln - cAt c x.ti
def botL (a o : List Int) : List Int := List.zipWith (· + ·) a o
theorem botL_get {a o : List Int} {i : Nat} (h : a.length = o.length) (hi : i < a.length) : (botL a o)[i]? = some (a[i] + o[i]) := by
  unfold botL
  rw [List.getElem?_zipWith, List.getElem?_eq_getElem hi, List.getElem?_eq_getElem (by omega)]
theorem own_d (n : Nt) (c : List Int) : OwnD n c (ownL n c) := fun i hi => by
  have e : n.cs.getD i default = n.cs[i] := by rw [List.getD_eq_getElem?_getD, List.getElem?_eq_getElem hi]; rfl
  rw [e]
  unfold ownL
  show (List.map _ n.cs).getD ((i : Nat) : Int).toNat 0 = _
  rw [List.getD_eq_getElem?_getD, Int.toNat_natCast, List.getElem?_map, List.getElem?_eq_getElem hi]; rfl
theorem bot_d {n : Nt} {a o : List Int} (h : a.length = o.length) (hl : a.length = n.cs.length) : ∀ i : Nat, i < n.cs.length → cAt (botL a o) i = cAt a i + cAt o i := fun i hi => by
  unfold cAt
  rw [List.getD_eq_getElem?_getD, List.getD_eq_getElem?_getD, List.getD_eq_getElem?_getD, Int.toNat_natCast, botL_get h (by omega), List.getElem?_eq_getElem (by omega), List.getElem?_eq_getElem (by omega)]; rfl
theorem cAt_ok7 {ds : List Int} (h : ds.any anB = false) (v : Int) : -10000000 ≤ cAt ds v ∧ cAt ds v ≤ 10000000 := by have := cAt_ok h v; omega
theorem all_len1 (w : List Int) : (w.map I64).all (fun e => e.cells.length == 1) = true := by
  rw [List.all_eq_true]; intro m hm; obtain ⟨z, _, rfl⟩ := List.mem_map.1 hm; rfl
theorem wr_sub {ws kk : Int} {m : Nat} (h1 : 0 ≤ kk) (h2 : kk ≤ ws) (h3 : ws ≤ 100000000 * (m : Int)) (h4 : m ≤ 16) : IntKind.i64.wrap (ws - kk) = ws - kk := wrap_of (by omega) (by omega)
theorem mf_LevelAnomalies : MT.mf 4 = some ⟨235, [(.tmp 6)], (.seq (.reg [⟨none, some 3, .box 2 (.s 0)⟩, ⟨none, some 5, .box 2 (.s 2)⟩, ⟨none, some 6, .mv (.c (.lit (.bool false)))⟩]) (.seq (.seq (.reg [⟨none, some 25, .call 7 []⟩, ⟨none, some 26, .un .not (.s 25)⟩]) (.cond (.s 26) (.seq (.reg [⟨none, some 6, .mv (.c (.lit (.bool false)))⟩]) .ret) .skip)) (.seq (.seq (.reg [⟨none, some 27, .ld (some 2) (.s 3)⟩, ⟨none, some 28, .call 8 [.s 27]⟩, ⟨none, some 29, .un .not (.s 28)⟩, ⟨none, some 30, .mv (.s 29)⟩, ⟨some (30, false), some 31, .ld (some 2) (.s 3)⟩, ⟨some (30, false), some 32, .call 14 [.s 31]⟩, ⟨some (30, false), some 33, .bin .neq (.s 32) (.c (.lit (.int .i64 0)))⟩, ⟨none, some 34, .pick (.s 30) (.c (.lit (.bool true))) (.s 33)⟩, ⟨none, some 35, .mv (.s 34)⟩, ⟨some (35, false), some 36, .mv (.s 1)⟩, ⟨some (35, false), some 37, .call 10 [.s 36]⟩, ⟨some (35, false), some 38, .un .not (.s 37)⟩, ⟨none, some 39, .pick (.s 35) (.c (.lit (.bool true))) (.s 38)⟩, ⟨none, some 40, .mv (.s 39)⟩, ⟨some (40, false), some 41, .ld (some 2) (.s 3)⟩, ⟨some (40, false), some 42, .mv (.s 1)⟩, ⟨some (40, false), some 43, .call 15 [.s 41, .s 42]⟩, ⟨some (40, false), some 44, .bin .neq (.s 43) (.c (.lit (.int .i64 0)))⟩, ⟨none, some 45, .pick (.s 40) (.c (.lit (.bool true))) (.s 44)⟩, ⟨none, some 46, .mv (.s 45)⟩, ⟨some (46, false), some 47, .fa 0 (.s 5)⟩, ⟨some (46, false), some 48, .ld none (.s 47)⟩, ⟨some (46, false), some 49, .call 10 [.s 48]⟩, ⟨some (46, false), some 50, .un .not (.s 49)⟩, ⟨none, some 51, .pick (.s 46) (.c (.lit (.bool true))) (.s 50)⟩, ⟨none, some 52, .mv (.s 51)⟩, ⟨some (52, false), some 53, .ld (some 2) (.s 3)⟩, ⟨some (52, false), some 54, .fa 0 (.s 5)⟩, ⟨some (52, false), some 55, .ld none (.s 54)⟩, ⟨some (52, false), some 56, .call 18 [.s 53, .s 55]⟩, ⟨some (52, false), some 57, .bin .neq (.s 56) (.c (.lit (.int .i64 0)))⟩, ⟨none, some 58, .pick (.s 52) (.c (.lit (.bool true))) (.s 57)⟩, ⟨none, some 59, .mv (.s 58)⟩, ⟨some (59, false), some 60, .fa 1 (.s 5)⟩, ⟨some (59, false), some 61, .ld none (.s 60)⟩, ⟨some (59, false), some 62, .len (.s 61)⟩, ⟨some (59, false), some 63, .bin .gtr (.s 62) (.c (.lit (.int .i64 16)))⟩, ⟨none, some 64, .pick (.s 59) (.c (.lit (.bool true))) (.s 63)⟩]) (.cond (.s 64) (.seq (.reg [⟨none, some 6, .mv (.c (.lit (.bool true)))⟩]) .ret) .skip)) (.seq (.reg [⟨none, some 66, .ld (some 2) (.s 3)⟩, ⟨none, some 67, .call 12 [.s 66]⟩, ⟨none, some 68, .mv (.s 1)⟩, ⟨none, some 69, .call 13 [.s 68]⟩, ⟨none, some 70, .call 11 [.s 67, .s 69]⟩, ⟨none, some 65, .mv (.s 70)⟩, ⟨none, some 71, .ext (.s 65) 0⟩, ⟨none, some 72, .ext (.s 65) 1⟩, ⟨none, some 73, .ext (.s 65) 2⟩, ⟨none, some 7, .mv (.s 71)⟩, ⟨none, some 8, .mv (.s 72)⟩, ⟨none, some 9, .mv (.s 73)⟩]) (.seq (.seq (.reg [⟨none, some 74, .mv (.s 9)⟩, ⟨none, some 75, .bin .neq (.s 74) (.c (.lit (.int .i64 0)))⟩, ⟨none, some 76, .mv (.s 75)⟩, ⟨some (76, false), some 77, .mv (.s 7)⟩, ⟨some (76, false), some 78, .bin .lss (.s 77) (.c (.lit (.int .i64 0)))⟩, ⟨none, some 79, .pick (.s 76) (.c (.lit (.bool true))) (.s 78)⟩, ⟨none, some 80, .mv (.s 79)⟩, ⟨some (80, false), some 81, .mv (.s 8)⟩, ⟨some (80, false), some 82, .bin .lss (.s 81) (.c (.lit (.int .i64 0)))⟩, ⟨none, some 83, .pick (.s 80) (.c (.lit (.bool true))) (.s 82)⟩, ⟨none, some 84, .mv (.s 83)⟩, ⟨some (84, false), some 85, .mv (.s 7)⟩, ⟨some (84, false), some 86, .ld (some 2) (.s 3)⟩, ⟨some (84, false), some 87, .mv (.s 1)⟩, ⟨some (84, false), some 88, .call 17 [.s 86, .s 87]⟩, ⟨some (84, false), some 89, .bin .gtr (.s 85) (.s 88)⟩, ⟨none, some 90, .pick (.s 84) (.c (.lit (.bool true))) (.s 89)⟩, ⟨none, some 91, .mv (.s 90)⟩, ⟨some (91, false), some 92, .mv (.s 8)⟩, ⟨some (91, false), some 93, .ld (some 2) (.s 3)⟩, ⟨some (91, false), some 94, .mv (.s 1)⟩, ⟨some (91, false), some 95, .call 17 [.s 93, .s 94]⟩, ⟨some (91, false), some 96, .mv (.s 7)⟩, ⟨some (91, false), some 97, .bin .sub (.s 95) (.s 96)⟩, ⟨some (91, false), some 98, .bin .neq (.s 92) (.s 97)⟩, ⟨none, some 99, .pick (.s 91) (.c (.lit (.bool true))) (.s 98)⟩]) (.cond (.s 99) (.seq (.reg [⟨none, some 6, .mv (.c (.lit (.bool false)))⟩]) .ret) .skip)) (.seq (.reg [⟨none, some 10, .mv (.c (.lit (.bool true)))⟩]) (.seq (.seq (.reg [⟨none, some 11, .mv (.c (.lit (.int .i64 0)))⟩]) (.block 0 (.loop [11, 5, 10, 3, 1, 7] (.seq (.seq (.reg [⟨none, some 100, .mv (.s 11)⟩, ⟨none, some 101, .fa 1 (.s 5)⟩, ⟨none, some 102, .ld none (.s 101)⟩, ⟨none, some 103, .len (.s 102)⟩, ⟨none, some 104, .bin .lss (.s 100) (.s 103)⟩]) (.cond (.s 104) .skip (.exit 0))) (.seq (.block 1 (.reg [⟨none, some 107, .mv (.s 10)⟩, ⟨none, some 108, .mv (.s 107)⟩, ⟨some (108, true), some 109, .fa 1 (.s 5)⟩, ⟨some (108, true), some 110, .ld none (.s 109)⟩, ⟨some (108, true), some 111, .mv (.s 11)⟩, ⟨some (108, true), some 112, .slc 1 (.s 110) none (some (.s 111))⟩, ⟨some (108, true), some 113, .fa 1 (.s 5)⟩, ⟨some (108, true), some 114, .ld none (.s 113)⟩, ⟨some (108, true), some 115, .mv (.s 11)⟩, ⟨some (108, true), some 116, .ia 1 (.s 114) (.s 115)⟩, ⟨some (108, true), some 117, .ld none (.s 116)⟩, ⟨some (108, true), some 118, .call 19 [.s 112, .s 117]⟩, ⟨some (108, true), some 119, .un .not (.s 118)⟩, ⟨none, some 120, .pick (.s 108) (.s 119) (.c (.lit (.bool false)))⟩, ⟨none, some 10, .mv (.s 120)⟩])) (.reg [⟨none, some 105, .mv (.s 11)⟩, ⟨none, some 106, .bin .add (.s 105) (.c (.lit (.int .i64 1)))⟩, ⟨none, some 11, .mv (.s 106)⟩])))))) (.seq (.reg [⟨none, some 122, .ld (some 2) (.s 3)⟩, ⟨none, some 123, .mv (.s 1)⟩, ⟨none, some 124, .call 21 [.s 122, .s 123]⟩, ⟨none, some 125, .fa 1 (.s 5)⟩, ⟨none, some 126, .ld none (.s 125)⟩, ⟨none, some 127, .call 13 [.s 126]⟩, ⟨none, some 128, .call 20 [.s 124, .s 127]⟩, ⟨none, some 121, .mv (.s 128)⟩, ⟨none, some 129, .ext (.s 121) 0⟩, ⟨none, some 130, .ext (.s 121) 1⟩, ⟨none, some 12, .mv (.s 129)⟩, ⟨none, some 13, .mv (.s 130)⟩]) (.seq (.seq (.reg [⟨none, some 131, .mv (.s 13)⟩, ⟨none, some 132, .bin .eql (.s 131) (.c (.lit (.int .i64 0)))⟩, ⟨none, some 133, .mv (.s 132)⟩, ⟨some (133, true), some 134, .mv (.s 10)⟩, ⟨none, some 135, .pick (.s 133) (.s 134) (.c (.lit (.bool false)))⟩, ⟨none, some 136, .mv (.s 135)⟩, ⟨some (136, true), some 137, .mv (.s 12)⟩, ⟨some (136, true), some 138, .call 22 [.s 137, (.c (.lit (.int .i64 (-160000)))), (.c (.lit (.int .i64 160000)))]⟩, ⟨some (136, true), some 139, .un .not (.s 138)⟩, ⟨some (136, true), some 140, .mv (.s 139)⟩, ⟨some (140, false), some 141, .mv (.s 12)⟩, ⟨some (140, false), some 142, .call 23 [.s 141]⟩, ⟨some (140, false), some 143, .mv (.s 7)⟩, ⟨some (140, false), some 144, .bin .gtr (.s 142) (.s 143)⟩, ⟨some (136, true), some 145, .pick (.s 140) (.c (.lit (.bool true))) (.s 144)⟩, ⟨none, some 146, .pick (.s 136) (.s 145) (.c (.lit (.bool false)))⟩]) (.cond (.s 146) (.seq (.reg [⟨none, some 6, .mv (.c (.lit (.bool false)))⟩]) .ret) .skip)) (.seq (.reg [⟨none, some 14, .nil0 1⟩, ⟨none, some 15, .nil0 1⟩]) (.seq (.seq (.reg [⟨none, some 16, .mv (.c (.lit (.int .i64 0)))⟩]) (.block 2 (.loop [16, 3, 5, 14, 15, 1, 7] (.seq (.seq (.reg [⟨none, some 147, .mv (.s 16)⟩, ⟨none, some 148, .fa 1 (.s 3)⟩, ⟨none, some 149, .ld none (.s 148)⟩, ⟨none, some 150, .len (.s 149)⟩, ⟨none, some 151, .bin .lss (.s 147) (.s 150)⟩]) (.cond (.s 151) .skip (.exit 2))) (.seq (.block 3 (.seq (.reg [⟨none, some 154, .fa 1 (.s 3)⟩, ⟨none, some 155, .ld none (.s 154)⟩, ⟨none, some 156, .mv (.s 16)⟩, ⟨none, some 157, .ia 6 (.s 155) (.s 156)⟩, ⟨none, some 158, .ld (some 6) (.s 157)⟩, ⟨none, some 17, .new (.agg [(.lit (.int .i64 0)), (.lit (.int .i64 0)), (.lit (.int .i64 0)), (.lit (.int .i64 0)), (.lit (.int .i64 0)), (.lit (.int .i64 0))])⟩, ⟨none, none, .st 6 (.s 17) (.s 158)⟩]) (.seq (.reg [⟨none, some 159, .fa 0 (.s 5)⟩, ⟨none, some 160, .ld none (.s 159)⟩, ⟨none, some 161, .fa 0 (.s 17)⟩, ⟨none, some 162, .ld none (.s 161)⟩, ⟨none, some 163, .ia 1 (.s 160) (.s 162)⟩, ⟨none, some 164, .ld none (.s 163)⟩, ⟨none, some 165, .fa 0 (.s 5)⟩, ⟨none, some 166, .ld none (.s 165)⟩, ⟨none, some 167, .fa 1 (.s 17)⟩, ⟨none, some 168, .ld none (.s 167)⟩, ⟨none, some 169, .ia 1 (.s 166) (.s 168)⟩, ⟨none, some 170, .ld none (.s 169)⟩, ⟨none, some 171, .bin .sub (.s 164) (.s 170)⟩, ⟨none, some 18, .mv (.s 171)⟩]) (.reg [⟨none, some 172, .mv (.s 14)⟩, ⟨none, some 173, .mv (.s 18)⟩, ⟨none, some 174, .vsl (.lit (.int .i64 0)) 1 1 [(0, (.s 173))]⟩, ⟨none, some 175, .app 1 (.s 172) (.s 174)⟩, ⟨none, some 176, .mv (.s 15)⟩, ⟨none, some 177, .mv (.s 1)⟩, ⟨none, some 178, .mv (.s 16)⟩, ⟨none, some 179, .ia 1 (.s 177) (.s 178)⟩, ⟨none, some 180, .ld none (.s 179)⟩, ⟨none, some 181, .mv (.s 18)⟩, ⟨none, some 182, .bin .add (.s 180) (.s 181)⟩, ⟨none, some 183, .vsl (.lit (.int .i64 0)) 1 1 [(0, (.s 182))]⟩, ⟨none, some 184, .app 1 (.s 176) (.s 183)⟩, ⟨none, some 14, .mv (.s 175)⟩, ⟨none, some 15, .mv (.s 184)⟩, ⟨none, none, .ne (.s 177) (.s 172)⟩, ⟨none, none, .ne (.s 178) (.s 172)⟩, ⟨none, none, .ne (.s 179) (.s 172)⟩])))) (.reg [⟨none, some 152, .mv (.s 16)⟩, ⟨none, some 153, .bin .add (.s 152) (.c (.lit (.int .i64 1)))⟩, ⟨none, some 16, .mv (.s 153)⟩])))))) (.seq (.seq (.reg [⟨none, some 185, .ld (some 2) (.s 3)⟩, ⟨none, some 186, .mv (.s 14)⟩, ⟨none, some 187, .call 15 [.s 185, .s 186]⟩, ⟨none, some 188, .bin .neq (.s 187) (.c (.lit (.int .i64 0)))⟩, ⟨none, some 189, .mv (.s 188)⟩, ⟨some (189, false), some 190, .ld (some 2) (.s 3)⟩, ⟨some (189, false), some 191, .mv (.s 15)⟩, ⟨some (189, false), some 192, .call 15 [.s 190, .s 191]⟩, ⟨some (189, false), some 193, .bin .neq (.s 192) (.c (.lit (.int .i64 0)))⟩, ⟨none, some 194, .pick (.s 189) (.c (.lit (.bool true))) (.s 193)⟩]) (.cond (.s 194) (.seq (.reg [⟨none, some 6, .mv (.c (.lit (.bool true)))⟩]) .ret) .skip)) (.seq (.reg [⟨none, some 196, .ld (some 2) (.s 3)⟩, ⟨none, some 197, .call 12 [.s 196]⟩, ⟨none, some 198, .mv (.s 14)⟩, ⟨none, some 199, .call 13 [.s 198]⟩, ⟨none, some 200, .call 11 [.s 197, .s 199]⟩, ⟨none, some 195, .mv (.s 200)⟩, ⟨none, some 201, .ext (.s 195) 0⟩, ⟨none, some 202, .ext (.s 195) 1⟩, ⟨none, some 203, .ext (.s 195) 2⟩, ⟨none, some 19, .mv (.s 201)⟩, ⟨none, some 20, .mv (.s 202)⟩, ⟨none, some 21, .mv (.s 203)⟩]) (.seq (.reg [⟨none, some 205, .ld (some 2) (.s 3)⟩, ⟨none, some 206, .call 12 [.s 205]⟩, ⟨none, some 207, .mv (.s 15)⟩, ⟨none, some 208, .call 13 [.s 207]⟩, ⟨none, some 209, .call 11 [.s 206, .s 208]⟩, ⟨none, some 204, .mv (.s 209)⟩, ⟨none, some 210, .ext (.s 204) 0⟩, ⟨none, some 211, .ext (.s 204) 1⟩, ⟨none, some 212, .ext (.s 204) 2⟩, ⟨none, some 22, .mv (.s 210)⟩, ⟨none, some 23, .mv (.s 211)⟩, ⟨none, some 24, .mv (.s 212)⟩]) (.seq (.reg [⟨none, some 213, .mv (.s 21)⟩, ⟨none, some 214, .bin .eql (.s 213) (.c (.lit (.int .i64 0)))⟩, ⟨none, some 215, .mv (.s 214)⟩, ⟨some (215, true), some 216, .mv (.s 19)⟩, ⟨some (215, true), some 217, .bin .eql (.s 216) (.c (.lit (.int .i64 0)))⟩, ⟨none, some 218, .pick (.s 215) (.s 217) (.c (.lit (.bool false)))⟩, ⟨none, some 219, .mv (.s 218)⟩, ⟨some (219, true), some 220, .mv (.s 20)⟩, ⟨some (219, true), some 221, .ld (some 2) (.s 3)⟩, ⟨some (219, true), some 222, .mv (.s 14)⟩, ⟨some (219, true), some 223, .call 17 [.s 221, .s 222]⟩, ⟨some (219, true), some 224, .bin .eql (.s 220) (.s 223)⟩, ⟨none, some 225, .pick (.s 219) (.s 224) (.c (.lit (.bool false)))⟩, ⟨none, some 226, .mv (.s 225)⟩, ⟨some (226, true), some 227, .mv (.s 24)⟩, ⟨some (226, true), some 228, .bin .eql (.s 227) (.c (.lit (.int .i64 0)))⟩, ⟨none, some 229, .pick (.s 226) (.s 228) (.c (.lit (.bool false)))⟩, ⟨none, some 230, .mv (.s 229)⟩, ⟨some (230, true), some 231, .mv (.s 22)⟩, ⟨some (230, true), some 232, .mv (.s 7)⟩, ⟨some (230, true), some 233, .bin .eql (.s 231) (.s 232)⟩, ⟨none, some 234, .pick (.s 230) (.s 233) (.c (.lit (.bool false)))⟩, ⟨none, some 6, .mv (.s 234)⟩]) .ret)))))))))))))))⟩ := by kernel_rfl
set_option maxHeartbeats 8000000 in
theorem LevelAnomalies_z (n : Nt) (a c w : List Int) (m1 : n.ls.length ≤ 9223372036854775807) (m2 : n.cs.length ≤ 9223372036854775807) (m3 : a.length ≤ 9223372036854775807) (m4 : c.length ≤ 9223372036854775807) (m5 : w.length ≤ 9223372036854775807) :
    runZ MT (orC LZ 13) (itA 14) 4000000 4 [encN n, .sl (a.map I64), .agg [.sl (c.map I64), .sl (w.map I64)]] [] = some (Bo true, []) := by
  refine runZ_of mf_LevelAnomalies (by simp) ?_
  simp only [argsL]
  have hs3 : (MV.sl (w.map I64)).slen = some w.length := by simp [MV.slen]
  have hs2 : (MV.sl (n.cs.map encCr)).slen = some n.cs.length := by simp [MV.slen]
  have w0 : ∀ h, orC LZ 13 7 [] h = some (Bo true, h) := fun h => orC_of rfl (awake_c h)
  have w1 : ∀ h, orC LZ 13 8 [encN n] h = _ := fun h => orC_of rfl (Few_c 13 n m1 m2 h)
  cases hf : fewNt n
  · rw [hf] at w1
    repeat (first | apply ef_seq | (apply ef_mv; exact rfl; exact rfl) | (apply ef_gn; exact rfl; (exact (rfl : true = true)); exact rfl) | (apply ef_pick; exact rfl; exact rfl; exact rfl) | (apply ef_ldp; exact rfl; exact rfl; (exact rfl); exact rfl; (exact rfl); (exact rd_2 rfl rfl)) | (apply ef_notT; exact rfl; exact rfl) | (apply ef_notF; exact rfl; exact rfl) | (apply ef_box; exact rfl; exact rfl; exact rfl; exact rfl) | apply ef_nil | apply seqQ.normal | apply ef_ret | apply seqQ.ret | apply ef_skip | (apply ef_condt; exact rfl; (exact (rfl : true = true))) | (apply ef_condf; exact rfl; (exact (rfl : false = false))) | (apply ef_call; exact rfl; ((repeat (apply XVs.cons; exact rfl)); exact XVs.nil); (with_reducible first | exact w0 _ | exact w1 _)))
    (refine fin1 rfl (by exact rfl) rfl ?_)
    rfl
  obtain ⟨hb, n10, n18⟩ := fewNt_bd hf
  rw [hf] at w1
  have w2 : ∀ h, orC LZ 13 14 [encN n] h = _ := fun h => orC_of rfl (NetErr_c 10 n hb h)
  by_cases h0 : (netF n).2 = 0
  rotate_left
  · generalize (netF n).2 = e at *
    repeat (first | apply ef_seq | (apply ef_mv; exact rfl; exact rfl) | (apply ef_bin; exact rfl; exact rfl; exact rfl; (exact cmp_t rfl (by first | exact rfl | (simp only [cmpP]; omega)))) | (apply ef_gy; exact rfl; (exact (rfl : false = false))) | (apply ef_gn; exact rfl; (exact (rfl : true = true)); exact rfl) | (apply ef_pick; exact rfl; exact rfl; exact rfl) | (apply ef_ldp; exact rfl; exact rfl; (exact rfl); exact rfl; (exact rfl); (exact rd_2 rfl rfl)) | (apply ef_notT; exact rfl; exact rfl) | (apply ef_box; exact rfl; exact rfl; exact rfl; exact rfl) | apply ef_nil | apply seqQ.normal | apply ef_ret | apply seqQ.ret | apply ef_skip | (apply ef_condt; exact rfl; (exact (rfl : true = true))) | (apply ef_condf; exact rfl; (exact (rfl : false = false))) | (apply ef_call; exact rfl; ((repeat (apply XVs.cons; exact rfl)); exact XVs.nil); (with_reducible first | exact w0 _ | exact w1 _ | exact w2 _)))
    (refine fin1 rfl (by exact rfl) rfl ?_)
    rfl
  have ok := net_ok h0
  rw [h0] at w2
  have w3 : ∀ h, orC LZ 13 10 [.sl (a.map I64)] h = _ := fun h => orC_of rfl (fewNumbers_c 13 a m3 h)
  by_cases hd1 : a.length ≤ 40
  rotate_left
  · rw [decide_eq_false hd1] at w3
    repeat (first | apply ef_seq | (apply ef_mv; exact rfl; exact rfl) | (apply ef_bin; exact rfl; exact rfl; exact rfl; (exact cmp_f rfl (by simp only [cmpP]; omega))) | (apply ef_gy; exact rfl; (exact (rfl : false = false))) | (apply ef_gn; exact rfl; (exact (rfl : true = true)); exact rfl) | (apply ef_pick; exact rfl; exact rfl; exact rfl) | (apply ef_ldp; exact rfl; exact rfl; (exact rfl); exact rfl; (exact rfl); (exact rd_2 rfl rfl)) | (apply ef_notT; exact rfl; exact rfl) | (apply ef_notF; exact rfl; exact rfl) | (apply ef_box; exact rfl; exact rfl; exact rfl; exact rfl) | apply ef_nil | apply seqQ.normal | apply ef_ret | apply seqQ.ret | apply ef_skip | (apply ef_condt; exact rfl; (exact (rfl : true = true))) | (apply ef_condf; exact rfl; (exact (rfl : false = false))) | (apply ef_call; exact rfl; ((repeat (apply XVs.cons; exact rfl)); exact XVs.nil); (with_reducible first | exact w0 _ | exact w1 _ | exact w2 _ | exact w3 _)))
    (refine fin1 rfl (by exact rfl) rfl ?_)
    rfl
  rw [decide_eq_true hd1] at w3
  have w4 : ∀ h, orC LZ 13 15 [encN n, .sl (a.map I64)] h = _ := fun h => orC_of rfl (anErr_c 11 n a (by omega) (by omega) h (frz_sl (ltL_I 0 a)))
  by_cases hd2 : anE n.cs.length a = 0
  rotate_left
  · generalize anE n.cs.length a = e at *
    repeat (first | apply ef_seq | (apply ef_mv; exact rfl; exact rfl) | (apply ef_bin; exact rfl; exact rfl; exact rfl; (first | exact cmp_t rfl (by first | exact rfl | (simp only [cmpP]; omega)) | exact cmp_f rfl (by simp only [cmpP]; omega))) | (apply ef_gy; exact rfl; (exact (rfl : false = false))) | (apply ef_gn; exact rfl; (exact (rfl : true = true)); exact rfl) | (apply ef_pick; exact rfl; exact rfl; exact rfl) | (apply ef_ldp; exact rfl; exact rfl; (exact rfl); exact rfl; (exact rfl); (exact rd_2 rfl rfl)) | (apply ef_notT; exact rfl; exact rfl) | (apply ef_box; exact rfl; exact rfl; exact rfl; exact rfl) | apply ef_nil | apply seqQ.normal | apply ef_ret | apply seqQ.ret | apply ef_skip | (apply ef_condt; exact rfl; (exact (rfl : true = true))) | (apply ef_condf; exact rfl; (exact (rfl : false = false))) | (apply ef_call; exact rfl; ((repeat (apply XVs.cons; exact rfl)); exact XVs.nil); (with_reducible first | exact w0 _ | exact w1 _ | exact w2 _ | exact w3 _ | exact w4 _)))
    (refine fin1 rfl (by exact rfl) rfl ?_)
    rfl
  have hkE : kpE n a = 0 := by rw [kpE_is, if_pos h0, hd2]
  rw [hd2] at w4
  obtain ⟨hal, haB⟩ := anE_ok hd2
  have w5 : ∀ h, orC LZ 13 10 [.sl (c.map I64)] h = _ := fun h => orC_of rfl (fewNumbers_c 13 c m4 h)
  by_cases hd3 : c.length ≤ 40
  rotate_left
  · rw [decide_eq_false hd3] at w5
    repeat (first | apply ef_seq | (apply ef_mv; exact rfl; exact rfl) | (apply ef_bin; exact rfl; exact rfl; exact rfl; (exact cmp_f rfl (by simp only [cmpP]; omega))) | (apply ef_gy; exact rfl; (exact (rfl : false = false))) | (apply ef_gn; exact rfl; (exact (rfl : true = true)); exact rfl) | (apply ef_pick; exact rfl; exact rfl; exact rfl) | (apply ef_ldp; exact rfl; exact rfl; (exact rfl); exact rfl; (exact rfl); (first | exact rd_2 rfl rfl | exact rfl)) | (apply ef_fap; exact rfl; exact rfl) | (apply ef_notT; exact rfl; exact rfl) | (apply ef_notF; exact rfl; exact rfl) | (apply ef_box; exact rfl; exact rfl; exact rfl; exact rfl) | apply ef_nil | apply seqQ.normal | apply ef_ret | apply seqQ.ret | apply ef_skip | (apply ef_condt; exact rfl; (exact (rfl : true = true))) | (apply ef_condf; exact rfl; (exact (rfl : false = false))) | (apply ef_call; exact rfl; ((repeat (apply XVs.cons; exact rfl)); exact XVs.nil); (with_reducible first | exact w0 _ | exact w1 _ | exact w2 _ | exact w3 _ | exact w4 _ | exact w5 _)))
    (refine fin1 rfl (by exact rfl) rfl ?_)
    rfl
  rw [decide_eq_true hd3] at w5
  have w6 : ∀ h, orC LZ 13 18 [encN n, .sl (c.map I64)] h = _ := fun h => orC_of rfl (rCorr_c 11 n c ok.l1 (by omega) (by omega) h (frz_sl (ltL_I 0 c)))
  by_cases hd4 : corrE n.ls.length c = 0
  rotate_left
  · generalize corrE n.ls.length c = e at *
    repeat (first | apply ef_seq | (apply ef_mv; exact rfl; exact rfl) | (apply ef_bin; exact rfl; exact rfl; exact rfl; (first | exact cmp_t rfl (by first | exact rfl | (simp only [cmpP]; omega)) | exact cmp_f rfl (by simp only [cmpP]; omega))) | (apply ef_gy; exact rfl; (exact (rfl : false = false))) | (apply ef_gn; exact rfl; (exact (rfl : true = true)); exact rfl) | (apply ef_pick; exact rfl; exact rfl; exact rfl) | (apply ef_ldp; exact rfl; exact rfl; (exact rfl); exact rfl; (exact rfl); (first | exact rd_2 rfl rfl | exact rfl)) | (apply ef_fap; exact rfl; exact rfl) | (apply ef_notT; exact rfl; exact rfl) | (apply ef_box; exact rfl; exact rfl; exact rfl; exact rfl) | apply ef_nil | apply seqQ.normal | apply ef_ret | apply seqQ.ret | apply ef_skip | (apply ef_condt; exact rfl; (exact (rfl : true = true))) | (apply ef_condf; exact rfl; (exact (rfl : false = false))) | (apply ef_call; exact rfl; ((repeat (apply XVs.cons; exact rfl)); exact XVs.nil); (with_reducible first | exact w0 _ | exact w1 _ | exact w2 _ | exact w3 _ | exact w4 _ | exact w5 _ | exact w6 _)))
    (refine fin1 rfl (by exact rfl) rfl ?_)
    rfl
  have hcc := corr_ok hd4
  rw [hd4] at w6
  by_cases hd5 : w.length ≤ 16
  rotate_left
  · repeat (first | apply ef_seq | (apply ef_mv; exact rfl; exact rfl) | (apply ef_bin; exact rfl; exact rfl; exact rfl; (first | exact cmp_t rfl (by first | exact rfl | (simp only [cmpP]; omega)) | exact cmp_f rfl (by simp only [cmpP]; omega))) | (apply ef_gy; exact rfl; (exact (rfl : false = false))) | (apply ef_pick; exact rfl; exact rfl; exact rfl) | (apply ef_len; exact rfl; exact rfl; (assumption)) | (apply ef_ldp; exact rfl; exact rfl; (exact rfl); exact rfl; (exact rfl); (first | exact rd_2 rfl rfl | exact rfl)) | (apply ef_fap; exact rfl; exact rfl) | (apply ef_notT; exact rfl; exact rfl) | (apply ef_box; exact rfl; exact rfl; exact rfl; exact rfl) | apply ef_nil | apply seqQ.normal | apply ef_ret | apply seqQ.ret | apply ef_skip | (apply ef_condt; exact rfl; (exact (rfl : true = true))) | (apply ef_condf; exact rfl; (exact (rfl : false = false))) | (apply ef_call; exact rfl; ((repeat (apply XVs.cons; exact rfl)); exact XVs.nil); (with_reducible first | exact w0 _ | exact w1 _ | exact w2 _ | exact w3 _ | exact w4 _ | exact w5 _ | exact w6 _)))
    (refine fin1 rfl (by exact rfl) rfl ?_)
    rfl
  have w7 := fun h => Copy_cc 13 n hb h
  have w8 : ∀ h, orC LZ 13 13 [.sl (a.map I64)] h = _ := fun h => orC_of rfl (bCopyInts_c 13 a h (v := .sl (a.map I64)) (by omega) (frz_sl (ltL_I 0 a)))
  have w9 : ∀ h v (hv : frz 0 [] h 8 v = some (.sl (a.map I64))), orC LZ 13 11 [encN n, v] h = _ := fun h v hv => orC_of rfl (KeptOf_c 7 n hb a (by omega) (by omega) h hv)
  rw [hkE, if_pos rfl, if_pos rfl] at w9
  have w10 : ∀ h, orC LZ 13 17 [encN n, .sl (a.map I64)] h = _ := fun h => orC_of rfl (SumOf_c 12 n ok a hal (cAt_ok7 haB) h (frz_sl (ltL_I 0 a)))
  have okA := nW_ok ok (cAt_ok haB)
  have kn := kp_nn okA
  have kl := kp_le okA
  have wb := wsU_bd ok (ds := a) (cAt_ok7 haB) _ (Nat.le_refl _)
  have kw := Bx.mk (fun m hm hn => kp_walk okA (w := w) (m := m) hm hn)
  have kb := Bx.mk (fun m hm => mis_bd okA (w := w) (m := m) hm)
  have KB := Bx.mk (fun okD hd okB hb => kp_both (n := n) (c := c) (a := a) (d := ownL n c) (b := botL a (ownL n c)) okA okD okB hd hb)
  have x2 := nW_net h0 (cAt_ok haB)
  have hbW : BdN (nW n a) := ⟨hb.1, by rw [nW_len]; exact hb.2, hb.3⟩
  have w11 : ∀ h, orC LZ 13 21 [encN n, .sl (a.map I64)] h = _ := fun h => orC_of rfl (rWithN_c 12 n hb ok.l1 (by omega) a hal h)
  have w12 : ∀ h, orC LZ 13 13 [.sl (w.map I64)] h = _ := fun h => orC_of rfl (bCopyInts_c 13 w h (v := .sl (w.map I64)) (by omega) (frz_sl (ltL_I 0 w)))
  have w13 : ∀ h v (hv : frz 0 [] h 8 v = some (.sl (w.map I64))), orC LZ 13 20 [encN (nW n a), v] h = _ := fun h v hv => orC_of rfl (Mis_c 7 (nW n a) hbW w (by omega) h hv)
  rw [show msF (nW n a) w = misF (nW n a).cs w by unfold msF; rw [if_pos x2]] at w13
  clear okA x2 hbW
  generalize nW n a = W at *
  generalize kpV n a = kk at *
  generalize wsU n.cs a n.cs.length = ws at *
  have hwr : IntKind.i64.wrap (ws - kk) = ws - kk := wr_sub kn kl wb.2 ok.c16
  repeat (first | apply ef_seq | (apply ef_mv; exact rfl; exact rfl) | (apply ef_bin; exact rfl; exact rfl; exact rfl; (exact cmp_f rfl (by simp only [cmpP]; omega))) | (apply ef_gy; exact rfl; (exact (rfl : false = false))) | (apply ef_pick; exact rfl; exact rfl; exact rfl) | (apply ef_len; exact rfl; exact rfl; (assumption)) | (apply ef_ldp; exact rfl; exact rfl; (exact rfl); exact rfl; (exact rfl); (first | exact rd_2 rfl rfl | exact rfl)) | (apply ef_fap; exact rfl; exact rfl) | (apply ef_notT; exact rfl; exact rfl) | (apply ef_box; exact rfl; exact rfl; exact rfl; exact rfl) | apply ef_nil | apply seqQ.normal | apply ef_skip | (apply ef_condf; exact rfl; (exact (rfl : false = false))) | (apply ef_call; exact rfl; ((repeat (apply XVs.cons; exact rfl)); exact XVs.nil); (with_reducible first | exact w0 _ | exact w1 _ | exact w2 _ | exact w3 _ | exact w4 _ | exact w5 _ | exact w6 _ | exact w7 _ | exact w8 _)))
  (apply ef_call; (· exact rfl); (· ((repeat (apply XVs.cons; exact rfl)); exact XVs.nil)); · exact w9 _ _ (frz_row (o := ⟨0, false, 1, a.map I64⟩) rfl rfl (by simp) (ltL_I 0 a) rfl))
  repeat (first | apply ef_seq | (apply ef_mv; exact rfl; exact rfl) | (apply ef_bin; exact rfl; exact rfl; exact rfl; (first | exact cmp_f rfl (by simp only [cmpP]; omega) | ((with_reducible refine bin_sub (wrap_of ?_ ?_)) <;> omega))) | (apply ef_gy; exact rfl; (exact (rfl : false = false))) | (apply ef_pick; exact rfl; exact rfl; exact rfl) | (apply ef_ldp; exact rfl; exact rfl; (exact rfl); exact rfl; (exact rfl); (exact rd_2 rfl rfl)) | (apply ef_ext; exact rfl; exact rfl; exact rfl) | apply ef_nil | apply seqQ.normal | apply ef_block | apply ef_skip | (apply ef_condf; exact rfl; (exact (rfl : false = false))) | (apply ef_call; exact rfl; ((repeat (apply XVs.cons; exact rfl)); exact XVs.nil); (with_reducible exact w10 _)))
  have hallw : (w.map I64).all (fun e => e.cells.length == 1) = true := all_len1 w
  refine ef_loopf (α := Nat × Bool) (fun p => p.1 ≤ w.length ∧ onB w p.1 = p.2) (fun p => [(11, I64 (p.1 : Int)), (10, Bo p.2)]) [(1, .sl (a.map I64)), (7, I64 kk), (5, .ptr 1 0 0 0), (3, .ptr 0 0 0 0)] (fun _ => [⟨0, false, 2, [encN n]⟩, ⟨0, false, 2, [.agg [.sl (c.map I64), .sl (w.map I64)]]⟩, ⟨0, false, 1, a.map I64⟩]) (fun p => w.length - p.1) (0, true) [11, 10] (fun _ => rfl) (by ((repeat (refine Hold.cons (by exact rfl) ?_)); exact Hold.nil)) (by ((repeat (refine Hold.cons (by exact rfl) ?_)); exact Hold.nil)) rfl rfl ⟨by simp, rfl⟩ (by simp; omega) ?_
  rintro ⟨i, t⟩ ⟨hi, ht⟩
  try simp only at hi ht ⊢
  by_cases hlt : i < w.length
  · have e1 := at_map I64 w i hlt
    have HON := Lib.hid (show onB w (i + 1) = (onB w i && !((w.take i).any (· == w[i]))) by rw [onB, List.getD_eq_getElem?_getD, List.getElem?_eq_getElem hlt]; rfl)
    have hH := fun z h => bHas_c 13 (w.take i) z (by simp; omega) h (v := .sl ((w.take i).map I64)) (frz_sl (ltL_I 0 _)) rfl
    generalize w[i] = z at e1 HON
    have hH2 : ∀ h, orC LZ 13 19 [.sl ((w.take i).map I64), I64 z] h = _ := fun h => orC_of rfl (hH z h)
    clear hH
    obtain ⟨sb, hsb⟩ : ∃ sb, (w.take i).any (· == z) = sb := ⟨_, rfl⟩
    rw [hsb] at hH2 HON
    clear hsb
    rw [ht] at HON
    clear ht
    cases t
    · repeat (first | apply ef_seq | (apply ef_mv; exact rfl; exact rfl) | (apply ef_bin; exact rfl; exact rfl; exact rfl; (first | exact cmp_t rfl (by first | exact rfl | (simp only [cmpP]; omega)) | ((with_reducible refine bin_add (wrap_of ?_ ?_)) <;> omega))) | (apply ef_gn; exact rfl; (exact (rfl : false = false)); exact rfl) | (apply ef_pick; exact rfl; exact rfl; exact rfl) | (apply ef_len; exact rfl; exact rfl; (assumption)) | (apply ef_ldp; exact rfl; exact rfl; (exact rfl); exact rfl; (exact rfl); (exact rfl)) | (apply ef_fap; exact rfl; exact rfl) | apply ef_nil | apply seqQ.normal | apply blockQ.normal | apply ef_block | apply ef_skip | (apply ef_condt; exact rfl; (exact (rfl : true = true))))
      (refine loopQ.normal _ _ ⟨(i + 1, false), ⟨hlt, by rw [HON.out]; rfl⟩, (by first | (simp only; omega) | omega), ⟨by ((repeat (refine Hold.cons (by exact rfl) ?_)); exact Hold.nil), by ((repeat (refine Hold.cons (by exact rfl) ?_)); exact Hold.nil)⟩, .inl (Nat.le_refl _), (by first | exact List.take_length | exact rfl | exact takeF rfl rfl)⟩)
    · repeat (first | apply ef_seq | (apply ef_mv; exact rfl; exact rfl) | (apply ef_bin; exact rfl; exact rfl; exact rfl; (exact cmp_t rfl (by first | exact rfl | (simp only [cmpP]; omega)))) | (apply ef_gy; exact rfl; (exact (rfl : true = true))) | (apply ef_len; exact rfl; exact rfl; (assumption)) | (apply ef_ldp; exact rfl; exact rfl; (exact rfl); exact rfl; (exact rfl); (exact rfl)) | (apply ef_fap; exact rfl; exact rfl) | apply ef_nil | apply seqQ.normal | apply ef_block | apply ef_skip | (apply ef_condt; exact rfl; (exact (rfl : true = true))))
      (apply ef_slcs; (· exact rfl); (· exact rfl); (· exact rfl); (· exact rfl); (· (simp; omega)); (· exact hallw))
      rw [take_sl]
      cases sb
      · repeat (first | (apply ef_mv; exact rfl; exact rfl) | (apply ef_bin; exact rfl; exact rfl; exact rfl; (((with_reducible refine bin_add (wrap_of ?_ ?_)) <;> omega))) | (apply ef_gy; exact rfl; (exact (rfl : true = true))) | (apply ef_pick; exact rfl; exact rfl; exact rfl) | (apply ef_ldr; exact rfl; exact rfl; (exact rfl)) | (apply ef_ldp; exact rfl; exact rfl; (exact rfl); exact rfl; (exact rfl); (exact rfl)) | (apply ef_ias; exact rfl; exact rfl; exact rfl; (omega); assumption; exact rfl) | (apply ef_fap; exact rfl; exact rfl) | (apply ef_notF; exact rfl; exact rfl) | apply ef_nil | apply seqQ.normal | apply blockQ.normal | (apply ef_call; exact rfl; ((repeat (apply XVs.cons; exact rfl)); exact XVs.nil); (with_reducible exact hH2 _)))
        (refine loopQ.normal _ _ ⟨(i + 1, true), ⟨hlt, by rw [HON.out]; rfl⟩, (by first | (simp only; omega) | omega), ⟨by ((repeat (refine Hold.cons (by exact rfl) ?_)); exact Hold.nil), by ((repeat (refine Hold.cons (by exact rfl) ?_)); exact Hold.nil)⟩, .inl (Nat.le_refl _), (by first | exact List.take_length | exact rfl | exact takeF rfl rfl)⟩)
      · repeat (first | (apply ef_mv; exact rfl; exact rfl) | (apply ef_bin; exact rfl; exact rfl; exact rfl; (((with_reducible refine bin_add (wrap_of ?_ ?_)) <;> omega))) | (apply ef_gy; exact rfl; (exact (rfl : true = true))) | (apply ef_pick; exact rfl; exact rfl; exact rfl) | (apply ef_ldr; exact rfl; exact rfl; (exact rfl)) | (apply ef_ldp; exact rfl; exact rfl; (exact rfl); exact rfl; (exact rfl); (exact rfl)) | (apply ef_ias; exact rfl; exact rfl; exact rfl; (omega); assumption; exact rfl) | (apply ef_fap; exact rfl; exact rfl) | (apply ef_notT; exact rfl; exact rfl) | apply ef_nil | apply seqQ.normal | apply blockQ.normal | (apply ef_call; exact rfl; ((repeat (apply XVs.cons; exact rfl)); exact XVs.nil); (with_reducible exact hH2 _)))
        (refine loopQ.normal _ _ ⟨(i + 1, false), ⟨hlt, by rw [HON.out]; rfl⟩, (by first | (simp only; omega) | omega), ⟨by ((repeat (refine Hold.cons (by exact rfl) ?_)); exact Hold.nil), by ((repeat (refine Hold.cons (by exact rfl) ?_)); exact Hold.nil)⟩, .inl (Nat.le_refl _), (by first | exact List.take_length | exact rfl | exact takeF rfl rfl)⟩)
  obtain rfl : i = w.length := by omega
  have hno : t = true → w.Nodup := fun h => by have := onB_nodup w _ (Nat.le_refl _) (by rw [ht]; exact h); rwa [List.take_of_length_le (Nat.le_refl _)] at this
  have hno := Bx.mk hno
  clear ht
  obtain ⟨⟨mv, me⟩, hM⟩ : ∃ p : Int × Int, misF W.cs w = p := ⟨_, rfl⟩
  rw [hM] at w13
  simp only at w13
  have KW := Bx.mk (fun (e : me = 0) => kw.out mv (by rw [hM, e]))
  have KM := Bx.mk (fun (e : me = 0) => kb.out mv (by rw [hM, e]))
  clear hM kw kb
  repeat (first | apply ef_seq | (apply ef_mv; exact rfl; exact rfl) | (apply ef_bin; exact rfl; exact rfl; exact rfl; (exact cmp_f rfl (by simp only [cmpP]; omega))) | (apply ef_len; exact rfl; exact rfl; (assumption)) | (apply ef_ldp; exact rfl; exact rfl; (exact rfl); exact rfl; (exact rfl); (first | exact rd_2 rfl rfl | exact rfl)) | (apply ef_fap; exact rfl; exact rfl) | apply ef_nil | apply seqQ.normal | apply loopQ.exit | apply ef_exit | apply seqQ.exit | apply blockQ.here | (apply ef_condf; exact rfl; (exact (rfl : false = false))) | (apply ef_call; exact rfl; ((repeat (apply XVs.cons; exact rfl)); exact XVs.nil); (with_reducible first | exact w11 _ | exact w12 _)))
  (apply ef_call; (· exact rfl); (· ((repeat (apply XVs.cons; exact rfl)); exact XVs.nil)); · exact w13 _ _ (frz_row (o := ⟨0, false, 1, w.map I64⟩) rfl rfl (by simp) (ltL_I 0 w) rfl))
  repeat (first | apply ef_seq | (apply ef_mv; exact rfl; exact rfl) | (apply ef_bin; exact rfl; exact rfl; exact rfl; (exact rfl)) | (apply ef_ext; exact rfl; exact rfl; exact rfl) | apply ef_nil | apply seqQ.normal)
  refine ef_cut [(146, Bo false), (1, .sl (a.map I64)), (7, I64 kk), (5, .ptr 1 0 0 0), (3, .ptr 0 0 0 0)] [⟨0, false, 2, [encN n]⟩, ⟨0, false, 2, [.agg [.sl (c.map I64), .sl (w.map I64)]]⟩, ⟨0, false, 1, a.map I64⟩, ⟨0, false, 1, w.map I64⟩] ?_ ?_
  · obtain ⟨zb, hzb⟩ : ∃ zb, (me == 0) = zb := ⟨_, rfl⟩
    rw [hzb]
    cases zb
    · repeat (first | (apply ef_mv; exact rfl; exact rfl) | (apply ef_gn; exact rfl; (exact (rfl : false = false)); exact rfl) | (apply ef_gu; exact rfl; exact rfl) | (apply ef_pick; exact rfl; exact rfl; exact rfl) | apply ef_nil)
      exact ⟨rfl, rfl, by ((repeat (refine Hold.cons (by exact rfl) ?_)); exact Hold.nil)⟩
    · have hme : me = 0 := by simpa using hzb
      clear hzb
      subst hme
      have kM := KM.out rfl
      have w14 : ∀ h, orC LZ 13 22 [I64 mv, I64 (-160000), I64 160000] h = _ := fun h => orC_of rfl (Within_c 13 mv (-160000) 160000 h (t := true) (inB_iff.2 (by omega)))
      have w15 : ∀ h, orC LZ 13 23 [I64 mv] h = _ := fun h => orC_of rfl (bSize_c 13 mv (by omega) (by omega) h)
      cases t
      · repeat (first | (apply ef_mv; exact rfl; exact rfl) | (apply ef_gy; exact rfl; (exact (rfl : true = true))) | (apply ef_gn; exact rfl; (exact (rfl : false = false)); exact rfl) | (apply ef_gu; exact rfl; exact rfl) | (apply ef_pick; exact rfl; exact rfl; exact rfl) | apply ef_nil)
        exact ⟨rfl, rfl, by ((repeat (refine Hold.cons (by exact rfl) ?_)); exact Hold.nil)⟩
      · have kW := KW.out rfl (hno.out rfl)
        generalize absI mv = am at *
        repeat (first | (apply ef_mv; exact rfl; exact rfl) | (apply ef_bin; exact rfl; exact rfl; exact rfl; (exact cmp_f rfl (by simp only [cmpP]; omega))) | (apply ef_gy; exact rfl; (first | exact (rfl : true = true) | exact (rfl : false = false))) | (apply ef_pick; exact rfl; exact rfl; exact rfl) | (apply ef_notT; exact rfl; exact rfl) | apply ef_nil | (apply ef_call; exact rfl; ((repeat (apply XVs.cons; exact rfl)); exact XVs.nil); (with_reducible first | exact w14 _ | exact w15 _)))
        exact ⟨rfl, rfl, by ((repeat (refine Hold.cons (by exact rfl) ?_)); exact Hold.nil)⟩
  repeat (first | apply ef_seq | (apply ef_mv; exact rfl; exact rfl) | (apply ef_nil0; exact rfl) | apply ef_nil | apply seqQ.normal | apply ef_block | apply ef_skip | (apply ef_condf; exact rfl; (exact (rfl : false = false))))
  have hol : (ownL n c).length = n.cs.length := by simp [ownL]
  have hbl : (botL a (ownL n c)).length = n.cs.length := by simp [botL, hol, hal]
  refine ef_loopf (α := Nat) (fun i => i ≤ n.cs.length) (fun i => [(16, I64 (i : Int)), (14, .arr 4 0 i i), (15, .arr 5 0 i i)]) [(1, .sl (a.map I64)), (7, I64 kk), (5, .ptr 1 0 0 0), (3, .ptr 0 0 0 0)] (fun i => [⟨0, false, 2, [encN n]⟩, ⟨0, false, 2, [.agg [.sl (c.map I64), .sl (w.map I64)]]⟩, ⟨0, false, 1, a.map I64⟩, ⟨0, false, 1, w.map I64⟩, rowO (ownL n c) i, rowO (botL a (ownL n c)) i]) (fun i => n.cs.length - i) 0 [16, 14, 15] (fun _ => rfl) (by ((repeat (refine Hold.cons (by exact rfl) ?_)); exact Hold.nil)) (by ((repeat (refine Hold.cons (by exact rfl) ?_)); exact Hold.nil)) rfl rfl (by omega) (by simp; omega) ?_
  intro i hi
  try simp only at hi ⊢
  by_cases hlt : i < n.cs.length
  · have e1 := at_map encCr n.cs i hlt
    have e2 := at_map I64 a i (by omega)
    have hxx := ok.rg n.cs[i] (List.getElem_mem hlt)
    have HT := row_next (xs := ownL n c) (i := i) (z := cAt c n.cs[i].ln - cAt c n.cs[i].ti) (by simp [ownL, hlt])
    have HT2 := row_next (xs := botL a (ownL n c)) (i := i) (z := a[i]'(by omega) + (cAt c n.cs[i].ln - cAt c n.cs[i].ti)) (by rw [botL_get (by omega) (by omega)]; simp [ownL])
    have had : -10000 ≤ a[i] ∧ a[i] ≤ 10000 := by
      have := cAt_ok haB i
      unfold cAt at this
      rwa [List.getD_eq_getElem?_getD, Int.toNat_natCast, List.getElem?_eq_getElem (by omega)] at this
    generalize n.cs[i] = x at e1 hxx HT HT2
    generalize a[i] = ai at e2 HT2 had
    have f1 := cAt_at hcc.len hxx.l0 hxx.l1
    have f2 := cAt_at hcc.len hxx.t0 hxx.t1
    have g1 := hcc.at x.ln
    have g2 := hcc.at x.ti
    have g4 := hxx.l0
    have g5 := hxx.t0
    have g6 := hxx.l1
    have g7 := hxx.t1
    generalize cAt c x.ln = u at *
    generalize cAt c x.ti = v at *
    repeat (first | apply ef_seq | (apply ef_mv; exact rfl; exact rfl) | (apply ef_bin; exact rfl; exact rfl; exact rfl; (first | exact cmp_t rfl (by first | exact rfl | (simp only [cmpP]; omega)) | ((with_reducible refine bin_sub (wrap_of ?_ ?_)) <;> omega))) | (apply ef_len; exact rfl; exact rfl; (assumption)) | (apply ef_ldr; exact rfl; exact rfl; (first | exact rd_6 rfl rfl rfl rfl rfl rfl | exact rfl)) | (apply ef_ldp; exact rfl; exact rfl; (exact rfl); exact rfl; (exact rfl); (exact rfl)) | (apply ef_ias; exact rfl; exact rfl; exact rfl; (omega); assumption; exact rfl) | (apply ef_fap; exact rfl; exact rfl) | (apply ef_new; exact rfl) | (apply ef_vsl; exact rfl; (repeat (apply XVs.cons; exact rfl)); exact XVs.nil; exact rfl; exact rfl) | (apply ef_st; exact rfl; exact rfl; exact rfl; exact rfl; exact rfl; exact rfl; (exact rfl); exact rfl) | apply ef_nil | apply seqQ.normal | apply ef_block | apply ef_skip | (apply ef_condt; exact rfl; (exact (rfl : true = true))))
    (apply ef_app; (· exact rfl); (· exact rfl); (· exact rfl); (· exact rfl); (· exact rfl); (· exact rfl); (· (simp [rowL_len (xs := ownL n c) (i := i) (by omega)])); (· exact rfl); (· (simp [rowL_len (xs := ownL n c) (i := i) (by omega)]; omega)); (· (simp [MV.sOk, MV.cells, MV.one, Value.oneCell'])); (· exact rfl))
    repeat (first | (apply ef_mv; exact rfl; exact rfl) | (apply ef_bin; exact rfl; exact rfl; exact rfl; (((with_reducible refine bin_add (wrap_of ?_ ?_)) <;> omega))) | (apply ef_ldr; exact rfl; exact rfl; (exact rfl)) | (apply ef_ias; exact rfl; exact rfl; exact rfl; (omega); assumption; exact rfl) | (apply ef_vsl; exact rfl; (repeat (apply XVs.cons; exact rfl)); exact XVs.nil; exact rfl; exact rfl))
    (apply ef_app; (· exact rfl); (· exact rfl); (· exact rfl); (· exact rfl); (· exact rfl); (· exact rfl); (· (simp [rowL_len (xs := botL a (ownL n c)) (i := i) (by omega)])); (· exact rfl); (· (simp [rowL_len (xs := botL a (ownL n c)) (i := i) (by omega)]; omega)); (· (simp [MV.sOk, MV.cells, MV.one, Value.oneCell'])); (· exact rfl))
    repeat (first | (apply ef_mv; exact rfl; exact rfl) | (apply ef_bin; exact rfl; exact rfl; exact rfl; (((with_reducible refine bin_add (wrap_of ?_ ?_)) <;> omega))) | (apply ef_ne; exact rfl; exact rfl; (exact rfl)) | apply ef_nil | apply seqQ.normal | apply blockQ.normal)
    (refine loopQ.normal _ _ ⟨i + 1, hlt, (by first | (simp only; omega) | omega), ⟨by ((repeat (refine Hold.cons (by exact rfl) ?_)); exact Hold.nil), by ((repeat (refine Hold.cons (by exact rfl) ?_)); exact Hold.nil)⟩, .inr ⟨by ((repeat (refine hdl_cons rfl (by first | rfl | (simp [MV.lt, ltL, ltL_Ln, ltL_Cr, ltL_I, ltL_row, ltL_app2])) ?_)); exact hdl_nil), by (simp [hltL, ltL, MV.lt, ltL, ltL_Ln, ltL_Cr, ltL_I, ltL_row, ltL_app2])⟩, by (show _ = ([⟨0, false, 2, [encN n]⟩, ⟨0, false, 2, [.agg [.sl (c.map I64), .sl (w.map I64)]]⟩, ⟨0, false, 1, a.map I64⟩, ⟨0, false, 1, w.map I64⟩, (⟨i + 1, decide (i + 1 = 0), 1, rowL (ownL n c) (i + 1)⟩ : MObj), (⟨i + 1, decide (i + 1 = 0), 1, rowL (botL a (ownL n c)) (i + 1)⟩ : MObj)] : MHeap); rw [HT, HT2]; exact rfl)⟩)
  · obtain rfl : i = n.cs.length := by omega
    have hr1 : rowO (ownL n c) n.cs.length = ⟨n.cs.length, decide (n.cs.length = 0), 1, (ownL n c).map I64⟩ := by
      have := row_all (ownL n c); rw [hol] at this; rw [← this]
    have hr2 : rowO (botL a (ownL n c)) n.cs.length = ⟨n.cs.length, decide (n.cs.length = 0), 1, (botL a (ownL n c)).map I64⟩ := by
      have := row_all (botL a (ownL n c)); rw [hbl] at this; rw [← this]
    rw [hr1, hr2]
    have KO := Bx.mk (fun okD => kp_own (n := n) (c := c) (d := ownL n c) okD (own_d n c))
    have KB2 := Bx.mk (fun okD okB => KB.out okD (own_d n c) okB (bot_d (n := n) (by omega) hal))
    clear KB hr1 hr2
    generalize botL a (ownL n c) = bo at *
    generalize ownL n c = ow at *
    have y1 : ∀ h v (hv : frz 0 [] h 8 v = some (.sl (ow.map I64))), orC LZ 13 15 [encN n, v] h = _ := fun h v hv => orC_of rfl (anErr_c 11 n ow (by omega) (by omega) h hv)
    have y2 : ∀ h v (hv : frz 0 [] h 8 v = some (.sl (bo.map I64))), orC LZ 13 15 [encN n, v] h = _ := fun h v hv => orC_of rfl (anErr_c 11 n bo (by omega) (by omega) h hv)
    by_cases e1 : anE n.cs.length ow = 0
    rotate_left
    · generalize anE n.cs.length ow = e at *
      repeat (first | apply ef_seq | (apply ef_mv; exact rfl; exact rfl) | (apply ef_bin; exact rfl; exact rfl; exact rfl; (exact cmp_f rfl (by simp only [cmpP]; omega))) | (apply ef_len; exact rfl; exact rfl; (assumption)) | (apply ef_ldp; exact rfl; exact rfl; (exact rfl); exact rfl; (exact rfl); (first | exact rd_2 rfl rfl | exact rfl)) | (apply ef_fap; exact rfl; exact rfl) | apply ef_nil | apply seqQ.normal | apply loopQ.exit | apply ef_exit | apply seqQ.exit | apply blockQ.here | (apply ef_condf; exact rfl; (exact (rfl : false = false))))
      (apply ef_call; (· exact rfl); (· ((repeat (apply XVs.cons; exact rfl)); exact XVs.nil)); · exact y1 _ _ (frz_row (o := ⟨n.cs.length, decide (n.cs.length = 0), 1, ow.map I64⟩) rfl rfl (by simp [hol]) (ltL_I 0 ow) rfl))
      repeat (first | apply ef_seq | (apply ef_mv; exact rfl; exact rfl) | (apply ef_bin; exact rfl; exact rfl; exact rfl; (exact cmp_t rfl (by first | exact rfl | (simp only [cmpP]; omega)))) | (apply ef_gn; exact rfl; (exact (rfl : true = true)); exact rfl) | (apply ef_pick; exact rfl; exact rfl; exact rfl) | apply ef_nil | apply seqQ.normal | apply ef_ret | apply seqQ.ret | (apply ef_condt; exact rfl; (exact (rfl : true = true))))
      (refine fin1 rfl (by exact rfl) rfl ?_)
      rfl
    have kE1 : kpE n ow = 0 := by rw [kpE_is, if_pos h0, e1]
    rw [e1] at y1
    obtain ⟨-, oB⟩ := anE_ok e1
    by_cases e2 : anE n.cs.length bo = 0
    rotate_left
    · generalize anE n.cs.length bo = e at *
      repeat (first | apply ef_seq | (apply ef_mv; exact rfl; exact rfl) | (apply ef_bin; exact rfl; exact rfl; exact rfl; (exact cmp_f rfl (by simp only [cmpP]; omega))) | (apply ef_len; exact rfl; exact rfl; (assumption)) | (apply ef_ldp; exact rfl; exact rfl; (exact rfl); exact rfl; (exact rfl); (first | exact rd_2 rfl rfl | exact rfl)) | (apply ef_fap; exact rfl; exact rfl) | apply ef_nil | apply seqQ.normal | apply loopQ.exit | apply ef_exit | apply seqQ.exit | apply blockQ.here | (apply ef_condf; exact rfl; (exact (rfl : false = false))))
      (apply ef_call; (· exact rfl); (· ((repeat (apply XVs.cons; exact rfl)); exact XVs.nil)); · exact y1 _ _ (frz_row (o := ⟨n.cs.length, decide (n.cs.length = 0), 1, ow.map I64⟩) rfl rfl (by simp [hol]) (ltL_I 0 ow) rfl))
      repeat (first | (apply ef_mv; exact rfl; exact rfl) | (apply ef_bin; exact rfl; exact rfl; exact rfl; (exact cmp_f rfl (by simp only [cmpP]; omega))) | (apply ef_gy; exact rfl; (exact (rfl : false = false))) | (apply ef_ldp; exact rfl; exact rfl; (exact rfl); exact rfl; (exact rfl); (exact rd_2 rfl rfl)))
      (apply ef_call; (· exact rfl); (· ((repeat (apply XVs.cons; exact rfl)); exact XVs.nil)); · exact y2 _ _ (frz_row (o := ⟨n.cs.length, decide (n.cs.length = 0), 1, bo.map I64⟩) rfl rfl (by simp [hbl]) (ltL_I 0 bo) rfl))
      repeat (first | apply ef_seq | (apply ef_mv; exact rfl; exact rfl) | (apply ef_bin; exact rfl; exact rfl; exact rfl; (exact cmp_t rfl (by first | exact rfl | (simp only [cmpP]; omega)))) | (apply ef_gy; exact rfl; (exact (rfl : false = false))) | (apply ef_pick; exact rfl; exact rfl; exact rfl) | apply ef_nil | apply seqQ.normal | apply ef_ret | apply seqQ.ret | (apply ef_condt; exact rfl; (exact (rfl : true = true))))
      (refine fin1 rfl (by exact rfl) rfl ?_)
      rfl
    have kE2 : kpE n bo = 0 := by rw [kpE_is, if_pos h0, e2]
    rw [e2] at y2
    obtain ⟨-, bB⟩ := anE_ok e2
    have okD := nW_ok ok (cAt_ok oB)
    have okB := nW_ok ok (cAt_ok bB)
    have y3 : ∀ h v (hv : frz 0 [] h 8 v = some (.sl (ow.map I64))), orC LZ 13 13 [v] h = _ := fun h v hv => orC_of rfl (bCopyInts_c 13 ow h (v := v) (by omega) hv)
    have y4 : ∀ h v (hv : frz 0 [] h 8 v = some (.sl (bo.map I64))), orC LZ 13 13 [v] h = _ := fun h v hv => orC_of rfl (bCopyInts_c 13 bo h (v := v) (by omega) hv)
    have y5 : ∀ h v (hv : frz 0 [] h 8 v = some (.sl (ow.map I64))), orC LZ 13 11 [encN n, v] h = _ := fun h v hv => orC_of rfl (KeptOf_c 7 n hb ow (by omega) (by omega) h hv)
    have y6 : ∀ h v (hv : frz 0 [] h 8 v = some (.sl (bo.map I64))), orC LZ 13 11 [encN n, v] h = _ := fun h v hv => orC_of rfl (KeptOf_c 7 n hb bo (by omega) (by omega) h hv)
    have y7 : ∀ h v (hv : frz 0 [] h 8 v = some (.sl (ow.map I64))), orC LZ 13 17 [encN n, v] h = _ := fun h v hv => orC_of rfl (SumOf_c 12 n ok ow hol (cAt_ok7 oB) h hv)
    rw [kE1, if_pos rfl, if_pos rfl, KO.out okD, Int.sub_zero] at y5
    rw [kE2, if_pos rfl, if_pos rfl, KB2.out okD okB] at y6
    clear KO KB2 okD okB
    generalize wsU n.cs ow n.cs.length = w1s at *
    generalize wsU n.cs bo n.cs.length = w2s at *
    repeat (first | apply ef_seq | (apply ef_mv; exact rfl; exact rfl) | (apply ef_bin; exact rfl; exact rfl; exact rfl; (exact cmp_f rfl (by simp only [cmpP]; omega))) | (apply ef_len; exact rfl; exact rfl; (assumption)) | (apply ef_ldp; exact rfl; exact rfl; (exact rfl); exact rfl; (exact rfl); (first | exact rd_2 rfl rfl | exact rfl)) | (apply ef_fap; exact rfl; exact rfl) | apply ef_nil | apply seqQ.normal | apply loopQ.exit | apply ef_exit | apply seqQ.exit | apply blockQ.here | (apply ef_condf; exact rfl; (exact (rfl : false = false))))
    (apply ef_call; (· exact rfl); (· ((repeat (apply XVs.cons; exact rfl)); exact XVs.nil)); · exact y1 _ _ (frz_row (o := ⟨n.cs.length, decide (n.cs.length = 0), 1, ow.map I64⟩) rfl rfl (by simp [hol]) (ltL_I 0 ow) rfl))
    repeat (first | (apply ef_mv; exact rfl; exact rfl) | (apply ef_bin; exact rfl; exact rfl; exact rfl; (exact cmp_f rfl (by simp only [cmpP]; omega))) | (apply ef_gy; exact rfl; (exact (rfl : false = false))) | (apply ef_ldp; exact rfl; exact rfl; (exact rfl); exact rfl; (exact rfl); (exact rd_2 rfl rfl)))
    (apply ef_call; (· exact rfl); (· ((repeat (apply XVs.cons; exact rfl)); exact XVs.nil)); · exact y2 _ _ (frz_row (o := ⟨n.cs.length, decide (n.cs.length = 0), 1, bo.map I64⟩) rfl rfl (by simp [hbl]) (ltL_I 0 bo) rfl))
    repeat (first | apply ef_seq | (apply ef_mv; exact rfl; exact rfl) | (apply ef_bin; exact rfl; exact rfl; exact rfl; (exact cmp_f rfl (by simp only [cmpP]; omega))) | (apply ef_gy; exact rfl; (exact (rfl : false = false))) | (apply ef_pick; exact rfl; exact rfl; exact rfl) | (apply ef_ldp; exact rfl; exact rfl; (exact rfl); exact rfl; (exact rfl); (exact rd_2 rfl rfl)) | apply ef_nil | apply seqQ.normal | apply ef_skip | (apply ef_condf; exact rfl; (exact (rfl : false = false))) | (apply ef_call; exact rfl; ((repeat (apply XVs.cons; exact rfl)); exact XVs.nil); (with_reducible exact w7 _)))
    (apply ef_call; (· exact rfl); (· ((repeat (apply XVs.cons; exact rfl)); exact XVs.nil)); · exact y3 _ _ (frz_row (o := ⟨n.cs.length, decide (n.cs.length = 0), 1, ow.map I64⟩) rfl rfl (by simp [hol]) (ltL_I 0 ow) rfl))
    (apply ef_call; (· exact rfl); (· ((repeat (apply XVs.cons; exact rfl)); exact XVs.nil)); · exact y5 _ _ (frz_row (o := ⟨0, false, 1, ow.map I64⟩) rfl rfl (by simp) (ltL_I 0 ow) rfl))
    repeat (first | apply ef_seq | (apply ef_mv; exact rfl; exact rfl) | (apply ef_ldp; exact rfl; exact rfl; (exact rfl); exact rfl; (exact rfl); (exact rd_2 rfl rfl)) | (apply ef_ext; exact rfl; exact rfl; exact rfl) | apply ef_nil | apply seqQ.normal | (apply ef_call; exact rfl; ((repeat (apply XVs.cons; exact rfl)); exact XVs.nil); (with_reducible exact w7 _)))
    (apply ef_call; (· exact rfl); (· ((repeat (apply XVs.cons; exact rfl)); exact XVs.nil)); · exact y4 _ _ (frz_row (o := ⟨n.cs.length, decide (n.cs.length = 0), 1, bo.map I64⟩) rfl rfl (by simp [hbl]) (ltL_I 0 bo) rfl))
    (apply ef_call; (· exact rfl); (· ((repeat (apply XVs.cons; exact rfl)); exact XVs.nil)); · exact y6 _ _ (frz_row (o := ⟨0, false, 1, bo.map I64⟩) rfl rfl (by simp) (ltL_I 0 bo) rfl))
    repeat (first | apply ef_seq | (apply ef_mv; exact rfl; exact rfl) | (apply ef_bin; exact rfl; exact rfl; exact rfl; (exact cmp_t rfl (by first | exact rfl | (simp only [cmpP]; omega)))) | (apply ef_gy; exact rfl; (exact (rfl : true = true))) | (apply ef_pick; exact rfl; exact rfl; exact rfl) | (apply ef_ldp; exact rfl; exact rfl; (exact rfl); exact rfl; (exact rfl); (exact rd_2 rfl rfl)) | (apply ef_ext; exact rfl; exact rfl; exact rfl) | apply ef_nil | apply seqQ.normal)
    (apply ef_call; (· exact rfl); (· ((repeat (apply XVs.cons; exact rfl)); exact XVs.nil)); · exact y7 _ _ (frz_row (o := ⟨n.cs.length, decide (n.cs.length = 0), 1, ow.map I64⟩) rfl rfl (by simp [hol]) (ltL_I 0 ow) rfl))
    repeat (first | (apply ef_mv; exact rfl; exact rfl) | (apply ef_bin; exact rfl; exact rfl; exact rfl; (exact cmp_t rfl (by first | exact rfl | (simp only [cmpP]; omega)))) | (apply ef_gy; exact rfl; (exact (rfl : true = true))) | (apply ef_pick; exact rfl; exact rfl; exact rfl) | apply ef_nil | apply seqQ.normal | apply ef_ret)
    (refine fin1 rfl (by exact rfl) rfl ?_)
    rfl
end Go.Proofs.Ytbdleggmdbihnaa
