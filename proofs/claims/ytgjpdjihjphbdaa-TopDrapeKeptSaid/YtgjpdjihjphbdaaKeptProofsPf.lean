/- Open values of tasks. -/
import Derived.Test.YtgjpdjihjphbdaaKeptProofsPe
/- The contract of the reference's steps: the walk. -/
namespace Go.Proofs.Ytgjpdjihjphbdaa
open Go.RowKit
set_option linter.unusedVariables false
set_option maxHeartbeats 4000000 in
theorem rSteps_z (k : Nat) {t : Tk} (ok : OkT t) (hb : Bd t) {sy sx : Nat} (hs : t.inP (sy, sx)) {ff : Nd → Option Nat} (hD : Dst t (sy, sx) ff) : runZ MT (orA (k + 2)) (itA (k + 2)) 4000000 50 [encT t, posM (sy, sx)] [] = some (.arr 0 0 t.ter.length 0, [⟨0, false, 1, (stG t ff).map encW⟩]) := by
  obtain ⟨h1, h2⟩ := ok.h1
  obtain ⟨w1, w2⟩ := ok.w1
  have hs1 : (MV.sl (t.ter.map encW)).slen = some t.ter.length := by simp [MV.slen]
  have e0 := Tk.head h1
  have hsw := Tk.headW t
  refine runZ_of mf_rSteps (by simp) ?_
  simp only [argsL]
  repeat (first | apply ef_seq | (apply ef_mv; exact rfl; exact rfl) | (apply ef_box; exact rfl; exact rfl; exact rfl; exact rfl) | (apply ef_nil0; exact rfl) | apply ef_nil | apply seqQ.normal | apply ef_block)
  refine ef_loopg (α := Nat) (fun y => y ≤ t.ter.length) (fun y => [(6, I64 (y : Int)), (5, .arr 3 0 y y)]) [(2, .ptr 0 0 0 0), (3, .ptr 1 0 0 0)] (fun y => rsH t (sy, sx) y) (fun y => t.ter.length - y) 0 [6, 5] (fun _ => rfl) (by ((repeat (refine Hold.cons (by exact rfl) ?_)); exact Hold.nil)) (by ((repeat (refine Hold.cons (by exact rfl) ?_)); exact Hold.nil)) rfl rfl rfl (by simp) (by simp; omega) ?_
  intro y hy
  try simp only at hy ⊢
  by_cases hlt : y < t.ter.length
  · have b0 : (rsH t (sy, sx) y)[0]? = some ⟨0, false, 5, [encT t]⟩ := rfl
    have b2 : (rsH t (sy, sx) y)[3]? = some ⟨y, nlN y, 1, rsRefs t.W y⟩ := rfl
    have hlen := rsH_len t (sy, sx) y
    have HS := Lib.hid (rsH_succ t (sy, sx) y)
    generalize t.ter.getD 0 [] = r0 at e0 hsw
    generalize rsH t (sy, sx) y = H0 at b0 b2 hlen HS ⊢
    repeat (first | apply ef_seq | (apply ef_mv; exact rfl; exact rfl) | (apply ef_bin; exact rfl; exact rfl; exact rfl; (exact cmp_t rfl (by first | exact rfl | (simp only [cmpP]; omega)))) | (apply ef_len; exact rfl; exact rfl; (assumption)) | (apply ef_ldr; exact rfl; exact rfl; (exact rfl)) | (apply ef_ldp; exact rfl; exact rfl; (assumption); exact rfl; (exact rfl); (exact rfl)) | (apply ef_ias; exact rfl; exact rfl; exact rfl; (omega); assumption; exact rfl) | (apply ef_fap; exact rfl; exact rfl) | (apply ef_mks; exact rfl; exact rfl; (omega); (omega)) | apply ef_nil | apply seqQ.normal | apply ef_block | apply ef_skip | (apply ef_condt; exact rfl; (exact (rfl : true = true))))
    refine ef_loopg (α := Nat) (fun x => x ≤ t.W) (fun x => [(8, I64 (x : Int))]) [(7, .arr H0.length 0 t.W 0), (2, .ptr 0 0 0 0), (6, I64 (y : Int)), (5, .arr 3 0 y y), (3, .ptr 1 0 0 0)] (fun x => H0 ++ [⟨0, false, 1, negP t.W x⟩]) (fun x => t.W - x) 0 [8] (fun _ => rfl) (by ((repeat (refine Hold.cons (by exact rfl) ?_)); exact Hold.nil)) (by ((repeat (refine Hold.cons (by exact rfl) ?_)); exact Hold.nil)) rfl rfl (by rw [negP_zero, ← Int.toNat_natCast t.W]; rfl) (by simp) (by simp; omega) ?_
    intro x hx
    try simp only at hx ⊢
    by_cases hlt2 : x < t.W
    · have f0 := at_app b0 [(⟨0, false, 1, negP t.W x⟩ : MObj)]
      have fr : (H0 ++ [(⟨0, false, 1, negP t.W x⟩ : MObj)])[H0.length]? = some ⟨0, false, 1, negP t.W x⟩ := at_end _ _
      have hok : MHeap.ok (H0 ++ [(⟨0, false, 1, negP t.W x⟩ : MObj)]) H0.length 0 1 = true := ok_of fr rfl rfl
      have hcell : (negP t.W x)[0 + ((x : Nat) : Int).toNat]? = some (I64 0) := by rw [Nat.zero_add, Int.toNat_natCast, negP_at hlt2, if_neg (by omega)]
      repeat (first | apply ef_seq | (apply ef_mv; exact rfl; exact rfl) | (apply ef_bin; exact rfl; exact rfl; exact rfl; (exact cmp_t rfl (by first | exact rfl | (simp only [cmpP]; omega)))) | (apply ef_len; exact rfl; exact rfl; (exact rfl)) | (apply ef_iaa; exact rfl; exact rfl; exact rfl; (omega); (omega); (assumption)) | apply ef_nil | apply seqQ.normal | apply ef_block | apply ef_skip | (apply ef_condt; exact rfl; (exact (rfl : true = true))))
      refine ef_st (o := ⟨0, false, 1, negP t.W x⟩) (v := I64 (-1)) (by exact rfl) rfl (by exact rfl) fr rfl rfl hcell rfl ?_
      rw [set_end, Nat.zero_add, Int.toNat_natCast]
      show Ef _ _ _ _ _ _ _ (H0 ++ [⟨0, false, 1, (negP t.W x).set x (I64 (-1))⟩]) _
      rw [negP_set]
      repeat (first | (apply ef_mv; exact rfl; exact rfl) | (apply ef_bin; exact rfl; exact rfl; exact rfl; (((with_reducible refine bin_add (wrap_of ?_ ?_)) <;> omega))) | apply ef_nil | apply seqQ.normal | apply blockQ.normal)
      refine loopQ.normal _ _ ⟨x + 1, hlt2, by omega, ⟨by ((repeat (refine Hold.cons (by exact rfl) ?_)); exact Hold.nil), by ((repeat (refine Hold.cons (by exact rfl) ?_)); exact Hold.nil)⟩, .all (by simp)⟩
    · obtain rfl : x = t.W := by omega
      rw [negP_full]
      have f2 := at_app b2 [(⟨0, false, 1, List.replicate t.W (I64 (-1))⟩ : MObj)]
      repeat (first | apply ef_seq | (apply ef_mv; exact rfl; exact rfl) | (apply ef_bin; exact rfl; exact rfl; exact rfl; (exact cmp_f rfl (by simp only [cmpP]; omega))) | (apply ef_len; exact rfl; exact rfl; (exact rfl)) | (apply ef_bsl; exact rfl; (repeat (apply XVs.cons; exact rfl)); exact XVs.nil; exact rfl) | apply ef_nil | apply seqQ.normal | apply loopQ.exit | apply ef_exit | apply seqQ.exit | apply blockQ.here | (apply ef_condf; exact rfl; (exact (rfl : false = false))))
      refine ef_app (ht := by exact rfl) (o := ⟨y, nlN y, 1, rsRefs t.W y⟩) (v := .arr (H0 ++ [(⟨0, false, 1, List.replicate t.W (I64 (-1))⟩ : MObj)]).length 0 1 0) (e := .arr H0.length 0 t.W 0) (xs := []) (by exact rfl) (by exact rfl) (elems_end rfl rfl rfl rfl) (at_app f2 _) rfl (by simp [rsRefs]) rfl (by simp [rsRefs]; omega) rfl rfl ?_
      show Ef _ _ _ _ _ _ _ (List.set ((H0 ++ [(⟨0, false, 1, List.replicate t.W (I64 (-1))⟩ : MObj)]) ++ [(⟨0, false, 1, [.arr H0.length 0 t.W 0]⟩ : MObj)]) 3 (⟨y + 1, false, 1, (rsRefs t.W y).drop 0 ++ [.arr H0.length 0 t.W 0]⟩ : MObj)) _
      rw [hlen, HS.out]
      repeat (first | (apply ef_mv; exact rfl; exact rfl) | (apply ef_bin; exact rfl; exact rfl; exact rfl; (((with_reducible refine bin_add (wrap_of ?_ ?_)) <;> omega))) | apply ef_nil | apply seqQ.normal | apply blockQ.normal)
      refine loopQ.normal _ _ ⟨y + 1, hlt, by omega, ⟨by ((repeat (refine Hold.cons (by exact rfl) ?_)); exact Hold.nil), by ((repeat (refine Hold.cons (by exact rfl) ?_)); exact Hold.nil)⟩, .cell (hltL_no (m := 4) (j := 3) (o := ⟨y + 1, nlN (y + 1), 1, rsRefs t.W (y + 1)⟩) (by decide) rfl rsRefs_lt)⟩
  · obtain rfl : y = t.ter.length := by omega
    have hm0 := rsM0 ok (sy, sx)
    clear e0 hsw
    have b0 := hm0.b0
    have b1 : (rsH t (sy, sx) t.ter.length)[1]? = some ⟨0, false, 2, [posM (sy, sx)]⟩ := rfl
    have hL := rsH_len t (sy, sx) t.ter.length
    generalize rsH t (sy, sx) t.ter.length = hh0 at hm0 b0 b1 hL ⊢
    obtain ⟨refs, r1, r2, r3, r4, r5, r6⟩ := hm0.sf.rd hs.1 hs.2.1
    try simp only at r3 r4 r5 r6
    have hs0 : sy < t.ter.length := hs.1
    have hs2 := hs.2.1
    simp only at hs2
    repeat (first | apply ef_seq | (apply ef_mv; exact rfl; exact rfl) | (apply ef_bin; exact rfl; exact rfl; exact rfl; (exact cmp_f rfl (by simp only [cmpP]; omega))) | (apply ef_len; exact rfl; exact rfl; (assumption)) | (apply ef_ldp; exact rfl; exact rfl; (assumption); exact rfl; (first | exact rfl | assumption); (exact rfl)) | (apply ef_iaa; exact rfl; exact rfl; exact rfl; (omega); (omega); (assumption)) | (apply ef_fap; exact rfl; exact rfl) | apply ef_nil | apply seqQ.normal | apply loopQ.exit | apply ef_exit | apply seqQ.exit | apply blockQ.here | (apply ef_condf; exact rfl; (exact (rfl : false = false))))
    refine ef_st (o := ⟨0, false, 1, ((stG t fun _ => none).getD sy []).map I64⟩) (v := I64 0) (by exact rfl) rfl (by exact rfl) r4 rfl rfl r6 rfl ?_
    have m1 := hm0.put (x := sx) (k := 0) hs0
    show Ef _ _ _ _ _ _ _ (hh0.set (4 + 2 * sy) ⟨0, false, 1, (((stG t fun _ => none).getD sy []).map I64).set (0 + ((sx : Nat) : Int).toNat) (I64 ((0 : Nat) : Int))⟩) _
    rw [show 0 + ((sx : Nat) : Int).toNat = sx by simp]
    have f1 : (hh0.set (4 + 2 * sy) (⟨0, false, 1, (((stG t fun _ => none).getD sy []).map I64).set sx (I64 ((0 : Nat) : Int))⟩ : MObj))[1]? = some ⟨0, false, 2, [posM (sy, sx)]⟩ := by rw [List.getElem?_set_ne (by omega)]; exact b1
    have hL1 : (hh0.set (4 + 2 * sy) (⟨0, false, 1, (((stG t fun _ => none).getD sy []).map I64).set sx (I64 ((0 : Nat) : Int))⟩ : MObj)).length = 4 + 2 * t.ter.length := by rw [List.length_set]; exact hL
    clear r1 r2 r3 r4 r5 r6 b0 b1 hm0 hL
    generalize (hh0.set (4 + 2 * sy) (⟨0, false, 1, (((stG t fun _ => none).getD sy []).map I64).set sx (I64 ((0 : Nat) : Int))⟩ : MObj)) = h1' at m1 f1 hL1 ⊢
    have hu0 := Tk.unf_le ok (fun _ => none)
    have hu1 := Tk.unf_set (t := t) (f := fun _ => none) (k := 0) hs rfl
    repeat (first | apply ef_seq | (apply ef_mv; exact rfl; exact rfl) | (apply ef_ldp; exact rfl; exact rfl; (assumption); exact rfl; (exact rfl); (exact rd_2 rfl rfl)) | (apply ef_bsl; exact rfl; (repeat (apply XVs.cons; exact rfl)); exact XVs.nil; exact rfl) | apply ef_nil | apply seqQ.normal | apply ef_block)
    show Ef _ _ _ _ _ _ _ (h1' ++ [⟨0, false, 2, [posM (sy, sx)]⟩]) _
    have m2 := m1.app1 ⟨0, false, 2, [posM (sy, sx)]⟩ rfl
    refine ef_loopg (α := (Nd → Option Nat) × List Nd × Nat × Nat × Nat × MHeap) (fun a => LyI t (sy, sx) a.1 a.2.1 a.2.2.1 ∧ RsM t a.1 a.2.2.2.2.2 ∧ (∃ nl, a.2.2.2.2.2[a.2.2.2.1]? = some ⟨a.2.2.2.2.1, nl, 2, a.2.1.map posM⟩) ∧ 4 + 2 * t.ter.length ≤ a.2.2.2.1 ∧ 5 + 2 * t.ter.length ≤ a.2.2.2.2.2.length ∧ (∀ p k, a.1 p = some k → k + t.unf a.1 ≤ 144) ∧ a.2.1.length ≤ 144)
      (fun a => [(9, .arr a.2.2.2.1 0 a.2.1.length a.2.2.2.2.1)]) [(2, .ptr 0 0 0 0), (5, .arr 3 0 t.ter.length t.ter.length)] (fun a => a.2.2.2.2.2) (fun a => t.unf a.1 + if a.2.1 = [] then 0 else 1)
      (fSet (fun _ => none) (sy, sx) 0, [(sy, sx)], 0, h1'.length, 0, h1' ++ [⟨0, false, 2, [posM (sy, sx)]⟩]) [9] (fun _ => rfl) (by ((repeat (refine Hold.cons (by exact rfl) ?_)); exact Hold.nil)) (by ((repeat (refine Hold.cons (by exact rfl) ?_)); exact Hold.nil)) rfl rfl rfl
      ⟨LyI.start hs, m2, ⟨false, at_end _ _⟩, by simp only; omega, by simp only [List.length_append, List.length_cons, List.length_nil]; omega, fun p k hp => ?_, by simp⟩ (by show t.unf (fSet (fun _ => none) (sy, sx) 0) + (if [(sy, sx)] = [] then 0 else 1) < 4000000; split <;> omega) ?_
    · simp only [fSet] at hp
      split at hp
      · cases hp
        show 0 + t.unf (fSet (fun _ => none) (sy, sx) 0) ≤ 144
        omega
      · cases hp
    have hM : (h1' ++ [(⟨0, false, 2, [posM (sy, sx)]⟩ : MObj)]).length = 5 + 2 * t.ter.length := by simp [hL1]; omega
    rw [hM]
    clear m1 m2 f1 hL1 hu0 hu1 hM
    rintro ⟨f, now, lv, idn, gn, h⟩ ⟨hI, hm, ⟨nl, hnw⟩, hid, hln, hvl, hnl⟩
    simp only at hI hm hnw hid hln hvl hnl ⊢
    by_cases hnow : now = []
    · subst hnow
      have hsg : f = ff := funext fun p => hI.done.uniq hD p
      subst hsg
      obtain ⟨refs, k1, k2, k3⟩ := hm.sf.top
      have hrow := hm.sf.row
      have hwl := hm.sf.wl
      have hgl := hm.sf.gl
      have he : refs.mapM (frz 0 [3] h 8) = some ((stG t f).map encW) := by
        refine mapM_get (by rw [k2, List.length_map, hgl]) fun j a b ha hb => ?_
        have hj : j < t.ter.length := by have := (List.getElem?_eq_some_iff.1 ha).1; omega
        rw [k3 j hj] at ha
        cases ha
        have hr := hrow j hj
        have hw := hwl j hj
        have hb2 : b = encW ((stG t f).getD j []) := by
          rw [List.getElem?_map, List.getElem?_eq_getElem (by omega)] at hb
          cases hb
          rw [List.getD_eq_getElem?_getD, List.getElem?_eq_getElem (by omega)]; rfl
        rw [hb2]
        clear hb hb2
        generalize (stG t f).getD j [] = r at *
        have q1 : ([3] : List Nat).contains (4 + 2 * j) = false := by simp; omega
        have q2 : (r.map I64).take t.W = r.map I64 := List.take_of_length_le (by simp; omega)
        simp only [frz, MV.lt, Nat.not_lt_zero, decide_false, Bool.false_eq_true, if_false, q1, hr]
        simp only [ltL_I, if_true, List.drop_zero, q2]
        simp [hw]
      have hlf : ltL 0 refs = true → refs = (stG t f).map encW := fun hl => by
        have := ltL_iff'.1 hl _ (List.mem_of_getElem? (k3 0 h1))
        simp [MV.lt] at this
      repeat (first | apply ef_seq | (apply ef_mv; exact rfl; exact rfl) | (apply ef_bin; exact rfl; exact rfl; exact rfl; (exact rfl)) | (apply ef_len; exact rfl; exact rfl; (exact rfl)) | apply ef_nil | apply seqQ.normal | apply loopQ.exit | apply ef_ret | apply ef_exit | apply seqQ.exit | apply blockQ.here | (apply ef_condf; exact rfl; (exact (rfl : false = false))))
      (apply fin_arrF; (· exact rfl); (· exact rfl); (· exact k1); (· exact rfl); (· exact k2.symm); (· exact he); (· exact hlf); (· exact rfl); (· exact rfl))
    · have hpos : 0 < now.length := List.length_pos_iff.2 hnow
      repeat (first | apply ef_seq | (apply ef_mv; exact rfl; exact rfl) | (apply ef_bin; exact rfl; exact rfl; exact rfl; (exact cmp_t rfl (by first | exact rfl | (simp only [cmpP]; omega)))) | (apply ef_len; exact rfl; exact rfl; (exact rfl)) | (apply ef_nil0; exact rfl) | apply ef_nil | apply seqQ.normal | apply ef_block | apply ef_skip | (apply ef_condt; exact rfl; (exact (rfl : true = true))))
      have hidl : idn < h.length := (List.getElem?_eq_some_iff.1 hnw).1
      refine ef_loopg (α := Nat × (Nd → Option Nat) × List Nd × Nat × MHeap) (fun a => a.1 ≤ now.length ∧ RsI t (sy, sx) now lv (t.unf f) idn gn nl h.length a.2.1 a.2.2.1 a.2.2.2.2 (fun p => p ∈ now.take a.1) ∧ a.2.2.2.1 = a.2.2.1.length)
        (fun a => [(11, I64 (a.1 : Int)), (10, .arr h.length 0 a.2.2.2.1 a.2.2.2.1)]) [(9, .arr idn 0 now.length gn), (2, .ptr 0 0 0 0), (5, .arr 3 0 t.ter.length t.ter.length)] (fun a => a.2.2.2.2) (fun a => now.length - a.1)
        (0, f, [], 0, h ++ [⟨0, true, 2, []⟩]) [11, 10] (fun _ => rfl) (by ((repeat (refine Hold.cons (by exact rfl) ?_)); exact Hold.nil)) (by ((repeat (refine Hold.cons (by exact rfl) ?_)); exact Hold.nil)) rfl rfl rfl
        ⟨Nat.zero_le _, ⟨hI.open.weak fun p hp => by simp at hp, hm.app1 _ rfl, at_app hnw _, at_end _ _, by simp, hvl, by simp⟩, rfl⟩ (by simp only; omega) ?_
      have hM : (h ++ [(⟨0, true, 2, []⟩ : MObj)]).length = h.length + 1 := by simp
      rw [hM]
      rintro ⟨i, f1, next, nn, h1⟩ ⟨hi, hR, hnn⟩
      simp only at hi hR hnn ⊢
      by_cases hlt : i < now.length
      · obtain ⟨⟨y, x⟩, hp⟩ : ∃ p, now[i]? = some p := ⟨_, List.getElem?_eq_getElem hlt⟩
        have hfk : f1 (y, x) = some lv := (hR.ly.here _).1 (List.mem_of_getElem? hp)
        have hin := hR.ly.rng _ _ hfk
        have hy : y < t.ter.length := hin.1
        have hx : x < t.W := hin.2.1
        have hnb := fun h => rNeighbours_c k t ok hb hy hx h
        have f0 := hR.mm.b0
        have fw := hR.nw
        have fok : MHeap.ok h1 idn gn 2 = true := ok_of fw rfl rfl
        have fe : (now.map posM)[0 + ((i : Nat) : Int).toNat]? = some (posM (y, x)) := by rw [Nat.zero_add, Int.toNat_natCast, List.getElem?_map, hp]; rfl
        repeat (first | apply ef_seq | (apply ef_mv; exact rfl; exact rfl) | (apply ef_bin; exact rfl; exact rfl; exact rfl; (exact cmp_t rfl (by first | exact rfl | (simp only [cmpP]; omega)))) | (apply ef_len; exact rfl; exact rfl; (exact rfl)) | (apply ef_ldp; exact rfl; exact rfl; (assumption); exact rfl; (first | exact rfl | assumption); (first | exact rd_5 rfl rfl rfl rfl rfl | exact rfl)) | (apply ef_iaa; exact rfl; exact rfl; exact rfl; (omega); (omega); (assumption)) | (apply ef_fap; exact rfl; exact rfl) | apply ef_nil | apply seqQ.normal | apply ef_block | apply ef_skip | (apply ef_condt; exact rfl; (exact (rfl : true = true))) | (apply ef_call; exact rfl; ((repeat (apply XVs.cons; exact rfl)); exact XVs.nil); (with_reducible exact hnb _)))
        have hhl := hR.ln
        refine ef_loopg (α := Nat × (Nd → Option Nat) × List Nd × Nat × MHeap) (fun a => a.1 ≤ (nbR t y x).length ∧ RsI t (sy, sx) now lv (t.unf f) idn gn nl h.length a.2.1 a.2.2.1 a.2.2.2.2 (fun p => p ∈ now.take i) ∧ a.2.2.2.1 = a.2.2.1.length ∧ ∀ p ∈ (nbR t y x).take a.1, ∃ b, a.2.1 p = some b)
          (fun a => [(13, I64 (a.1 : Int)), (10, .arr h.length 0 a.2.2.2.1 a.2.2.2.1)]) [(12, .arr h1.length 0 (nbR t y x).length 0), (5, .arr 3 0 t.ter.length t.ter.length), (9, .arr idn 0 now.length gn), (11, I64 (i : Int)), (2, .ptr 0 0 0 0)]
          (fun a => a.2.2.2.2 ++ [⟨0, nlN (nbR t y x).length, 2, (nbR t y x).map posM⟩]) (fun a => (nbR t y x).length - a.1)
          (0, f1, next, nn, h1) [13, 10] (fun _ => rfl) (by ((repeat (refine Hold.cons (by exact rfl) ?_)); exact Hold.nil)) (by ((repeat (refine Hold.cons (by exact rfl) ?_)); exact Hold.nil)) rfl rfl rfl ⟨Nat.zero_le _, hR, hnn, by simp⟩ (by have := nbR_len t y x; simp only; omega) ?_
        have hM2 : (h1 ++ [(⟨0, nlN (nbR t y x).length, 2, (nbR t y x).map posM⟩ : MObj)]).length = h.length + 2 := by simp [hhl]
        rw [hM2, hhl]
        clear hR hfk f0 fw fok fe hM2 hhl hnb hin hnn nn
        rintro ⟨j, f2, nxt, nn, h3⟩ ⟨hj, hR, hnn, hall⟩
        simp only at hj hR hnn hall ⊢
        have hhl := hR.ln
        have hfk : f2 (y, x) = some lv := (hR.ly.here _).1 (List.mem_of_getElem? hp)
        by_cases hlt3 : j < (nbR t y x).length
        · obtain ⟨⟨y1, x1⟩, hp1⟩ : ∃ p, (nbR t y x)[j]? = some p := ⟨_, List.getElem?_eq_getElem hlt3⟩
          have hnb := (nbR_mem hy hx).1 (List.mem_of_getElem? hp1)
          simp only at hnb
          have htk : (nbR t y x).take (j + 1) = (nbR t y x).take j ++ [(y1, x1)] := by rw [List.take_add_one, hp1]; rfl
          have hy1 : y1 < t.ter.length := hnb.1
          have hx1 := hnb.2.1
          have hsf := hR.mm.sf.app [(⟨0, nlN (nbR t y x).length, 2, (nbR t y x).map posM⟩ : MObj)]
          obtain ⟨refs, r1, r2, r3, r4, r5, r6⟩ := hsf.rd hy hx
          obtain ⟨refs', p1, p2, p3, p4, p5, p6⟩ := hsf.rd (y := y1) (x := x1) hy1 hx1
          have hrr : refs' = refs := by rw [p1] at r1; cases r1; rfl
          subst hrr
          try simp only at r3 r4 r5 p3 p4 p5
          have f0 := at_app hR.mm.b0 [(⟨0, nlN (nbR t y x).length, 2, (nbR t y x).map posM⟩ : MObj)]
          have fn : (h3 ++ [(⟨0, nlN (nbR t y x).length, 2, (nbR t y x).map posM⟩ : MObj)])[h.length + 1]? = some ⟨0, nlN (nbR t y x).length, 2, (nbR t y x).map posM⟩ := by rw [← hhl]; exact at_end _ _
          have fok : MHeap.ok (h3 ++ [(⟨0, nlN (nbR t y x).length, 2, (nbR t y x).map posM⟩ : MObj)]) (h.length + 1) 0 2 = true := ok_of fn rfl rfl
          have fe : ((nbR t y x).map posM)[0 + ((j : Nat) : Int).toNat]? = some (posM (y1, x1)) := by rw [Nat.zero_add, Int.toNat_natCast, List.getElem?_map, hp1]; rfl
          have fw := at_app hR.nw [(⟨0, nlN (nbR t y x).length, 2, (nbR t y x).map posM⟩ : MObj)]
          have fwok : MHeap.ok (h3 ++ [(⟨0, nlN (nbR t y x).length, 2, (nbR t y x).map posM⟩ : MObj)]) idn gn 2 = true := ok_of fw rfl rfl
          have fwe : (now.map posM)[0 + ((i : Nat) : Int).toNat]? = some (posM (y, x)) := by rw [Nat.zero_add, Int.toNat_natCast, List.getElem?_map, hp]; rfl
          have fx := at_app hR.nx [(⟨0, nlN (nbR t y x).length, 2, (nbR t y x).map posM⟩ : MObj)]
          have hv1 := stG_at (f := f2) hy hx
          rw [hfk] at hv1
          have hv1 : at2 (stG t f2) y x = (lv : Int) := hv1
          have hv2 := stG_at (f := f2) hy1 hx1
          have hlv := hR.vl _ _ hfk
          have hnl3 := nbR_len t y x
          repeat (first | apply ef_seq | (apply ef_mv; exact rfl; exact rfl) | (apply ef_bin; exact rfl; exact rfl; exact rfl; (first | exact cmp_t rfl (by first | exact rfl | (simp only [cmpP]; omega)) | exact rfl)) | (apply ef_len; exact rfl; exact rfl; (exact rfl)) | (apply ef_ldp; exact rfl; exact rfl; (assumption); exact rfl; (assumption); (exact rfl)) | (apply ef_iaa; exact rfl; exact rfl; exact rfl; (omega); (omega); (assumption)) | (apply ef_fap; exact rfl; exact rfl) | apply ef_nil | apply seqQ.normal | apply ef_block | apply ef_skip | (apply ef_condt; exact rfl; (exact (rfl : true = true))))
          cases hm2 : f2 (y1, x1) with
          | none =>
            rw [hm2] at hv2
            have hr : at2 (stG t f2) y1 x1 < 0 := by rw [hv2]; decide
            repeat (first | apply ef_seq | (apply ef_mv; exact rfl; exact rfl) | (apply ef_bin; exact rfl; exact rfl; exact rfl; (((with_reducible refine bin_add (wrap_of ?_ ?_)) <;> omega))) | (apply ef_ldp; exact rfl; exact rfl; (assumption); exact rfl; (assumption); (exact rfl)) | (apply ef_iaa; exact rfl; exact rfl; exact rfl; (omega); (omega); (assumption)) | (apply ef_fap; exact rfl; exact rfl) | (apply ef_condt; exact rfl; (exact decide_eq_true (by omega))))
            have hval : at2 (stG t f2) y x + 1 = ((lv + 1 : Nat) : Int) := by rw [hv1]; simp
            have hml := hR.mm.len
            refine ef_st (o := ⟨0, false, 1, ((stG t f2).getD y1 []).map I64⟩) (v := I64 (at2 (stG t f2) y x + 1)) (by exact rfl) rfl (by exact rfl) p4 rfl rfl p6 rfl ?_
            rw [List.set_append_left _ _ (by omega)]
            show Ef _ _ _ _ _ _ _ (h3.set (4 + 2 * y1) ⟨0, false, 1, (((stG t f2).getD y1 []).map I64).set (0 + ((x1 : Nat) : Int).toNat) (I64 (at2 (stG t f2) y x + 1))⟩ ++ _) _
            rw [show 0 + ((x1 : Nat) : Int).toNat = x1 by simp, hval]
            have m := hR.more hfk hnb hm2 hid hidl
            have hl4 : (h3.set (4 + 2 * y1) (⟨0, false, 1, (((stG t f2).getD y1 []).map I64).set x1 (I64 ((lv + 1 : Nat) : Int))⟩ : MObj)).length = h.length + 1 := by rw [List.length_set]; exact hhl
            have fx2 : (h3.set (4 + 2 * y1) (⟨0, false, 1, (((stG t f2).getD y1 []).map I64).set x1 (I64 ((lv + 1 : Nat) : Int))⟩ : MObj))[h.length]? = some ⟨nxt.length, nlN nxt.length, 2, nxt.map posM⟩ := by rw [List.getElem?_set_ne (by omega)]; exact hR.nx
            clear r1 r2 r3 r4 r5 r6 p1 p2 p3 p4 p5 p6 f0 fn fok fw fwok fx hv1 hv2 hsf
            generalize (h3.set (4 + 2 * y1) (⟨0, false, 1, (((stG t f2).getD y1 []).map I64).set x1 (I64 ((lv + 1 : Nat) : Int))⟩ : MObj)) = h4 at m hl4 fx2 ⊢
            have fn2 : (h4 ++ [(⟨0, nlN (nbR t y x).length, 2, (nbR t y x).map posM⟩ : MObj)])[h.length + 1]? = some ⟨0, nlN (nbR t y x).length, 2, (nbR t y x).map posM⟩ := by rw [← hl4]; exact at_end _ _
            have fok2 : MHeap.ok (h4 ++ [(⟨0, nlN (nbR t y x).length, 2, (nbR t y x).map posM⟩ : MObj)]) (h.length + 1) 0 2 = true := ok_of fn2 rfl rfl
            repeat (first | (apply ef_mv; exact rfl; exact rfl) | (apply ef_ldp; exact rfl; exact rfl; (assumption); exact rfl; (assumption); (exact rd_2 rfl rfl)) | (apply ef_iaa; exact rfl; exact rfl; exact rfl; (omega); (omega); (assumption)) | (apply ef_bsl; exact rfl; (repeat (apply XVs.cons; exact rfl)); exact XVs.nil; exact rfl) | apply ef_nil | apply seqQ.normal)
            have hmu := hR.mu
            have huf := Tk.unf_le ok f
            rw [hnn]
            refine ef_app (ht := by exact rfl) (o := ⟨nxt.length, nlN nxt.length, 2, nxt.map posM⟩) (v := .arr (h4 ++ [(⟨0, nlN (nbR t y x).length, 2, (nbR t y x).map posM⟩ : MObj)]).length 0 1 0) (e := posM (y1, x1)) (xs := []) (by exact rfl) (by exact rfl) (elems_end rfl rfl rfl rfl) (at_app (at_app fx2 _) _) rfl (by simp) rfl (by simp; omega) rfl rfl ?_
            rw [List.set_append_left _ _ (by simp [hl4]; omega), List.set_append_left _ _ (by omega)]
            repeat (first | (apply ef_mv; exact rfl; exact rfl) | (apply ef_bin; exact rfl; exact rfl; exact rfl; (((with_reducible refine bin_add (wrap_of ?_ ?_)) <;> omega))) | apply ef_nil | apply seqQ.normal | apply blockQ.normal)
            refine loopQ.normal _ _ ⟨(j + 1, fSet f2 (y1, x1) (lv + 1), nxt ++ [(y1, x1)], nxt.length + 1, h4.set h.length ⟨nxt.length + 1, false, 2, (nxt.map posM).drop 0 ++ [posM (y1, x1)]⟩), ⟨hlt3, m, by simp, fun p hp => ?_⟩, by simp only; omega, ⟨by ((repeat (refine Hold.cons (by exact rfl) ?_)); exact Hold.nil), by ((repeat (refine Hold.cons (by exact rfl) ?_)); exact Hold.nil)⟩, HeadIs.tkE _ rfl (by simp [hl4]) ((m.cl1 _ fun n => ltL_pos n _).app _) fun u hu => ?_⟩
            · simp only at hp ⊢
              simp only [fSet]
              by_cases e : p = (y1, x1)
              · rw [if_pos e]; exact ⟨_, rfl⟩
              · rw [if_neg e]
                rw [htk, List.mem_append] at hp
                rcases hp with hp | hp
                · exact hall p hp
                · rw [List.mem_singleton] at hp
                  exact absurd hp e
            · simp only [List.mem_cons, List.not_mem_nil, or_false] at hu
              rcases hu with rfl | rfl | rfl | rfl | rfl | rfl | rfl
              · exact ⟨_, by exact rfl, rfl⟩
              · exact ⟨.arr (h.length + 1) 0 (nbR t y x).length 0, by exact rfl, by simp [MV.lt]⟩
              · exact ⟨.arr 3 0 t.ter.length t.ter.length, by exact rfl, by simp [MV.lt]; omega⟩
              · exact ⟨.arr idn 0 now.length gn, by exact rfl, by simp [MV.lt]; omega⟩
              · exact ⟨_, by exact rfl, rfl⟩
              · exact ⟨.arr h.length 0 (nxt.length + 1) (nxt.length + 1), by exact rfl, by simp [MV.lt]⟩
              · exact ⟨.ptr 0 0 0 0, by exact rfl, by simp [MV.lt]⟩
          | some k1 =>
            rw [hm2] at hv2
            have hr : ¬ at2 (stG t f2) y1 x1 < 0 := by rw [hv2]; simp [stI]
            repeat (first | (apply ef_mv; exact rfl; exact rfl) | (apply ef_bin; exact rfl; exact rfl; exact rfl; (((with_reducible refine bin_add (wrap_of ?_ ?_)) <;> omega))) | apply ef_nil | apply seqQ.normal | apply blockQ.normal | apply ef_skip | (apply ef_condf; exact rfl; (exact decide_eq_false (by omega))))
            refine loopQ.normal _ _ ⟨(j + 1, f2, nxt, nn, h3), ⟨hlt3, hR, hnn, fun p hp => ?_⟩, by simp only; omega, ⟨by ((repeat (refine Hold.cons (by exact rfl) ?_)); exact Hold.nil), by ((repeat (refine Hold.cons (by exact rfl) ?_)); exact Hold.nil)⟩, .all (by rw [List.length_append, hhl]; simp)⟩
            simp only at hp ⊢
            rw [htk, List.mem_append] at hp
            rcases hp with hp | hp
            · exact hall p hp
            · rw [List.mem_singleton] at hp
              subst hp
              exact ⟨k1, hm2⟩
        · rw [List.take_of_length_le (by omega)] at hall
          repeat (first | apply ef_seq | (apply ef_mv; exact rfl; exact rfl) | (apply ef_bin; exact rfl; exact rfl; exact rfl; (first | exact cmp_f rfl (by simp only [cmpP]; omega) | ((with_reducible refine bin_add (wrap_of ?_ ?_)) <;> omega))) | (apply ef_len; exact rfl; exact rfl; (exact rfl)) | apply ef_nil | apply seqQ.normal | apply loopQ.exit | apply ef_exit | apply seqQ.exit | apply blockQ.normal | apply blockQ.here | (apply ef_condf; exact rfl; (exact (rfl : false = false))))
          refine loopQ.normal _ _ ⟨(i + 1, f2, nxt, nn, h3), ⟨hlt, hR.weak fun p hp' => ?_, hnn⟩, by simp only; omega, ⟨by ((repeat (refine Hold.cons (by exact rfl) ?_)); exact Hold.nil), by ((repeat (refine Hold.cons (by exact rfl) ?_)); exact Hold.nil)⟩, HeadIs.tkE _ rfl hhl (hR.cl.app _) fun u hu => ?_⟩
          · simp only at hp'
            rw [List.take_add_one, hp] at hp'
            rcases List.mem_append.1 hp' with hp' | hp'
            · exact .inl hp'
            · obtain rfl : p = (y, x) := by simpa using hp'
              exact .inr fun q hq => hall q ((nbR_mem hy hx).2 hq)
          · simp only [List.mem_cons, List.not_mem_nil, or_false] at hu
            rcases hu with rfl | rfl | rfl | rfl | rfl
            · exact ⟨_, by exact rfl, rfl⟩
            · exact ⟨.arr idn 0 now.length gn, by exact rfl, by simp [MV.lt]; omega⟩
            · exact ⟨.ptr 0 0 0 0, by exact rfl, by simp [MV.lt]⟩
            · exact ⟨.arr 3 0 t.ter.length t.ter.length, by exact rfl, by simp [MV.lt]; omega⟩
            · exact ⟨.arr h.length 0 nn nn, by exact rfl, by simp [MV.lt]⟩
      · rw [List.take_of_length_le (by omega)] at hR
        have hmu := hR.mu
        have huf := Tk.unf_le ok f
        have hl1 := hR.ln
        repeat (first | apply ef_seq | (apply ef_mv; exact rfl; exact rfl) | (apply ef_bin; exact rfl; exact rfl; exact rfl; (exact cmp_f rfl (by simp only [cmpP]; omega))) | (apply ef_len; exact rfl; exact rfl; (exact rfl)) | apply ef_nil | apply seqQ.normal | apply loopQ.exit | apply ef_exit | apply seqQ.exit | apply blockQ.normal | apply blockQ.here | (apply ef_condf; exact rfl; (exact (rfl : false = false))))
        refine loopQ.normal _ _ ⟨(f1, next, lv + 1, h.length, nn, h1), ⟨hR.ly.close fun p hp => hp, hR.mm, ⟨_, by rw [hnn]; exact hR.nx⟩, by simp only; omega, by simp only; omega, hR.vl, by simp only; omega⟩, ?_, ⟨by rw [hnn]; ((repeat (refine Hold.cons (by exact rfl) ?_)); exact Hold.nil), by ((repeat (refine Hold.cons (by exact rfl) ?_)); exact Hold.nil)⟩, HeadIs.slot 9 (.arr h.length 0 nn nn) (by simp) (by exact rfl) (by simp [MV.lt]; omega)⟩
        simp only
        rw [if_neg hnow]
        split
        · omega
        · have : 0 < next.length := List.length_pos_iff.2 (by assumption)
          omega
theorem rSteps_c (k : Nat) {t : Tk} (ok : OkT t) (hb : Bd t) {sy sx : Nat} (hs : t.inP (sy, sx)) {ff : Nd → Option Nat} (hD : Dst t (sy, sx) ff) (h : MHeap) : orA (k + 3) 50 [encT t, posM (sy, sx)] h = some (.arr h.length 0 t.ter.length 0, h ++ [⟨0, false, 1, (stG t ff).map encW⟩]) := by
  have := callA (k := k + 2) (h := h) (frzL_lt (ms := [encT t, posM (sy, sx)]) (by simp [ltL, MV.lt, ltL_I, ltL_W])) rfl (rSteps_z k ok hb hs hD) rfl (by simp [okH, ltL_W, ltL, MV.lt, ltL_I, ltL_B])
  simpa [shV, sh1] using this
end Go.Proofs.Ytgjpdjihjphbdaa

/- The contract of the reference's excess; errors of tasks. -/
namespace Go.Proofs.Ytgjpdjihjphbdaa
open Go.RowKit
set_option linter.unusedVariables false
theorem lns_val {cnt : Int} : ∀ {ns : List Int} {last : Int} {i : Nat}, (lnsE cnt last i ns).2 = 0 ∨ (lnsE cnt last i ns).2 = 6 ∨ (lnsE cnt last i ns).2 = 9
  | [], _, _ => .inl rfl
  | n :: ns, last, i => by
    simp only [lnsE]
    split
    · exact lns_val
    · simp only [lnE, firstE, unl]
      cases inB n 0 (cnt - 1) <;> cases decide (last < n) <;> simp
theorem taskF_rel (t : Tk) : (taskF (fun _ => 0) t).2 = (taskF id t).2 ∧ ((taskF id t).2 ≠ 0 → (taskF id t).1 = (taskF (fun _ => 0) t).1 ∨ (taskF id t).2 = 6 ∨ (taskF id t).2 = 9) := by
  unfold taskF
  split
  · split
    · split
      · split
        · exact ⟨rfl, fun h => .inr ((lns_val).resolve_left h)⟩
        · exact ⟨rfl, fun h => .inr ((lns_val).resolve_left h)⟩
      · exact ⟨rfl, fun _ => .inl rfl⟩
    · exact ⟨rfl, fun _ => .inl rfl⟩
  · exact ⟨rfl, fun _ => .inl rfl⟩
end Go.Proofs.Ytgjpdjihjphbdaa

/- Contracts: lists searched, joined; the error of a surface. -/
namespace Go.Proofs.Ytgjpdjihjphbdaa
open Go.RowKit
set_option linter.unusedVariables false
section
variable {O : Oracle} {I : Iter} {N n : Nat} {lk : Nat → Bool} {A : Sl} {h : MHeap} {Q : MX2 → Sl → MHeap → Prop} {t : Nat} {os : List GO}
end
inductive CatV : MV → MHeap → List Int → Prop
  | nil : CatV (.lit (.slice none 0 0)) [] []
  | arr (l : List Int) : CatV (.arr 0 0 l.length 0) [⟨0, false, 1, l.map I64⟩] l
end Go.Proofs.Ytgjpdjihjphbdaa

/- Contracts: the error of a surface. -/
namespace Go.Proofs.Ytgjpdjihjphbdaa
open Go.RowKit
set_option linter.unusedVariables false
def surfE (t : Tk) (s : List (List Int)) : Int := firstE [unl (!(!decide (s.length = t.ter.length) || s.any fun r => !decide (r.length = t.W))) 10, unl (!(s.flatten.any fun n => !inB n 0 10000000)) 2]
end Go.Proofs.Ytgjpdjihjphbdaa

/- Contracts: the error of a node of a surface. -/
namespace Go.Proofs.Ytgjpdjihjphbdaa
open Go.RowKit
set_option linter.unusedVariables false
structure OkZ (t : Tk) (s : List (List Int)) : Prop where
  sh : Shp t s
  rg : ∀ y x, y < t.H → x < t.W → 0 ≤ at2 s y x ∧ at2 s y x ≤ 10000000
theorem OkZ.row {t : Tk} {s : List (List Int)} (os : OkZ t s) {y : Nat} (hy : y < t.H) : (s.map encW)[((y : Nat) : Int).toNat]? = some (encW (s.getD y [])) := by
  have hys : y < s.length := by rw [os.sh.hl]; exact hy
  rw [Int.toNat_natCast, List.getElem?_map, List.getD_eq_getElem?_getD, List.getElem?_eq_getElem hys]; rfl
theorem OkZ.cell {t : Tk} {s : List (List Int)} (os : OkZ t s) {y x : Nat} (hy : y < t.H) (hx : x < t.W) : ((s.getD y []).map I64)[((x : Nat) : Int).toNat]? = some (I64 (at2 s y x)) :=
  cell_at (by rw [os.sh.row hy]; exact hx)
end Go.Proofs.Ytgjpdjihjphbdaa

/- Contracts of the reference: the errors of a surface and of its nodes. -/
namespace Go.Proofs.Ytgjpdjihjphbdaa
open Go.RowKit
set_option linter.unusedVariables false
theorem impIds_lt0 : ∀ {v w : MV}, v.lt 0 = true → w.lt 0 = true → impIds 0 [v, w] = [] := fun {v w} h1 h2 => by
  cases v <;> first | (simp [MV.lt] at h1; done) | (cases w <;> first | (simp [MV.lt] at h2; done) | simp [impIds])
theorem fin_res2 {x : MX2} {A : Sl} {h : MHeap} {r1 r2 : MRes} {v w : MV} (hx : outX x = true) (h1 : ResV A h r1 v) (h2 : ResV A h r2 w) (l1 : v.lt 0 = true) (l2 : w.lt 0 = true) : FinF [r1, r2] (.tup [v, w]) [] x A h := by
  have hi := impIds_lt0 l1 l2
  refine ⟨hx, [v, w], [v, w], ⟨v, [w], rfl, h1, w, [], rfl, h2, rfl⟩, by rw [hi]; simp, ?_, rfl⟩
  rw [hi]
  cases v <;> first | (simp [MV.lt] at l1; done) | (cases w <;> first | (simp [MV.lt] at l2; done) | simp [expL, frz, l1, l2])
theorem mf_bSize2 : MT.mf 88 = some ⟨7, [(.tmp 2)], (.seq (.reg [⟨none, some 2, .mv (.c (.lit (.int .i64 0)))⟩]) (.seq (.reg [⟨none, some 3, .mv (.s 0)⟩, ⟨none, some 4, .mv (.s 0)⟩, ⟨none, some 5, .un .neg (.s 4)⟩, ⟨none, some 6, .mx (.s 3) (.s 5)⟩, ⟨none, some 2, .mv (.s 6)⟩]) .ret))⟩ := by kernel_rfl
theorem bSize2_c (k : Nat) (a : Int) (h : MHeap) (h1 : -100000000 ≤ a) (h2 : a ≤ 100000000) : orA (k + 1) 88 [I64 a] h = some (I64 (mx a (0 - a)), h) := by
  refine callL (frz_lits [.int .i64 a]) rfl (runZ_of mf_bSize2 (by simp) ?_)
  simp only [argsL, List.map_cons, List.map_nil]
  repeat (first | apply ef_seq | (apply ef_mv; exact rfl; exact rfl) | (apply ef_neg; exact rfl; exact rfl; exact wrap_of (by omega) (by omega)) | (apply ef_mx; exact rfl; exact rfl; exact rfl) | apply ef_nil | apply seqQ.normal | apply ef_ret)
  (refine fin1 rfl (by exact rfl) rfl ?_)
  rfl
theorem flat_at2 {s : List (List Int)} {i : Nat} (hi : i < s.length) : (s.drop i).flatten = s[i] ++ (s.drop (i + 1)).flatten := by
  rw [List.drop_eq_getElem_cons hi, List.flatten_cons]
theorem surfE_len {t : Tk} {s : List (List Int)} (h : s.length ≠ t.ter.length) : surfE t s = 10 := by
  unfold surfE; rw [decide_eq_false h]; rfl
theorem surfE_row {t : Tk} {s : List (List Int)} (h : (s.any fun r => !decide (r.length = t.W)) = true) : surfE t s = 10 := by
  unfold surfE; rw [h]; simp [firstE, unl]
theorem surfE_rest {t : Tk} {s : List (List Int)} (h1 : s.length = t.ter.length) (h2 : (s.any fun r => !decide (r.length = t.W)) = false) : surfE t s = unl (!(s.flatten.any fun n => !inB n 0 10000000)) 2 := by
  unfold surfE; rw [h2, decide_eq_true h1]
  cases (s.flatten.any fun n => !inB n 0 10000000) <;> rfl
theorem mf_rSurfaceErr : MT.mf 49 = some ⟨55, [(.tmp 4)], (.seq (.reg [⟨none, some 2, .box 5 (.s 0)⟩, ⟨none, some 4, .mv (.c (.lit (.int .i64 0)))⟩]) (.seq (.seq (.reg [⟨none, some 8, .mv (.s 1)⟩, ⟨none, some 9, .len (.s 8)⟩, ⟨none, some 10, .fa 0 (.s 2)⟩, ⟨none, some 11, .ld none (.s 10)⟩, ⟨none, some 12, .len (.s 11)⟩, ⟨none, some 13, .bin .neq (.s 9) (.s 12)⟩]) (.cond (.s 13) (.seq (.reg [⟨none, some 4, .mv (.c (.lit (.int .i64 10)))⟩]) .ret) .skip)) (.seq (.seq (.reg [⟨none, some 5, .mv (.c (.lit (.int .i64 0)))⟩]) (.block 0 (.loop [5, 1, 2] (.seq (.seq (.reg [⟨none, some 14, .mv (.s 5)⟩, ⟨none, some 15, .mv (.s 1)⟩, ⟨none, some 16, .len (.s 15)⟩, ⟨none, some 17, .bin .lss (.s 14) (.s 16)⟩]) (.cond (.s 17) .skip (.exit 0))) (.seq (.block 1 (.seq (.reg [⟨none, some 20, .mv (.s 1)⟩, ⟨none, some 21, .mv (.s 5)⟩, ⟨none, some 22, .ia 1 (.s 20) (.s 21)⟩, ⟨none, some 23, .ld none (.s 22)⟩, ⟨none, some 24, .len (.s 23)⟩, ⟨none, some 25, .fa 0 (.s 2)⟩, ⟨none, some 26, .ld none (.s 25)⟩, ⟨none, some 27, .ia 1 (.s 26) (.c (.lit (.int .i64 0)))⟩, ⟨none, some 28, .ld none (.s 27)⟩, ⟨none, some 29, .len (.s 28)⟩, ⟨none, some 30, .bin .neq (.s 24) (.s 29)⟩]) (.cond (.s 30) (.seq (.reg [⟨none, some 4, .mv (.c (.lit (.int .i64 10)))⟩]) .ret) .skip))) (.reg [⟨none, some 18, .mv (.s 5)⟩, ⟨none, some 19, .bin .add (.s 18) (.c (.lit (.int .i64 1)))⟩, ⟨none, some 5, .mv (.s 19)⟩])))))) (.seq (.seq (.reg [⟨none, some 6, .mv (.c (.lit (.int .i64 0)))⟩]) (.block 2 (.loop [6, 1] (.seq (.seq (.reg [⟨none, some 31, .mv (.s 6)⟩, ⟨none, some 32, .mv (.s 1)⟩, ⟨none, some 33, .len (.s 32)⟩, ⟨none, some 34, .bin .lss (.s 31) (.s 33)⟩]) (.cond (.s 34) .skip (.exit 2))) (.seq (.block 3 (.seq (.reg [⟨none, some 7, .mv (.c (.lit (.int .i64 0)))⟩]) (.block 4 (.loop [7, 1, 6] (.seq (.seq (.reg [⟨none, some 37, .mv (.s 7)⟩, ⟨none, some 38, .mv (.s 1)⟩, ⟨none, some 39, .mv (.s 6)⟩, ⟨none, some 40, .ia 1 (.s 38) (.s 39)⟩, ⟨none, some 41, .ld none (.s 40)⟩, ⟨none, some 42, .len (.s 41)⟩, ⟨none, some 43, .bin .lss (.s 37) (.s 42)⟩]) (.cond (.s 43) .skip (.exit 4))) (.seq (.block 5 (.seq (.reg [⟨none, some 46, .mv (.s 1)⟩, ⟨none, some 47, .mv (.s 6)⟩, ⟨none, some 48, .ia 1 (.s 46) (.s 47)⟩, ⟨none, some 49, .ld none (.s 48)⟩, ⟨none, some 50, .mv (.s 7)⟩, ⟨none, some 51, .ia 1 (.s 49) (.s 50)⟩, ⟨none, some 52, .ld none (.s 51)⟩, ⟨none, some 53, .call 22 [.s 52, (.c (.lit (.int .i64 0))), (.c (.lit (.int .i64 10000000)))]⟩, ⟨none, some 54, .un .not (.s 53)⟩]) (.cond (.s 54) (.seq (.reg [⟨none, some 4, .mv (.c (.lit (.int .i64 2)))⟩]) .ret) .skip))) (.reg [⟨none, some 44, .mv (.s 7)⟩, ⟨none, some 45, .bin .add (.s 44) (.c (.lit (.int .i64 1)))⟩, ⟨none, some 7, .mv (.s 45)⟩]))))))) (.reg [⟨none, some 35, .mv (.s 6)⟩, ⟨none, some 36, .bin .add (.s 35) (.c (.lit (.int .i64 1)))⟩, ⟨none, some 6, .mv (.s 36)⟩])))))) (.seq (.reg [⟨none, some 4, .mv (.c (.lit (.int .i64 0)))⟩]) .ret)))))⟩ := by kernel_rfl
set_option maxHeartbeats 1000000 in
theorem rSurfaceErr_z (k : Nat) (t : Tk) (ok : OkT t) (s : List (List Int)) (hs : s.length ≤ 1000) (hr : ∀ r ∈ s, r.length ≤ 1000) : runZ MT (orA (k + 1)) (itA (k + 1)) 4000000 49 [encT t, .sl (s.map encW)] [] = some (I64 (surfE t s), []) := by
  refine runZ_of mf_rSurfaceErr (by simp) ?_
  have hh1 := ok.h1
  have hw1 := ok.w1
  have hs1 : (MV.sl (t.ter.map encW)).slen = some t.ter.length := by simp [MV.slen]
  have hs2 : (MV.sl (s.map encW)).slen = some s.length := by simp [MV.slen]
  have e0 := Tk.head hh1.1
  have hsw := Tk.headW t
  generalize t.ter.getD 0 [] = r0 at e0 hsw
  simp only [argsL]
  by_cases hl : s.length = t.ter.length
  · repeat (first | apply ef_seq | (apply ef_mv; exact rfl; exact rfl) | (apply ef_bin; exact rfl; exact rfl; exact rfl; (exact cmp_f rfl (by simp only [cmpP]; omega))) | (apply ef_len; exact rfl; exact rfl; (assumption)) | (apply ef_ldp; exact rfl; exact rfl; (exact rfl); exact rfl; (exact rfl); (exact rfl)) | (apply ef_fap; exact rfl; exact rfl) | (apply ef_box; exact rfl; exact rfl; exact rfl; exact rfl) | apply ef_nil | apply seqQ.normal | apply ef_block | apply ef_skip | (apply ef_condf; exact rfl; (exact (rfl : false = false))))
    refine ef_loopf (α := Nat) (fun i => i ≤ s.length ∧ (s.any fun r => !decide (r.length = t.W)) = ((s.drop i).any fun r => !decide (r.length = t.W))) (fun i => [(5, I64 (i : Int))]) [(1, _), (2, _)] (fun _ => _) (fun i => s.length - i) 0 [5] (fun _ => rfl) (by ((repeat (refine Hold.cons (by exact rfl) ?_)); exact Hold.nil)) (by ((repeat (refine Hold.cons (by exact rfl) ?_)); exact Hold.nil)) rfl rfl ⟨by simp, rfl⟩ (by simp; omega) ?_
    rintro i ⟨hi, hz⟩
    try simp only at hi hz ⊢
    by_cases hlt : i < s.length
    · have e1 := at_map encW s i hlt
      have HD := Lib.hid (drop_at s i hlt)
      have HZ := Lib.hid hz
      have hrl := hr _ (List.getElem_mem hlt)
      clear hz
      generalize s[i] = r at e1 HD hrl
      have hsr : (encW r).slen = some r.length := by simp [MV.slen]
      by_cases e : r.length = t.W
      · repeat (first | apply ef_seq | (apply ef_mv; exact rfl; exact rfl) | (apply ef_bin; exact rfl; exact rfl; exact rfl; (first | exact cmp_t rfl (by first | exact rfl | (simp only [cmpP]; omega)) | exact cmp_f rfl (by simp only [cmpP]; omega) | ((with_reducible refine bin_add (wrap_of ?_ ?_)) <;> omega))) | (apply ef_len; exact rfl; exact rfl; (assumption)) | (apply ef_ldr; exact rfl; exact rfl; (exact rfl)) | (apply ef_ldp; exact rfl; exact rfl; (exact rfl); exact rfl; (exact rfl); (exact rfl)) | (apply ef_ias; exact rfl; exact rfl; exact rfl; (omega); assumption; exact rfl) | (apply ef_fap; exact rfl; exact rfl) | apply ef_nil | apply seqQ.normal | apply blockQ.normal | apply ef_block | apply ef_skip | (apply ef_condt; exact rfl; (exact (rfl : true = true))) | (apply ef_condf; exact rfl; (exact (rfl : false = false))))
        (refine loopQ.normal _ _ ⟨i + 1, ⟨hlt, by rw [HZ.out, HD.out]; simp [e]⟩, (by first | (simp only; omega) | omega), ⟨by ((repeat (refine Hold.cons (by exact rfl) ?_)); exact Hold.nil), by ((repeat (refine Hold.cons (by exact rfl) ?_)); exact Hold.nil)⟩, .inl (Nat.le_refl _), (by first | exact List.take_length | exact rfl | exact takeF rfl rfl)⟩)
      · repeat (first | apply ef_seq | (apply ef_mv; exact rfl; exact rfl) | (apply ef_bin; exact rfl; exact rfl; exact rfl; (exact cmp_t rfl (by first | exact rfl | (simp only [cmpP]; omega)))) | (apply ef_len; exact rfl; exact rfl; (assumption)) | (apply ef_ldr; exact rfl; exact rfl; (exact rfl)) | (apply ef_ldp; exact rfl; exact rfl; (exact rfl); exact rfl; (exact rfl); (exact rfl)) | (apply ef_ias; exact rfl; exact rfl; exact rfl; (omega); assumption; exact rfl) | (apply ef_fap; exact rfl; exact rfl) | apply ef_nil | apply seqQ.normal | apply loopQ.ret | apply ef_ret | apply seqQ.ret | apply blockQ.ret | apply ef_block | apply ef_skip | (apply ef_condt; exact rfl; (exact (rfl : true = true))))
        (refine fin1 rfl (by exact rfl) rfl ?_)
        rw [surfE_row (by rw [HZ.out, HD.out]; simp [e])]
    · have HR := Lib.hid (surfE_rest hl (by rw [hz, List.drop_eq_nil_of_le (by omega)]; rfl))
      clear hz
      repeat (first | apply ef_seq | (apply ef_mv; exact rfl; exact rfl) | (apply ef_bin; exact rfl; exact rfl; exact rfl; (exact cmp_f rfl (by simp only [cmpP]; omega))) | (apply ef_len; exact rfl; exact rfl; (assumption)) | apply ef_nil | apply seqQ.normal | apply loopQ.exit | apply ef_exit | apply seqQ.exit | apply blockQ.here | apply ef_block | (apply ef_condf; exact rfl; (exact (rfl : false = false))))
      refine ef_loopf (α := Nat) (fun i => i ≤ s.length ∧ (s.flatten.any fun n => !inB n 0 10000000) = ((s.drop i).flatten.any fun n => !inB n 0 10000000)) (fun i => [(6, I64 (i : Int))]) [(1, _)] (fun _ => _) (fun i => s.length - i) 0 [6] (fun _ => rfl) (by ((repeat (refine Hold.cons (by exact rfl) ?_)); exact Hold.nil)) (by ((repeat (refine Hold.cons (by exact rfl) ?_)); exact Hold.nil)) rfl rfl ⟨by simp, rfl⟩ (by simp; omega) ?_
      rintro i ⟨hi, hz⟩
      try simp only at hi hz ⊢
      by_cases hlt : i < s.length
      · have e1 := at_map encW s i hlt
        have HD := Lib.hid (flat_at2 hlt)
        have HZ := Lib.hid hz
        have hrl := hr _ (List.getElem_mem hlt)
        clear hz
        generalize s[i] = r at e1 HD hrl
        have hsr : (encW r).slen = some r.length := by simp [MV.slen]
        repeat (first | apply ef_seq | (apply ef_mv; exact rfl; exact rfl) | (apply ef_bin; exact rfl; exact rfl; exact rfl; (exact cmp_t rfl (by first | exact rfl | (simp only [cmpP]; omega)))) | (apply ef_len; exact rfl; exact rfl; (assumption)) | apply ef_nil | apply seqQ.normal | apply ef_block | apply ef_skip | (apply ef_condt; exact rfl; (exact (rfl : true = true))))
        refine ef_loopf (α := Nat) (fun j => j ≤ r.length ∧ (r.any fun n => !inB n 0 10000000) = ((r.drop j).any fun n => !inB n 0 10000000)) (fun j => [(7, I64 (j : Int))]) [(1, _), (6, _)] (fun _ => _) (fun j => r.length - j) 0 [7] (fun _ => rfl) (by ((repeat (refine Hold.cons (by exact rfl) ?_)); exact Hold.nil)) (by ((repeat (refine Hold.cons (by exact rfl) ?_)); exact Hold.nil)) rfl rfl ⟨by simp, rfl⟩ (by simp; omega) ?_
        rintro j ⟨hj, hy⟩
        try simp only at hj hy ⊢
        by_cases hlt2 : j < r.length
        · have e2 := at_map I64 r j hlt2
          have HD2 := Lib.hid (drop_at r j hlt2)
          have HY := Lib.hid hy
          clear hy
          generalize r[j] = n at e2 HD2
          cases hb : inB n 0 10000000
          · repeat (first | apply ef_seq | (apply ef_mv; exact rfl; exact rfl) | (apply ef_bin; exact rfl; exact rfl; exact rfl; (exact cmp_t rfl (by first | exact rfl | (simp only [cmpP]; omega)))) | (apply ef_len; exact rfl; exact rfl; (assumption)) | (apply ef_ldr; exact rfl; exact rfl; (exact rfl)) | (apply ef_ias; exact rfl; exact rfl; exact rfl; (omega); assumption; exact rfl) | (apply ef_notF; exact rfl; exact rfl) | apply ef_nil | apply seqQ.normal | apply loopQ.ret | apply ef_ret | apply seqQ.ret | apply blockQ.ret | apply ef_block | apply ef_skip | (apply ef_condt; exact rfl; (exact (rfl : true = true))) | (apply ef_call; exact rfl; ((repeat (apply XVs.cons; exact rfl)); exact XVs.nil); (with_reducible exact Within_c _ _ _ _ _ (by assumption))))
            (refine fin1 rfl (by exact rfl) rfl ?_)
            rw [HR.out, HZ.out, HD.out, List.any_append, HY.out, HD2.out]; simp [hb, unl]
          · repeat (first | apply ef_seq | (apply ef_mv; exact rfl; exact rfl) | (apply ef_bin; exact rfl; exact rfl; exact rfl; (first | exact cmp_t rfl (by first | exact rfl | (simp only [cmpP]; omega)) | ((with_reducible refine bin_add (wrap_of ?_ ?_)) <;> omega))) | (apply ef_len; exact rfl; exact rfl; (assumption)) | (apply ef_ldr; exact rfl; exact rfl; (exact rfl)) | (apply ef_ias; exact rfl; exact rfl; exact rfl; (omega); assumption; exact rfl) | (apply ef_notT; exact rfl; exact rfl) | apply ef_nil | apply seqQ.normal | apply blockQ.normal | apply ef_block | apply ef_skip | (apply ef_condt; exact rfl; (exact (rfl : true = true))) | (apply ef_condf; exact rfl; (exact (rfl : false = false))) | (apply ef_call; exact rfl; ((repeat (apply XVs.cons; exact rfl)); exact XVs.nil); (with_reducible exact Within_c _ _ _ _ _ (by assumption))))
            (refine loopQ.normal _ _ ⟨j + 1, ⟨hlt2, by rw [HY.out, HD2.out]; simp [hb]⟩, (by first | (simp only; omega) | omega), ⟨by ((repeat (refine Hold.cons (by exact rfl) ?_)); exact Hold.nil), by ((repeat (refine Hold.cons (by exact rfl) ?_)); exact Hold.nil)⟩, .inl (Nat.le_refl _), (by first | exact List.take_length | exact rfl | exact takeF rfl rfl)⟩)
        · have HY := Lib.hid (show (r.any fun n => !inB n 0 10000000) = false by rw [hy, List.drop_eq_nil_of_le (by omega)]; rfl)
          clear hy
          repeat (first | apply ef_seq | (apply ef_mv; exact rfl; exact rfl) | (apply ef_bin; exact rfl; exact rfl; exact rfl; (first | exact cmp_f rfl (by simp only [cmpP]; omega) | ((with_reducible refine bin_add (wrap_of ?_ ?_)) <;> omega))) | (apply ef_len; exact rfl; exact rfl; (assumption)) | (apply ef_ldr; exact rfl; exact rfl; (exact rfl)) | (apply ef_ias; exact rfl; exact rfl; exact rfl; (omega); assumption; exact rfl) | apply ef_nil | apply seqQ.normal | apply loopQ.exit | apply ef_exit | apply seqQ.exit | apply blockQ.normal | apply blockQ.here | (apply ef_condf; exact rfl; (exact (rfl : false = false))))
          (refine loopQ.normal _ _ ⟨i + 1, ⟨hlt, by rw [HZ.out, HD.out, List.any_append, HY.out]; rfl⟩, (by first | (simp only; omega) | omega), ⟨by ((repeat (refine Hold.cons (by exact rfl) ?_)); exact Hold.nil), by ((repeat (refine Hold.cons (by exact rfl) ?_)); exact Hold.nil)⟩, .inl (Nat.le_refl _), (by first | exact List.take_length | exact rfl | exact takeF rfl rfl)⟩)
      · repeat (first | apply ef_seq | (apply ef_mv; exact rfl; exact rfl) | (apply ef_bin; exact rfl; exact rfl; exact rfl; (exact cmp_f rfl (by simp only [cmpP]; omega))) | (apply ef_len; exact rfl; exact rfl; (assumption)) | apply ef_nil | apply seqQ.normal | apply loopQ.exit | apply ef_ret | apply ef_exit | apply seqQ.exit | apply blockQ.here | (apply ef_condf; exact rfl; (exact (rfl : false = false))))
        (refine fin1 rfl (by exact rfl) rfl ?_)
        rw [HR.out, hz, List.drop_eq_nil_of_le (by omega)]; rfl
  · repeat (first | apply ef_seq | (apply ef_mv; exact rfl; exact rfl) | (apply ef_bin; exact rfl; exact rfl; exact rfl; (exact cmp_t rfl (by first | exact rfl | (simp only [cmpP]; omega)))) | (apply ef_len; exact rfl; exact rfl; (assumption)) | (apply ef_ldp; exact rfl; exact rfl; (exact rfl); exact rfl; (exact rfl); (exact rfl)) | (apply ef_fap; exact rfl; exact rfl) | (apply ef_box; exact rfl; exact rfl; exact rfl; exact rfl) | apply ef_nil | apply seqQ.normal | apply ef_ret | apply seqQ.ret | (apply ef_condt; exact rfl; (exact (rfl : true = true))))
    (refine fin1 rfl (by exact rfl) rfl ?_)
    rw [surfE_len hl]
end Go.Proofs.Ytgjpdjihjphbdaa

/- Contracts: surfaces are accepted, by the program and by the reference. -/
namespace Go.Proofs.Ytgjpdjihjphbdaa
open Go.RowKit
set_option linter.unusedVariables false
def clM (e : Int × Int × Int) : MV := .tup [posI e.1 e.2.1, I64 e.2.2]
theorem fin_cc {x : MX2} {A : Sl} {h : MHeap} {t u it iu : Nat} {ot ou : MObj} {a b c : Int} (hx : outX x = true) (h1 : look A t = some (.ptr it 0 0 0)) (h2 : h[it]? = some ot) (h3 : ot.g = 0) (h4 : ot.es = [posI a b]) (k1 : look A u = some (.ptr iu 0 0 0)) (k2 : h[iu]? = some ou) (k3 : ou.g = 0) (k4 : ou.es = [I64 c]) : FinF [.cell t (some 2), .cell u none] (clM (a, b, c)) [] x A h :=
  fin_res2 hx ⟨it, 0, 0, 0, ot, _, h1, h2, h3, by rw [h4]; rfl, rd_2 rfl rfl⟩ ⟨iu, 0, 0, 0, ou, _, k1, k2, k3, by rw [k4]; rfl, rfl⟩ rfl rfl
end Go.Proofs.Ytgjpdjihjphbdaa

/- The contract of ForceOn. -/
namespace Go.Proofs.Ytgjpdjihjphbdaa
open Go.RowKit
set_option linter.unusedVariables false
def hitF (t : Tk) (f : Nd → Option Nat) (a : Int) (p : Nd) : Bool :=
  match f p with
  | some k => decide (t.need p.1 p.2 - (k : Int) * t.cb = a)
  | none => false
theorem nodesP_pw (W : Nat) : ∀ H, (nodesP H W).Pairwise fun a b => a.1 < b.1 ∨ (a.1 = b.1 ∧ a.2 < b.2)
  | 0 => by simp [nodesP]
  | H + 1 => by
    rw [nodesP_succ, List.pairwise_append]
    refine ⟨nodesP_pw W H, ?_, fun a ha b hb => ?_⟩
    · rw [List.pairwise_map]
      exact List.pairwise_lt_range.imp fun h => .inr ⟨rfl, h⟩
    · obtain ⟨a1, a2⟩ := a
      obtain ⟨x, hx, rfl⟩ := List.mem_map.1 hb
      exact .inl (nodesP_mem.1 ha).1
structure FstN (t : Tk) (hit : Nd → Bool) (p : Nd) : Prop where
  yes : hit p = true
  y : p.1 < t.ter.length
  x : p.2 < t.W
  no : ∀ q : Nd, q.1 < t.ter.length → q.2 < t.W → (q.1 < p.1 ∨ (q.1 = p.1 ∧ q.2 < p.2)) → hit q = false
theorem FstN.at {t : Tk} {hit : Nd → Bool} {p : Nd} (hp : FstN t hit p) : ∃ i : Nat, (nodesP t.ter.length t.W)[i]? = some p ∧ ∀ (j : Nat) (q : Nd), j < i → (nodesP t.ter.length t.W)[j]? = some q → hit q = false := by
  have hm : p ∈ nodesP t.ter.length t.W := by obtain ⟨a, b⟩ := p; exact nodesP_mem.2 ⟨hp.y, hp.x⟩
  obtain ⟨i, hi⟩ := List.getElem?_of_mem hm
  refine ⟨i, hi, fun j q hj hq => ?_⟩
  obtain ⟨l1, e1⟩ := List.getElem?_eq_some_iff.1 hi
  obtain ⟨l2, e2⟩ := List.getElem?_eq_some_iff.1 hq
  have h1 := List.pairwise_iff_getElem.1 (nodesP_pw t.W t.ter.length) j i l2 l1 hj
  rw [e1, e2] at h1
  have h2 : q.1 < t.ter.length ∧ q.2 < t.W := by
    have := List.mem_of_getElem? hq
    obtain ⟨a, b⟩ := q; exact nodesP_mem.1 this
  exact hp.no q h2.1 h2.2 h1
theorem first_node {t : Tk} {hit : Nd → Bool} {p0 : Nd} (h0 : hit p0 = true) (hy : p0.1 < t.ter.length) (hx : p0.2 < t.W) : ∃ p : Nd, FstN t hit p := by
  cases hf : (nodesP t.ter.length t.W).find? hit with
  | none =>
    have := List.find?_eq_none.1 hf p0 (by obtain ⟨a, b⟩ := p0; exact nodesP_mem.2 ⟨hy, hx⟩)
    exact absurd h0 this
  | some p =>
    obtain ⟨hp, as1, bs, he, hn⟩ := List.find?_eq_some_iff_append.1 hf
    have hm : p ∈ nodesP t.ter.length t.W := by rw [he]; simp
    have hpw := nodesP_pw t.W t.ter.length
    have hb : p.1 < t.ter.length ∧ p.2 < t.W := by obtain ⟨a, b⟩ := p; exact nodesP_mem.1 hm
    refine ⟨p, hp, hb.1, hb.2, fun q h1 h2 h3 => ?_⟩
    have hqm : q ∈ nodesP t.ter.length t.W := by obtain ⟨a, b⟩ := q; exact nodesP_mem.2 ⟨h1, h2⟩
    rw [he] at hqm hpw
    rcases List.mem_append.1 hqm with hqm | hqm
    · simpa using hn q hqm
    · rcases List.mem_cons.1 hqm with rfl | hqm
      · omega
      · have := (List.pairwise_cons.1 (List.pairwise_append.1 hpw).2.1).1 q hqm
        omega
theorem hit_some {t : Tk} {s : Nd} {f : Nd → Option Nat} {L : List (List Int)} (hf : Dst t s f) (hL : Lea t L) (hc : 0 ≤ t.cb) : ∃ p, hitF t f (atP L s) p = true ∧ p.1 < t.ter.length ∧ p.2 < t.W := by
  obtain ⟨p, k, h1, h2⟩ := hf.force hL hc
  have hp := hf.rng p k h1
  refine ⟨p, ?_, hp.1, hp.2.1⟩
  unfold hitF
  rw [h1]
  simp only [decide_eq_true_eq]
  unfold Tk.needP at h2
  rw [Int.mul_comm]
  exact h2
abbrev foH (t : Tk) (s : Nd) (L : List (Nd × Nat)) (g : List (List Int)) (a : Int) : MHeap := [⟨0, false, 5, [encT t]⟩, ⟨0, false, 2, [posM s]⟩, ⟨0, false, 2, [posI 0 0]⟩, ⟨0, false, 1, [I64 0]⟩, ⟨0, false, 9, [encO t]⟩, ⟨0, false, 1, [I64 a]⟩, ⟨0, false, 1, g.map encW⟩, ⟨0, false, 1, [.rm (L.map entM)]⟩]
theorem foH_cl (t : Tk) (s : Nd) (L : List (Nd × Nat)) (g : List (List Int)) (a : Int) (X : MHeap) : Cl 8 (foH t s L g a ++ X) := by
  refine ⟨by simp, fun j o hj ho => ?_⟩
  match j, hj with
  | 0, _ => cases ho; simp [ltL, MV.lt, ltL_I, ltL_W]
  | 1, _ => cases ho; rfl
  | 2, _ => cases ho; rfl
  | 3, _ => cases ho; rfl
  | 4, _ => cases ho; simp [ltL, MV.lt, ltL_I, ltL_W, ltL_B]
  | 5, _ => cases ho; rfl
  | 6, _ => cases ho; exact ltL_W 8 g
  | 7, _ => cases ho; simp [ltL, MV.lt, entM_lt]
theorem mf_ForceOn : MT.mf 45 = some ⟨65, [(.cell 4 (some 2)), (.cell 5 none)], (.seq (.reg [⟨none, some 2, .box 5 (.s 0)⟩, ⟨none, some 3, .box 2 (.s 1)⟩, ⟨none, some 4, .new (.agg [(.lit (.int .i64 0)), (.lit (.int .i64 0))])⟩, ⟨none, some 5, .new (.lit (.int .i64 0))⟩]) (.seq (.reg [⟨none, some 14, .ld (some 5) (.s 2)⟩, ⟨none, some 15, .call 113 [.s 14]⟩, ⟨none, some 13, .mv (.s 15)⟩, ⟨none, some 16, .ext (.s 13) 0⟩, ⟨none, some 17, .ext (.s 13) 1⟩, ⟨none, some 6, .new (.agg [(.lit (.slice none 0 0)), (.lit (.slice none 0 0)), (.lit (.slice none 0 0)), (.lit (.int .i64 0)), (.lit (.int .i64 0)), (.lit (.int .i64 0)), (.lit (.int .i64 0)), (.lit (.slice none 0 0)), (.lit (.slice none 0 0))])⟩, ⟨none, none, .st 9 (.s 6) (.s 16)⟩, ⟨none, some 7, .mv (.s 17)⟩]) (.seq (.seq (.reg [⟨none, some 18, .mv (.s 7)⟩, ⟨none, some 19, .bin .eql (.s 18) (.c (.lit (.int .i64 0)))⟩]) (.cond (.s 19) (.reg [⟨none, some 20, .ld (some 9) (.s 6)⟩, ⟨none, some 21, .ld (some 2) (.s 3)⟩, ⟨none, some 22, .call 116 [.s 20, .s 21]⟩, ⟨none, some 23, .call 93 [.s 22, (.c (.lit (.int .i64 6)))]⟩, ⟨none, some 7, .mv (.s 23)⟩]) .skip)) (.seq (.seq (.reg [⟨none, some 24, .mv (.s 7)⟩, ⟨none, some 25, .bin .neq (.s 24) (.c (.lit (.int .i64 0)))⟩]) (.cond (.s 25) (.seq (.reg [⟨none, some 26, .build [(.lit (.int .i64 0)), (.lit (.int .i64 0))] []⟩, ⟨none, some 27, .mv (.s 7)⟩, ⟨none, none, .st 2 (.s 4) (.s 26)⟩, ⟨none, none, .st 1 (.s 5) (.s 27)⟩]) .ret) .skip)) (.seq (.reg [⟨none, some 8, .new (.lit (.int .i64 0))⟩, ⟨none, some 28, .ld (some 9) (.s 6)⟩, ⟨none, some 29, .call 115 [.s 28]⟩, ⟨none, some 30, .fa 1 (.s 3)⟩, ⟨none, some 31, .ld none (.s 30)⟩, ⟨none, some 32, .ia 1 (.s 29) (.s 31)⟩, ⟨none, some 33, .ld none (.s 32)⟩, ⟨none, some 34, .fa 0 (.s 3)⟩, ⟨none, some 35, .ld none (.s 34)⟩, ⟨none, some 36, .ia 1 (.s 33) (.s 35)⟩, ⟨none, some 37, .ld none (.s 36)⟩, ⟨none, some 8, .nilck (.s 8)⟩, ⟨none, none, .st 1 (.s 8) (.s 37)⟩]) (.seq (.reg [⟨none, some 38, .ld (some 9) (.s 6)⟩, ⟨none, some 39, .ld (some 2) (.s 3)⟩, ⟨none, some 40, .call 120 [.s 38, .s 39]⟩, ⟨none, some 9, .new (.lit (.map none))⟩, ⟨none, none, .st 1 (.s 9) (.s 40)⟩]) (.seq (.seq (.reg [⟨none, some 41, .ld (some 9) (.s 6)⟩, ⟨none, some 42, .mf 114 1 [.s 41]⟩]) (.block 0 (.rf [9, 6, 2, 8, 4, 5] (.s 42) [43] (.reg [⟨none, some 10, .new (.agg [(.lit (.int .i64 0)), (.lit (.int .i64 0))])⟩, ⟨none, none, .st 2 (.s 10) (.s 43)⟩]) (.block 1 (.seq (.reg [⟨none, some 45, .ld none (.s 9)⟩, ⟨none, some 46, .ld (some 2) (.s 10)⟩, ⟨none, some 47, .mlk 2 (.lit (.int .i64 0)) true (.s 45) (.s 46)⟩, ⟨none, some 44, .mv (.s 47)⟩, ⟨none, some 48, .ext (.s 44) 0⟩, ⟨none, some 49, .ext (.s 44) 1⟩, ⟨none, some 11, .mv (.s 48)⟩, ⟨none, some 12, .mv (.s 49)⟩]) (.seq (.reg [⟨none, some 50, .mv (.s 12)⟩, ⟨none, some 51, .mv (.s 50)⟩, ⟨some (51, true), some 52, .ld (some 9) (.s 6)⟩, ⟨some (51, true), some 53, .ld (some 2) (.s 10)⟩, ⟨some (51, true), some 54, .call 117 [.s 52, .s 53]⟩, ⟨some (51, true), some 55, .mv (.s 11)⟩, ⟨some (51, true), some 56, .fa 4 (.s 2)⟩, ⟨some (51, true), some 57, .ld none (.s 56)⟩, ⟨some (51, true), some 58, .bin .mul (.s 55) (.s 57)⟩, ⟨some (51, true), some 59, .bin .sub (.s 54) (.s 58)⟩, ⟨some (51, true), some 60, .ld none (.s 8)⟩, ⟨some (51, true), some 61, .bin .eql (.s 59) (.s 60)⟩, ⟨none, some 62, .pick (.s 51) (.s 61) (.c (.lit (.bool false)))⟩]) (.cond (.s 62) (.seq (.reg [⟨none, some 63, .ld (some 2) (.s 10)⟩, ⟨none, none, .st 2 (.s 4) (.s 63)⟩, ⟨none, none, .st 1 (.s 5) (.c (.lit (.int .i64 0)))⟩]) .ret) .skip))))))) (.seq (.reg [⟨none, some 64, .ld (some 2) (.s 3)⟩, ⟨none, none, .st 2 (.s 4) (.s 64)⟩, ⟨none, none, .st 1 (.s 5) (.c (.lit (.int .i64 0)))⟩]) .ret))))))))⟩ := by kernel_rfl
set_option maxHeartbeats 4000000 in
theorem ForceOn_z (k : Nat) {t : Tk} (hb : Bd t) (h0 : (taskF id t).2 = 0) {sy sx : Nat} (hs : t.inP (sy, sx)) {g : List (List Int)} (hg : Lea t g) {ff : Nd → Option Nat} (hD : Dst t (sy, sx) ff) {p : Nd} (hp : FstN t (hitF t ff (at2 g sy sx)) p) :
    runZ MT (orA (k + 7)) (itA (k + 7)) 4000000 45 [encT t, posM (sy, sx)] [] = some (clM ((p.2 : Int), (p.1 : Int), 0), []) := by
  have ok := (task_ok h0).1
  have ho := fun h => open_ok k hb h0 h
  have hl := fun h => lowest_c (k + 2) t ok hg h
  obtain ⟨L, hL, hvl, hst⟩ := steps_c (k + 2) t ok hs
  have hff : ff = mF L := funext fun q => hD.uniq hL q
  subst hff
  obtain ⟨h1, h2⟩ := ok.h1
  obtain ⟨w1, w2⟩ := ok.w1
  obtain ⟨c1, c2⟩ := ok.cb
  have hy0 : sy < t.ter.length := hs.1
  have hx0 : sx < t.W := hs.2.1
  have hfl := fun h => flown_c (k + 4) t (sx : Int) (sy : Int) h (by omega) (by omega) ((t.flI_nat hs.1 hs.2.1).trans hs.2.2)
  have hun := fun h => unless_c (k + 6) true 6 h (e := 0) rfl
  have hgl := hg.1.sh.hl
  have hgw := hg.1.sh.row hs.1
  have hyg : sy < g.length := by rw [hgl]; exact hs.1
  have e1 : (g.map encW)[0 + ((sy : Nat) : Int).toNat]? = some (encW (g.getD sy [])) := by
    rw [Nat.zero_add, Int.toNat_natCast, List.getElem?_map, List.getD_eq_getElem?_getD, List.getElem?_eq_getElem hyg]; rfl
  have e2 : ((g.getD sy []).map I64)[((sx : Nat) : Int).toNat]? = some (I64 (at2 g sy sx)) := cell_at (by simp only at hgw; omega)
  obtain ⟨a1, a2⟩ := ok.top hg.pre sy sx hs.1 hs.2.1
  refine runZ_of mf_ForceOn (by simp) ?_
  simp only [argsL]
  repeat (first | apply ef_seq | (apply ef_mv; exact rfl; exact rfl) | (apply ef_bin; exact rfl; exact rfl; exact rfl; (first | exact cmp_t rfl (by first | exact rfl | (simp only [cmpP]; omega)) | exact cmp_f rfl (by simp only [cmpP]; omega))) | (apply ef_ldr; exact rfl; exact rfl; (exact rfl)) | (apply ef_ldp; exact rfl; exact rfl; (exact rfl); exact rfl; (first | exact rfl | assumption); (first | exact rd_2 rfl rfl | exact rd_5 rfl rfl rfl rfl rfl | exact rd_whole rfl | exact rfl)) | (apply ef_ias; exact rfl; exact rfl; exact rfl; (omega); assumption; exact rfl) | (apply ef_iaa; exact rfl; exact rfl; exact rfl; (omega); (omega); (exact rfl)) | (apply ef_fap; exact rfl; exact rfl) | (apply ef_ext; exact rfl; exact rfl; exact rfl) | (apply ef_box; exact rfl; exact rfl; exact rfl; exact rfl) | (apply ef_newst; exact rfl; exact rfl; exact rfl; exact rfl; exact rfl) | (apply ef_new; exact rfl) | (apply ef_mf; exact rfl; (repeat (apply XVs.cons; exact rfl)); exact XVs.nil) | (apply ef_nilck; exact rfl; exact rfl; exact rfl) | (apply ef_st; exact rfl; exact rfl; exact rfl; exact rfl; exact rfl; exact rfl; (exact rfl); exact rfl) | apply ef_nil | apply seqQ.normal | apply ef_block | apply ef_skip | (apply ef_condt; exact rfl; (exact (rfl : true = true))) | (apply ef_condf; exact rfl; (exact (rfl : false = false))) | (apply ef_call; exact rfl; ((repeat (apply XVs.cons; exact rfl)); exact XVs.nil); (with_reducible first | exact ho _ | exact hfl _ | exact hun _ | exact hl _ | exact hst _)))
  obtain ⟨i0, hi0, hno⟩ := hp.at
  have hyes := hp.yes
  clear ho hl hst hfl hun e1 e2 hgw hyg hD
  refine ef_rf (α := MHeap) (ids := []) (fun i X => i ≤ i0) [(9, .ptr 7 0 0 0), (6, .ptr 4 0 0 0), (2, .ptr 0 0 0 0), (8, .ptr 5 0 0 0), (4, .ptr 2 0 0 0), (5, .ptr 3 0 0 0)] (fun X => foH t (sy, sx) L g (at2 g sy sx) ++ X) (fun X => foH t (sy, sx) L g (at2 g sy sx))
    [] (by exact rfl) (nodes_it (k + 7) t ok _) (by simp [posY]) (idsL_lt0 (by simp [ltL, MV.lt, ltL_I, ltL_W, ltL_B])) (by ((repeat (refine Hold.cons (by exact rfl) ?_)); exact Hold.nil)) rfl rfl rfl (Nat.zero_le _) rfl ?_ ?_ ?_
  · rintro i X _
    refine HeadIs.tkE X rfl rfl (foH_cl t (sy, sx) L g (at2 g sy sx) X) fun u hu => ?_
    simp only [List.mem_cons, List.not_mem_nil, or_false] at hu
    rcases hu with rfl | rfl | rfl | rfl | rfl | rfl
    · exact ⟨.ptr 7 0 0 0, by exact rfl, by simp [MV.lt]⟩
    · exact ⟨.ptr 4 0 0 0, by exact rfl, by simp [MV.lt]⟩
    · exact ⟨.ptr 0 0 0 0, by exact rfl, by simp [MV.lt]⟩
    · exact ⟨.ptr 5 0 0 0, by exact rfl, by simp [MV.lt]⟩
    · exact ⟨.ptr 2 0 0 0, by exact rfl, by simp [MV.lt]⟩
    · exact ⟨.ptr 3 0 0 0, by exact rfl, by simp [MV.lt]⟩
  · rintro i X x' hx' hi
    simp only at hi ⊢
    obtain ⟨⟨y, x⟩, hpi, rfl⟩ : ∃ p, (nodesP t.ter.length t.W)[i]? = some p ∧ x' = [posM p] := by
      simp only [posY, List.getElem?_map, Option.map_eq_some_iff] at hx'
      obtain ⟨w, h1, h2⟩ := hx'
      exact ⟨w, h1, h2.symm⟩
    obtain ⟨hy, hxw⟩ := nodesP_mem.1 (List.mem_of_getElem? hpi)
    have hnx : hitF t (mF L) (at2 g sy sx) (y, x) = false → i + 1 ≤ i0 := fun hn => by
      by_cases e : i = i0
      · subst e
        rw [hpi] at hi0
        cases hi0
        rw [hyes] at hn
        cases hn
      · omega
    have hhit : hitF t (mF L) (at2 g sy sx) (y, x) = true → (y, x) = p := fun hn => by
      by_cases e : i = i0
      · subst e
        rw [hpi] at hi0
        cases hi0
        rfl
      · have := hno i (y, x) (by omega) hpi
        rw [hn] at this; cases this
    obtain ⟨n1, n2⟩ := ok.need hy hxw
    simp only [putA]
    clear hx' hpi hi0 hno
    repeat (first | (apply ef_newst; exact rfl; exact rfl; exact rfl; exact rfl; exact rfl) | apply ef_nil)
    apply preQ.normal
    cases hm : mF L (y, x) with
    | none =>
      have hf1 := mfind_none hm
      repeat (first | apply ef_seq | (apply ef_mv; exact rfl; exact rfl) | (apply ef_gn; exact rfl; (exact (rfl : false = false)); exact rfl) | (apply ef_pick; exact rfl; exact rfl; exact rfl) | (apply ef_ldp; exact rfl; exact rfl; (exact rfl); exact rfl; (exact rfl); (first | exact rd_2 rfl rfl | exact rfl)) | (apply ef_ext; exact rfl; exact rfl; exact rfl) | (apply ef_mlk; exact rfl; exact rfl; exact rfl; (exact rfl); exact rfl; (assumption); exact rfl) | apply ef_nil | apply seqQ.normal | apply blockQ.normal | apply ef_block | apply ef_skip | (apply ef_condf; exact rfl; (exact (rfl : false = false))))
      apply rfQ.normal
      exact ⟨[⟨0, false, 2, [posM (y, x)]⟩], hnx (by simp [hitF, hm]), rfl⟩
    | some k0 =>
      obtain ⟨j1, hf1⟩ := mfind_some hm
      have hk := hvl _ _ hm
      have hown := fun h => own_c (k + 6) t ok hy hxw h
      have hm1 : 0 ≤ (k0 : Int) * t.cb := Int.mul_nonneg (by omega) c1
      have hm2 : (k0 : Int) * t.cb ≤ 144 * 10000 := Int.mul_le_mul (by omega) c2 c1 (by omega)
      by_cases hr : t.need y x - (k0 : Int) * t.cb = at2 g sy sx
      · have hpe := hhit (by simp [hitF, hm, hr])
        subst hpe
        repeat (first | apply ef_seq | (apply ef_mv; exact rfl; exact rfl) | (apply ef_bin; exact rfl; exact rfl; exact rfl; (first | exact cmp_t rfl (by first | exact rfl | (simp only [cmpP]; omega)) | ((with_reducible refine bin_sub (wrap_of ?_ ?_)) <;> omega) | ((with_reducible refine bin_mul (wrap_of ?_ ?_)) <;> omega))) | (apply ef_gy; exact rfl; (exact (rfl : true = true))) | (apply ef_pick; exact rfl; exact rfl; exact rfl) | (apply ef_ldp; exact rfl; exact rfl; (exact rfl); exact rfl; (exact rfl); (first | exact rd_2 rfl rfl | exact rd_whole rfl | exact rfl)) | (apply ef_fap; exact rfl; exact rfl) | (apply ef_ext; exact rfl; exact rfl; exact rfl) | (apply ef_mlk; exact rfl; exact rfl; exact rfl; (exact rfl); exact rfl; (assumption); exact rfl) | (apply ef_st; exact rfl; exact rfl; exact rfl; exact rfl; exact rfl; exact rfl; (exact rfl); exact rfl) | apply ef_nil | apply seqQ.normal | apply ef_ret | apply blockQ.ret | apply ef_block | (apply ef_condt; exact rfl; (exact (rfl : true = true))) | (apply ef_call; exact rfl; ((repeat (apply XVs.cons; exact rfl)); exact XVs.nil); (with_reducible exact hown _)))
        apply rfQ.ret
        repeat (first | apply seqQ.ret | apply blockQ.ret)
        (apply fin_cc; (· exact rfl); (· exact rfl); (· exact rfl); (· exact rfl); (· exact rfl); (· exact rfl); (· exact rfl); (· exact rfl); (· exact rfl))
      · repeat (first | apply ef_seq | (apply ef_mv; exact rfl; exact rfl) | (apply ef_bin; exact rfl; exact rfl; exact rfl; (first | exact cmp_f rfl (by simp only [cmpP]; omega) | ((with_reducible refine bin_sub (wrap_of ?_ ?_)) <;> omega) | ((with_reducible refine bin_mul (wrap_of ?_ ?_)) <;> omega))) | (apply ef_gy; exact rfl; (exact (rfl : true = true))) | (apply ef_pick; exact rfl; exact rfl; exact rfl) | (apply ef_ldp; exact rfl; exact rfl; (exact rfl); exact rfl; (exact rfl); (first | exact rd_2 rfl rfl | exact rd_whole rfl | exact rfl)) | (apply ef_fap; exact rfl; exact rfl) | (apply ef_ext; exact rfl; exact rfl; exact rfl) | (apply ef_mlk; exact rfl; exact rfl; exact rfl; (exact rfl); exact rfl; (assumption); exact rfl) | apply ef_nil | apply seqQ.normal | apply blockQ.normal | apply ef_block | apply ef_skip | (apply ef_condf; exact rfl; (exact (rfl : false = false))) | (apply ef_call; exact rfl; ((repeat (apply XVs.cons; exact rfl)); exact XVs.nil); (with_reducible exact hown _)))
        apply rfQ.normal
        exact ⟨[⟨0, false, 2, [posM (y, x)]⟩], hnx (by simp [hitF, hm, hr]), rfl⟩
  · rintro X hX
    have := (List.getElem?_eq_some_iff.1 hi0).1
    simp [posY] at hX
    omega
theorem ForceOn_ok (k : Nat) {t : Tk} (hb : Bd t) (h0 : (taskF id t).2 = 0) {sy sx : Nat} (hs : t.inP (sy, sx)) {g : List (List Int)} (hg : Lea t g) {ff : Nd → Option Nat} (hD : Dst t (sy, sx) ff) {p : Nd} (hp : FstN t (hitF t ff (at2 g sy sx)) p) (h : MHeap) :
    orA (k + 8) 45 [encT t, posM (sy, sx)] h = some (clM ((p.2 : Int), (p.1 : Int), 0), h) := by
  have := callA (k := k + 7) (h := h) (frzL_lt (ms := [encT t, posM (sy, sx)]) (by simp [ltL, MV.lt, ltL_I, ltL_W])) rfl (ForceOn_z k hb h0 hs hg hD hp) (by simp [clM, okV, ok1, ltL, MV.lt, MV.pure, pureL]) rfl
  simpa [shV, sh1, clM] using this
end Go.Proofs.Ytgjpdjihjphbdaa

/- The contract of the reference's force. -/
namespace Go.Proofs.Ytgjpdjihjphbdaa
open Go.RowKit
set_option linter.unusedVariables false
theorem encW_at {g : List (List Int)} {y : Nat} (h : y < g.length) : (g.map encW)[0 + ((y : Nat) : Int).toNat]? = some (encW (g.getD y [])) := by
  rw [Nat.zero_add, Int.toNat_natCast, List.getElem?_map, List.getD_eq_getElem?_getD, List.getElem?_eq_getElem h]; rfl
theorem stG_len (t : Tk) (f : Nd → Option Nat) : (stG t f).length = t.ter.length := by simp [stG]
theorem stG_w {t : Tk} {f : Nd → Option Nat} {y : Nat} (hy : y < t.ter.length) : ((stG t f).getD y []).length = t.W := by rw [stG_row hy]; simp
end Go.Proofs.Ytgjpdjihjphbdaa

/- Runs of fixes off the track, reasons, spoilt pieces (no program). -/
namespace Go.Proofs.Ytgjpdjihjphbdaa
def offB (drift : Int) (f : Fx) : Bool := !inB f.o (0 - drift) drift
def offA (drift : Int) (fs : List Fx) (j : Nat) : Bool := (fs[j]?).any (offB drift)
def upN (o : Nat → Bool) : Nat → Nat
  | 0 => if o 0 then 1 else 0
  | i + 1 => if o (i + 1) then upN o i + 1 else 0
def dnN (o : Nat → Bool) : Nat → Nat → Nat
  | 0, _ => 0
  | f + 1, i => if o (i + 1) then dnN o f (i + 1) + 1 else 0
def runR (o : Nat → Bool) (n i : Nat) : Nat := if o i then upN o i + dnN o (n - 1 - i) i else 0
def reasonOf (r : Ru) (fs : List Fx) (i : Nat) : Int :=
  match fs[i]? with
  | some f => if f.h < r.low then 1 else if r.high < f.h then 2 else if r.noise < f.n then 3 else if r.over < (runR (offA r.drift fs) fs.length i : Int) then 4 else 0
  | none => 0
def reasonsL (r : Ru) (fs : List Fx) : List Int := (List.range fs.length).map (reasonOf r fs)
theorem upN_pos {o : Nat → Bool} {i : Nat} (h : o i = true) : 0 < upN o i := by
  cases i <;> simp [upN, h]
theorem upN_zero {o : Nat → Bool} {i : Nat} (h : o i = false) : upN o i = 0 := by
  cases i <;> simp [upN, h]
theorem upN_le (o : Nat → Bool) : ∀ i, upN o i ≤ i + 1
  | 0 => by simp only [upN]; split <;> omega
  | i + 1 => by
    have := upN_le o i
    simp only [upN]; split <;> omega
theorem runR_step {o : Nat → Bool} {n i : Nat} (h : i + 1 < n) (ho : o i = true) : (runR o n i : Int) = mx (upN o i : Int) (runR o n (i + 1) : Int) := by
  rw [mx_eq]
  unfold runR
  obtain ⟨f, hf⟩ : ∃ f, n - 1 - i = f + 1 := ⟨n - 2 - i, by omega⟩
  have hf2 : n - 1 - (i + 1) = f := by omega
  rw [hf, hf2]
  simp only [ho, if_true, dnN]
  by_cases h1 : o (i + 1) = true
  · simp only [h1, if_true, upN]; omega
  · simp only [h1]
    simp
theorem runR_last {o : Nat → Bool} {n i : Nat} (h : i + 1 = n) : runR o n i = upN o i := by
  unfold runR
  have : n - 1 - i = 0 := by omega
  rw [this]
  by_cases h1 : o i = true
  · simp [h1, dnN]
  · simp only [h1]
    rw [upN_zero (by simpa using h1)]; rfl
def spStep (acc : List (Int × Int)) (i : Nat) (x : Int) : List (Int × Int) :=
  if x = 0 then acc else match acc.getLast? with
    | some p => if p.2 = (i : Int) - 1 then acc.dropLast ++ [(p.1, (i : Int))] else acc ++ [((i : Int), (i : Int))]
    | none => acc ++ [((i : Int), (i : Int))]
def spoiltF : List (Int × Int) → Nat → List Int → List (Int × Int)
  | acc, _, [] => acc
  | acc, i, x :: xs => spoiltF (spStep acc i x) (i + 1) xs
end Go.Proofs.Ytgjpdjihjphbdaa

/- Contracts of the program: the reasons of fixes. -/
namespace Go.Proofs.Ytgjpdjihjphbdaa
open Go.RowKit
def fixE (r : Ru) (fs : List Fx) : Int := firstE [rulesE r, fixesE fs]
theorem inB_out {a b c : Int} (h : inB a b c = true) : b ≤ a ∧ a ≤ c := by simpa [inB] using h
theorem fixE_ok {r : Ru} {fs : List Fx} (h : fixE r fs = 0) : rulesE r = 0 ∧ fixesE fs = 0 := by
  unfold fixE at h
  by_cases h1 : rulesE r = 0
  · rw [h1] at h
    refine ⟨h1, ?_⟩
    by_cases h2 : fixesE fs = 0
    · exact h2
    · simp [firstE, h2] at h
  · simp [firstE, h1] at h
theorem rulesE_ok {r : Ru} (h : rulesE r = 0) : (0 ≤ r.drift ∧ r.drift ≤ 10000) ∧ (0 ≤ r.over ∧ r.over ≤ 200) ∧ (0 ≤ r.low ∧ r.low ≤ 10000) ∧ (0 ≤ r.high ∧ r.high ≤ 10000) ∧ (0 ≤ r.noise ∧ r.noise ≤ 10000) ∧ r.low ≤ r.high := by
  unfold rulesE at h
  cases hb : (inB r.drift 0 10000 && inB r.low 0 10000 && inB r.high 0 10000 && inB r.noise 0 10000 && inB r.over 0 200)
  · rw [hb] at h; simp [unl, firstE] at h
  · rw [hb] at h
    simp only [Bool.and_eq_true] at hb
    obtain ⟨⟨⟨⟨h1, h2⟩, h3⟩, h4⟩, h5⟩ := hb
    refine ⟨inB_out h1, inB_out h5, inB_out h2, inB_out h3, inB_out h4, ?_⟩
    by_cases h6 : r.low ≤ r.high
    · exact h6
    · simp [unl, firstE, h6] at h
theorem offA_at (d : Int) (fs : List Fx) (i : Nat) (h : i < fs.length) : offA d fs i = offB d fs[i] := by
  simp [offA, List.getElem?_eq_getElem h]
theorem mf_ReasonsOf : MT.mf 78 = some ⟨121, [(.tmp 4), (.tmp 5)], (.seq (.reg [⟨none, some 2, .box 5 (.s 0)⟩, ⟨none, some 4, .nil0 1⟩, ⟨none, some 5, .mv (.c (.lit (.int .i64 0)))⟩]) (.seq (.seq (.reg [⟨none, some 15, .ld (some 5) (.s 2)⟩, ⟨none, some 16, .call 82 [.s 15]⟩, ⟨none, some 17, .mv (.s 1)⟩, ⟨none, some 18, .call 145 [.s 17]⟩, ⟨none, some 19, .bsl (.lit (.int .i64 0)) 1 2 [(0, (.s 16)), (1, (.s 18))]⟩, ⟨none, some 20, .call 92 [.s 19]⟩, ⟨none, some 6, .mv (.s 20)⟩]) (.seq (.reg [⟨none, some 21, .mv (.s 6)⟩, ⟨none, some 22, .bin .neq (.s 21) (.c (.lit (.int .i64 0)))⟩]) (.cond (.s 22) (.seq (.reg [⟨none, some 23, .mv (.s 6)⟩, ⟨none, some 4, .nil0 1⟩, ⟨none, some 5, .mv (.s 23)⟩]) .ret) .skip))) (.seq (.reg [⟨none, some 24, .mv (.s 1)⟩, ⟨none, some 25, .len (.s 24)⟩, ⟨none, some 26, .mks (.lit (.int .i64 0)) (.s 25)⟩, ⟨none, some 7, .mv (.s 26)⟩]) (.seq (.seq (.reg [⟨none, some 27, .mv (.s 1)⟩, ⟨none, some 28, .len (.s 27)⟩, ⟨none, some 29, .mv (.c (.lit (.int .i64 0)))⟩]) (.block 0 (.loop [29, 28, 27, 2, 7, 1] (.seq (.reg [⟨none, some 30, .bin .lss (.s 29) (.s 28)⟩]) (.seq (.cond (.s 30) .skip (.exit 0)) (.seq (.block 1 (.seq (.reg [⟨none, some 31, .mv (.s 29)⟩, ⟨none, some 32, .ia 3 (.s 27) (.s 29)⟩, ⟨none, some 33, .ld (some 3) (.s 32)⟩, ⟨none, some 9, .new (.agg [(.lit (.int .i64 0)), (.lit (.int .i64 0)), (.lit (.int .i64 0))])⟩, ⟨none, some 8, .mv (.s 31)⟩, ⟨none, none, .st 3 (.s 9) (.s 33)⟩]) (.seq (.reg [⟨none, some 34, .fa 0 (.s 9)⟩, ⟨none, some 35, .ld none (.s 34)⟩, ⟨none, some 36, .fa 0 (.s 2)⟩, ⟨none, some 37, .ld none (.s 36)⟩, ⟨none, some 38, .call 146 [.s 35, .s 37]⟩, ⟨none, some 39, .un .not (.s 38)⟩]) (.cond (.s 39) (.seq (.reg [⟨none, some 40, .mv (.s 7)⟩, ⟨none, some 41, .mv (.s 8)⟩, ⟨none, some 42, .ia 1 (.s 40) (.s 41)⟩, ⟨none, none, .st 1 (.s 42) (.c (.lit (.int .i64 1)))⟩]) (.seq (.reg [⟨none, some 43, .mv (.s 8)⟩, ⟨none, some 44, .bin .gtr (.s 43) (.c (.lit (.int .i64 0)))⟩]) (.cond (.s 44) (.reg [⟨none, some 45, .mv (.s 7)⟩, ⟨none, some 46, .mv (.s 8)⟩, ⟨none, some 47, .ia 1 (.s 45) (.s 46)⟩, ⟨none, some 48, .ld none (.s 47)⟩, ⟨none, some 49, .mv (.s 7)⟩, ⟨none, some 50, .mv (.s 8)⟩, ⟨none, some 51, .bin .sub (.s 50) (.c (.lit (.int .i64 1)))⟩, ⟨none, some 52, .ia 1 (.s 49) (.s 51)⟩, ⟨none, some 53, .ld none (.s 52)⟩, ⟨none, some 54, .bin .add (.s 48) (.s 53)⟩, ⟨none, some 55, .ia 1 (.s 45) (.s 46)⟩, ⟨none, none, .st 1 (.s 55) (.s 54)⟩]) .skip))) .skip)))) (.reg [⟨none, some 56, .bin .add (.s 29) (.c (.lit (.int .i64 1)))⟩, ⟨none, some 29, .mv (.s 56)⟩]))))))) (.seq (.seq (.reg [⟨none, some 57, .mv (.s 1)⟩, ⟨none, some 58, .len (.s 57)⟩, ⟨none, some 59, .bin .sub (.s 58) (.c (.lit (.int .i64 2)))⟩, ⟨none, some 10, .mv (.s 59)⟩]) (.block 2 (.loop [10, 7, 1, 2] (.seq (.seq (.reg [⟨none, some 60, .mv (.s 10)⟩, ⟨none, some 61, .bin .geq (.s 60) (.c (.lit (.int .i64 0)))⟩]) (.cond (.s 61) .skip (.exit 2))) (.seq (.block 3 (.seq (.reg [⟨none, some 64, .mv (.s 7)⟩, ⟨none, some 65, .mv (.s 10)⟩, ⟨none, some 66, .ia 1 (.s 64) (.s 65)⟩, ⟨none, some 67, .ld none (.s 66)⟩, ⟨none, some 68, .bin .gtr (.s 67) (.c (.lit (.int .i64 0)))⟩]) (.cond (.s 68) (.reg [⟨none, some 69, .mv (.s 7)⟩, ⟨none, some 70, .mv (.s 10)⟩, ⟨none, some 71, .mv (.s 7)⟩, ⟨none, some 72, .mv (.s 10)⟩, ⟨none, some 73, .ia 1 (.s 71) (.s 72)⟩, ⟨none, some 74, .ld none (.s 73)⟩, ⟨none, some 75, .mv (.s 7)⟩, ⟨none, some 76, .mv (.s 10)⟩, ⟨none, some 77, .bin .add (.s 76) (.c (.lit (.int .i64 1)))⟩, ⟨none, some 78, .ia 1 (.s 75) (.s 77)⟩, ⟨none, some 79, .ld none (.s 78)⟩, ⟨none, some 80, .mx (.s 74) (.s 79)⟩, ⟨none, some 81, .ia 1 (.s 69) (.s 70)⟩, ⟨none, none, .st 1 (.s 81) (.s 80)⟩]) .skip))) (.reg [⟨none, some 62, .mv (.s 10)⟩, ⟨none, some 63, .bin .sub (.s 62) (.c (.lit (.int .i64 1)))⟩, ⟨none, some 10, .mv (.s 63)⟩])))))) (.seq (.reg [⟨none, some 11, .nil0 1⟩]) (.seq (.seq (.reg [⟨none, some 82, .mv (.s 1)⟩, ⟨none, some 83, .len (.s 82)⟩, ⟨none, some 84, .mv (.c (.lit (.int .i64 0)))⟩]) (.block 4 (.loop [84, 83, 82, 2, 11, 7] (.seq (.reg [⟨none, some 85, .bin .lss (.s 84) (.s 83)⟩]) (.seq (.cond (.s 85) .skip (.exit 4)) (.seq (.block 5 (.seq (.reg [⟨none, some 86, .mv (.s 84)⟩, ⟨none, some 87, .ia 3 (.s 82) (.s 84)⟩, ⟨none, some 88, .ld (some 3) (.s 87)⟩, ⟨none, some 13, .new (.agg [(.lit (.int .i64 0)), (.lit (.int .i64 0)), (.lit (.int .i64 0))])⟩, ⟨none, some 12, .mv (.s 86)⟩, ⟨none, none, .st 3 (.s 13) (.s 88)⟩]) (.seq (.reg [⟨none, some 14, .mv (.c (.lit (.int .i64 0)))⟩]) (.seq (.block 6 (.seq (.reg [⟨none, some 90, .fa 1 (.s 13)⟩, ⟨none, some 91, .ld none (.s 90)⟩, ⟨none, some 92, .fa 2 (.s 2)⟩, ⟨none, some 93, .ld none (.s 92)⟩, ⟨none, some 94, .bin .lss (.s 91) (.s 93)⟩, ⟨none, some 89, .mv (.s 94)⟩]) (.cond (.s 89) (.reg [⟨none, some 14, .mv (.c (.lit (.int .i64 1)))⟩]) (.seq (.reg [⟨none, some 96, .fa 1 (.s 13)⟩, ⟨none, some 97, .ld none (.s 96)⟩, ⟨none, some 98, .fa 3 (.s 2)⟩, ⟨none, some 99, .ld none (.s 98)⟩, ⟨none, some 100, .bin .gtr (.s 97) (.s 99)⟩, ⟨none, some 95, .mv (.s 100)⟩]) (.cond (.s 95) (.reg [⟨none, some 14, .mv (.c (.lit (.int .i64 2)))⟩]) (.seq (.reg [⟨none, some 102, .fa 2 (.s 13)⟩, ⟨none, some 103, .ld none (.s 102)⟩, ⟨none, some 104, .fa 4 (.s 2)⟩, ⟨none, some 105, .ld none (.s 104)⟩, ⟨none, some 106, .bin .gtr (.s 103) (.s 105)⟩, ⟨none, some 101, .mv (.s 106)⟩]) (.cond (.s 101) (.reg [⟨none, some 14, .mv (.c (.lit (.int .i64 3)))⟩]) (.seq (.reg [⟨none, some 108, .mv (.s 7)⟩, ⟨none, some 109, .mv (.s 12)⟩, ⟨none, some 110, .ia 1 (.s 108) (.s 109)⟩, ⟨none, some 111, .ld none (.s 110)⟩, ⟨none, some 112, .fa 1 (.s 2)⟩, ⟨none, some 113, .ld none (.s 112)⟩, ⟨none, some 114, .bin .gtr (.s 111) (.s 113)⟩, ⟨none, some 107, .mv (.s 114)⟩]) (.cond (.s 107) (.reg [⟨none, some 14, .mv (.c (.lit (.int .i64 4)))⟩]) .skip))))))))) (.reg [⟨none, some 115, .mv (.s 11)⟩, ⟨none, some 116, .mv (.s 14)⟩, ⟨none, some 117, .bsl (.lit (.int .i64 0)) 1 1 [(0, (.s 116))]⟩, ⟨none, some 118, .app 1 (.s 115) (.s 117)⟩, ⟨none, some 11, .mv (.s 118)⟩]))))) (.reg [⟨none, some 119, .bin .add (.s 84) (.c (.lit (.int .i64 1)))⟩, ⟨none, some 84, .mv (.s 119)⟩]))))))) (.seq (.reg [⟨none, some 120, .mv (.s 11)⟩, ⟨none, some 4, .mv (.s 120)⟩, ⟨none, some 5, .mv (.c (.lit (.int .i64 0)))⟩]) .ret))))))))⟩ := by kernel_rfl
set_option maxHeartbeats 4000000 in
theorem ReasonsOf_z (k : Nat) (a b c d e : Int) (fs : List Fx) (hx : fs.length ≤ 1000) (he : fixE ⟨a, b, c, d, e⟩ fs = 0) : runZ MT (orA (k + 6)) (itA (k + 6)) 4000000 78 [.agg [I64 a, I64 b, I64 c, I64 d, I64 e], .sl (fs.map encX)] [] =
    some (.tup [.arr 0 0 fs.length 0, I64 0], [⟨0, nlN fs.length, 1, (reasonsL ⟨a, b, c, d, e⟩ fs).map I64⟩]) := by
  have hl : (MV.sl (fs.map encX)).slen = some fs.length := by simp [MV.slen]
  refine runZ_of mf_ReasonsOf (by simp) ?_
  simp only [argsL]
  obtain ⟨hr1, hr2⟩ := fixE_ok he
  obtain ⟨⟨q1, q2⟩, -⟩ := rulesE_ok hr1
  simp only at q1 q2
  have hc := fun h => fixesErr_c k fs h (v := .sl (fs.map encX)) hx (frz_sl (ltL_X 0 fs)) hr2
  have hr := fun h => CheckRules_c (k + 3) a b c d e h hr1
  have hsz := Lib.hid (fun (z : Int) (t : Bool) (ht : inB z (0 - a) a = t) h => isSized_c (k + 4) z a h q1 q2 ht)
  have HO : ∀ i (h : i < fs.length), offA a fs i = offB a fs[i] := fun i h => offA_at a fs i h
  generalize ho : offA a fs = o at HO
  have f0 : firstE [(0 : Int), 0] = 0 := rfl
  repeat (first | apply ef_seq | (apply ef_mv; exact rfl; exact rfl) | (apply ef_bin; exact rfl; exact rfl; exact rfl; (exact cmp_f rfl (by simp only [cmpP]; omega))) | (apply ef_len; exact rfl; exact rfl; (assumption)) | (apply ef_ldp; exact rfl; exact rfl; exact rfl; exact rfl; (exact rfl); (exact rd_5 rfl rfl rfl rfl rfl)) | (apply ef_box; exact rfl; exact rfl; exact rfl; exact rfl) | (apply ef_nil0; exact rfl) | (apply ef_bsl; exact rfl; (repeat (apply XVs.cons; exact rfl)); exact XVs.nil; exact rfl) | (apply ef_mks; exact rfl; exact rfl; (omega); (omega)) | apply ef_nil | apply seqQ.normal | apply ef_block | apply ef_skip | (apply ef_condf; exact rfl; (exact (rfl : false = false))) | (apply ef_call; exact rfl; ((repeat (apply XVs.cons; exact rfl)); exact XVs.nil); (with_reducible first | exact hr _ | exact hc _)) | (apply ef_call; exact rfl; ((repeat (apply XVs.cons; exact rfl)); exact XVs.nil); (with_reducible apply first2_c); exact rfl; exact rfl; exact rfl; (assumption)))
  refine ef_loop (α := Nat × List Int) (fun s => s.1 ≤ fs.length ∧ s.2 = (List.range fs.length).map fun j => if j < s.1 then (upN o j : Int) else 0)
    (fun s => [(29, I64 (s.1 : Int)), (28, I64 (fs.length : Int)), (27, .sl (fs.map encX)), (2, .ptr 0 0 0 0), (7, .arr 3 0 fs.length 0), (1, .sl (fs.map encX))])
    (fun s => [⟨0, false, 5, [.agg [I64 a, I64 b, I64 c, I64 d, I64 e]]⟩, ⟨0, true, 1, []⟩, ⟨0, false, 1, [I64 0, I64 0]⟩, ⟨0, false, 1, s.2.map I64⟩]) (fun s => fs.length - s.1)
    (0, List.replicate fs.length 0) [29, 28, 27, 2, 7, 1] (fun _ => rfl) rfl ⟨by omega, ?_⟩ (by simp; omega) (by ((repeat (refine Hold.cons (by exact rfl) ?_)); exact Hold.nil)) ?_ ?_
  · simp only [Nat.not_lt_zero, if_false]
    exact (List.eq_replicate_iff.2 ⟨by simp, by simp⟩).symm
  · simp; rfl
  rintro ⟨i, xs⟩ ⟨hi, hz⟩
  simp only at hi hz ⊢
  by_cases hlt : i < fs.length
  · have e1 := at_map encX fs i hlt
    have HOi := HO i hlt
    have hxl : xs.length = fs.length := by rw [hz]; simp
    have hi0 : xs[i]? = some 0 := by rw [hz, rng_get _ hlt]; simp
    have g1 := at_I hi0 (j := (i : Int)) rfl
    have HZ := Lib.hid hz
    clear hz
    generalize fs[i] = z at e1 HOi
    obtain ⟨za, zb, zc⟩ := z
    have hoz : offB a ⟨za, zb, zc⟩ = !inB za (0 - a) a := rfl
    rw [hoz] at HOi
    cases ht : inB za (0 - a) a
    · have hsz1 := hsz.out za _ ht
      rw [ht] at HOi
      have g2 := at_I (xs := xs.set (0 + ((i : Nat) : Int).toNat) 1) (k := i) (v := 1) (j := (i : Int)) (by simp [hxl, hlt]) rfl
      rw [← set_mapI] at g2
      by_cases h0 : i = 0
      · subst h0
        repeat (first | apply ef_seq | (apply ef_mv; exact rfl; exact rfl) | (apply ef_bin; exact rfl; exact rfl; exact rfl; (first | exact cmp_t rfl (by first | exact rfl | (simp only [cmpP]; omega)) | exact cmp_f rfl (by simp only [cmpP]; omega) | ((with_reducible refine bin_add (wrap_of ?_ ?_)) <;> omega))) | (apply ef_ldr; exact rfl; exact rfl; (exact rd_3 rfl rfl rfl)) | (apply ef_ldp; exact rfl; exact rfl; exact rfl; exact rfl; (exact rfl); (exact rfl)) | (apply ef_ias; exact rfl; exact rfl; exact rfl; (omega); assumption; exact rfl) | (apply ef_iaa; exact rfl; exact rfl; exact rfl; (omega); (omega); (exact rfl)) | (apply ef_fap; exact rfl; exact rfl) | (apply ef_notF; exact rfl; exact rfl) | (apply ef_new; exact rfl) | (apply ef_st; exact rfl; exact rfl; exact rfl; exact rfl; exact rfl; exact rfl; (first | exact rfl | assumption); exact rfl) | apply ef_nil | apply seqQ.normal | apply blockQ.normal | apply ef_block | apply ef_skip | (apply ef_condt; exact rfl; (exact (rfl : true = true))) | (apply ef_condf; exact rfl; (exact (rfl : false = false))) | (apply ef_call; exact rfl; ((repeat (apply XVs.cons; exact rfl)); exact XVs.nil); (with_reducible exact hsz1 _)))
        simp only [set_mapI]
        (refine loopQ.normal _ _ ⟨(0 + 1, xs.set (0 + (((0 : Nat) : Nat) : Int).toNat) 1), ⟨hlt, by rw [HZ.out]; simp only [rng_set]; apply rng_congr; intro j hj; by_cases hj0 : j = 0; subst hj0; simp [upN, HOi]; simp [hj0]⟩, (by first | (simp only; omega) | omega), by ((repeat (refine Hold.cons (by exact rfl) ?_)); exact Hold.nil), .inr ⟨by ((repeat (refine hdl_cons rfl (by first | rfl | (simp [MV.lt, ltL_X, ltL_I, set_mapI, -List.map_set])) ?_)); exact hdl_nil), by first | rfl | (simp [hltL, ltL, MV.lt, ltL_X, ltL_I, set_mapI, -List.map_set])⟩, by first | exact rfl | (simp only [List.map_append, List.map_set]; exact rfl)⟩)
      · obtain ⟨u, hu⟩ : ∃ u : Nat, i = u + 1 := ⟨i - 1, by omega⟩
        have hu0 : xs[u]? = some (upN o u : Int) := by rw [HZ.out, rng_get _ (by omega), if_pos (by omega)]
        have g3 := at_I (xs := xs.set (0 + ((i : Nat) : Int).toNat) 1) (k := u) (v := (upN o u : Int)) (j := (i : Int) - 1) (by rw [List.getElem?_set_ne (by simp; omega)]; exact hu0) (by omega)
        rw [← set_mapI] at g3
        have hup := upN_le o u
        repeat (first | apply ef_seq | (apply ef_mv; exact rfl; exact rfl) | (apply ef_bin; exact rfl; exact rfl; exact rfl; (first | exact cmp_t rfl (by first | exact rfl | (simp only [cmpP]; omega)) | ((with_reducible refine bin_add (wrap_of ?_ ?_)) <;> omega) | ((with_reducible refine bin_sub (wrap_of ?_ ?_)) <;> omega))) | (apply ef_ldr; exact rfl; exact rfl; (exact rd_3 rfl rfl rfl)) | (apply ef_ldp; exact rfl; exact rfl; exact rfl; exact rfl; (first | exact rfl | assumption); (exact rfl)) | (apply ef_ias; exact rfl; exact rfl; exact rfl; (omega); assumption; exact rfl) | (apply ef_iaa; exact rfl; exact rfl; exact rfl; (omega); (omega); (exact rfl)) | (apply ef_fap; exact rfl; exact rfl) | (apply ef_notF; exact rfl; exact rfl) | (apply ef_new; exact rfl) | (apply ef_st; exact rfl; exact rfl; exact rfl; exact rfl; exact rfl; exact rfl; (first | exact rfl | assumption); exact rfl) | apply ef_nil | apply seqQ.normal | apply blockQ.normal | apply ef_block | apply ef_skip | (apply ef_condt; exact rfl; (exact (rfl : true = true))) | (apply ef_call; exact rfl; ((repeat (apply XVs.cons; exact rfl)); exact XVs.nil); (with_reducible exact hsz1 _)))
        simp only [set_mapI]
        (refine loopQ.normal _ _ ⟨(i + 1, (xs.set (0 + ((i : Nat) : Int).toNat) 1).set (0 + ((i : Nat) : Int).toNat) (1 + (upN o u : Int))), ⟨hlt, by rw [HZ.out]; simp only [rng_set]; apply rng_congr; intro j hj; by_cases hj0 : j = i; subst hj0; simp [hu, upN] at HOi ⊢; simp [HOi]; omega; simp [hj0]; exact lt_succ_ne hj0 _ _⟩, (by first | (simp only; omega) | omega), by ((repeat (refine Hold.cons (by exact rfl) ?_)); exact Hold.nil), .inr ⟨by ((repeat (refine hdl_cons rfl (by first | rfl | (simp [MV.lt, ltL_X, ltL_I, set_mapI, -List.map_set])) ?_)); exact hdl_nil), by first | rfl | (simp [hltL, ltL, MV.lt, ltL_X, ltL_I, set_mapI, -List.map_set])⟩, by first | exact rfl | (simp only [List.map_append, List.map_set]; exact rfl)⟩)
    · have hsz1 := hsz.out za _ ht
      rw [ht] at HOi
      repeat (first | apply ef_seq | (apply ef_mv; exact rfl; exact rfl) | (apply ef_bin; exact rfl; exact rfl; exact rfl; (first | exact cmp_t rfl (by first | exact rfl | (simp only [cmpP]; omega)) | ((with_reducible refine bin_add (wrap_of ?_ ?_)) <;> omega))) | (apply ef_ldr; exact rfl; exact rfl; (exact rd_3 rfl rfl rfl)) | (apply ef_ldp; exact rfl; exact rfl; exact rfl; exact rfl; (exact rfl); (exact rfl)) | (apply ef_ias; exact rfl; exact rfl; exact rfl; (omega); assumption; exact rfl) | (apply ef_fap; exact rfl; exact rfl) | (apply ef_notT; exact rfl; exact rfl) | (apply ef_new; exact rfl) | (apply ef_st; exact rfl; exact rfl; exact rfl; exact rfl; exact rfl; exact rfl; (exact rfl); exact rfl) | apply ef_nil | apply seqQ.normal | apply blockQ.normal | apply ef_block | apply ef_skip | (apply ef_condt; exact rfl; (exact (rfl : true = true))) | (apply ef_condf; exact rfl; (exact (rfl : false = false))) | (apply ef_call; exact rfl; ((repeat (apply XVs.cons; exact rfl)); exact XVs.nil); (with_reducible exact hsz1 _)))
      (refine loopQ.normal _ _ ⟨(i + 1, xs), ⟨hlt, by rw [HZ.out]; apply rng_congr; intro j hj; by_cases hj0 : j = i; subst hj0; simp [upN_zero HOi]; exact lt_succ_ne hj0 _ _⟩, (by first | (simp only; omega) | omega), by ((repeat (refine Hold.cons (by exact rfl) ?_)); exact Hold.nil), .inr ⟨by ((repeat (refine hdl_cons rfl (by first | rfl | (simp [MV.lt, ltL_X, ltL_I, set_mapI, -List.map_set])) ?_)); exact hdl_nil), by first | rfl | (simp [hltL, ltL, MV.lt, ltL_X, ltL_I, set_mapI, -List.map_set])⟩, by first | exact rfl | (simp only [List.map_append, List.map_set]; exact rfl)⟩)
  · have hz : xs = (List.range fs.length).map fun j => (upN o j : Int) := hz.trans (rng_congr fun j hj => if_pos (by omega))
    have hxl : xs.length = fs.length := by rw [hz]; simp
    repeat (first | apply ef_seq | (apply ef_mv; exact rfl; exact rfl) | (apply ef_bin; exact rfl; exact rfl; exact rfl; (first | exact cmp_f rfl (by simp only [cmpP]; omega) | ((with_reducible refine bin_sub (wrap_of ?_ ?_)) <;> omega))) | (apply ef_len; exact rfl; exact rfl; (assumption)) | apply ef_nil | apply seqQ.normal | apply loopQ.exit | apply ef_exit | apply seqQ.exit | apply blockQ.here | apply ef_block | (apply ef_condf; exact rfl; (exact (rfl : false = false))))
    refine ef_loop (α := Int × List Int) (fun s => -2 ≤ s.1 ∧ s.1 ≤ (fs.length : Int) - 2 ∧ s.2 = (List.range fs.length).map fun (j : Nat) => if s.1 < (j : Int) then (runR o fs.length j : Int) else (upN o j : Int))
      (fun s => [(10, I64 s.1), (7, .arr 3 0 fs.length 0), (1, .sl (fs.map encX)), (2, .ptr 0 0 0 0)])
      (fun s => [⟨0, false, 5, [.agg [I64 a, I64 b, I64 c, I64 d, I64 e]]⟩, ⟨0, true, 1, []⟩, ⟨0, false, 1, [I64 0, I64 0]⟩, ⟨0, false, 1, s.2.map I64⟩]) (fun s => (s.1 + 2).toNat)
      ((fs.length : Int) - 2, xs) [10, 7, 1, 2] (fun _ => rfl) rfl ⟨by simp only; omega, by simp only; omega, ?_⟩ (by simp only; omega) (by ((repeat (refine Hold.cons (by exact rfl) ?_)); exact Hold.nil)) rfl ?_
    · rw [hz]
      apply rng_congr
      intro j hj
      simp only
      by_cases hjn : j + 1 = fs.length
      · rw [if_pos (by omega), runR_last hjn]
      · rw [if_neg (by omega)]
    clear hz hxl
    rintro ⟨i, xs⟩ ⟨hi, hi2, hz⟩
    simp only at hi hi2 hz ⊢
    by_cases hge : 0 ≤ i
    · obtain ⟨u, rfl⟩ : ∃ u : Nat, i = u := ⟨i.toNat, by omega⟩
      have hxl : xs.length = fs.length := by rw [hz]; simp
      have hu0 : xs[u]? = some (upN o u : Int) := by rw [hz, rng_get _ (by omega), if_neg (by omega)]
      have hu1 : xs[u + 1]? = some (runR o fs.length (u + 1) : Int) := by rw [hz, rng_get _ (by omega), if_pos (by omega)]
      have g1 := at_I hu0 (j := (u : Int)) rfl
      have g2 := at_I hu1 (j := (u : Int) + 1) (by omega)
      have HZ := Lib.hid hz
      clear hz
      by_cases hou : o u = true
      · have hpos := upN_pos hou
        have hst := Lib.hid (runR_step (n := fs.length) (i := u) (by omega) hou)
        repeat (first | apply ef_seq | (apply ef_mv; exact rfl; exact rfl) | (apply ef_bin; exact rfl; exact rfl; exact rfl; (first | exact cmp_t rfl (by first | exact rfl | (simp only [cmpP]; omega)) | ((with_reducible refine bin_add (wrap_of ?_ ?_)) <;> omega) | ((with_reducible refine bin_sub (wrap_of ?_ ?_)) <;> omega))) | (apply ef_ldp; exact rfl; exact rfl; exact rfl; exact rfl; (assumption); (exact rfl)) | (apply ef_iaa; exact rfl; exact rfl; exact rfl; (omega); (omega); (exact rfl)) | (apply ef_mx; exact rfl; exact rfl; exact rfl) | (apply ef_st; exact rfl; exact rfl; exact rfl; exact rfl; exact rfl; exact rfl; (assumption); exact rfl) | apply ef_nil | apply seqQ.normal | apply blockQ.normal | apply ef_block | apply ef_skip | (apply ef_condt; exact rfl; (exact (rfl : true = true))))
        simp only [set_mapI]
        (refine loopQ.normal _ _ ⟨((u : Int) - 1, xs.set (0 + ((u : Nat) : Int).toNat) (mx (upN o u : Int) (runR o fs.length (u + 1) : Int))), ⟨by simp only; omega, by simp only; omega, by rw [HZ.out]; simp only [rng_set]; apply rng_congr; intro j hj; by_cases hj0 : j = u; subst hj0; rw [if_pos (by simp), if_pos (by omega), hst.out]; rw [if_neg (by simpa using hj0)]; exact le_pred_ne (by omega) _ _⟩, (by simp only; omega), by ((repeat (refine Hold.cons (by exact rfl) ?_)); exact Hold.nil), .inr ⟨by ((repeat (refine hdl_cons rfl (by first | rfl | (simp [MV.lt, ltL_X, ltL_I, set_mapI, -List.map_set])) ?_)); exact hdl_nil), by first | rfl | (simp [hltL, ltL, MV.lt, ltL_X, ltL_I, set_mapI, -List.map_set])⟩, by first | exact rfl | (simp only [List.map_append, List.map_set]; exact rfl)⟩)
      · have hzero := upN_zero (o := o) (i := u) (by simpa using hou)
        repeat (first | apply ef_seq | (apply ef_mv; exact rfl; exact rfl) | (apply ef_bin; exact rfl; exact rfl; exact rfl; (first | exact cmp_t rfl (by first | exact rfl | (simp only [cmpP]; omega)) | exact cmp_f rfl (by simp only [cmpP]; omega) | ((with_reducible refine bin_sub (wrap_of ?_ ?_)) <;> omega))) | (apply ef_ldp; exact rfl; exact rfl; exact rfl; exact rfl; (assumption); (exact rfl)) | (apply ef_iaa; exact rfl; exact rfl; exact rfl; (omega); (omega); (exact rfl)) | apply ef_nil | apply seqQ.normal | apply blockQ.normal | apply ef_block | apply ef_skip | (apply ef_condt; exact rfl; (exact (rfl : true = true))) | (apply ef_condf; exact rfl; (exact (rfl : false = false))))
        (refine loopQ.normal _ _ ⟨((u : Int) - 1, xs), ⟨by simp only; omega, by simp only; omega, by rw [HZ.out]; apply rng_congr; intro j hj; by_cases hj0 : j = u; subst hj0; simp [hzero, runR, hou]; exact le_pred_ne (by omega) _ _⟩, (by simp only; omega), by ((repeat (refine Hold.cons (by exact rfl) ?_)); exact Hold.nil), .inr ⟨by ((repeat (refine hdl_cons rfl (by first | rfl | (simp [MV.lt, ltL_X, ltL_I, set_mapI, -List.map_set])) ?_)); exact hdl_nil), by first | rfl | (simp [hltL, ltL, MV.lt, ltL_X, ltL_I, set_mapI, -List.map_set])⟩, by first | exact rfl | (simp only [List.map_append, List.map_set]; exact rfl)⟩)
    · have hz : xs = (List.range fs.length).map fun j => (runR o fs.length j : Int) := hz.trans (rng_congr fun j hj => if_pos (by omega))
      repeat (first | apply ef_seq | (apply ef_mv; exact rfl; exact rfl) | (apply ef_bin; exact rfl; exact rfl; exact rfl; (exact cmp_f rfl (by simp only [cmpP]; omega))) | (apply ef_len; exact rfl; exact rfl; (assumption)) | (apply ef_nil0; exact rfl) | apply ef_nil | apply seqQ.normal | apply loopQ.exit | apply ef_exit | apply seqQ.exit | apply blockQ.here | apply ef_block | (apply ef_condf; exact rfl; (exact (rfl : false = false))))
      refine ef_loop (α := Nat × List Int) (fun s => s.1 ≤ fs.length ∧ s.2 = (List.range s.1).map (reasonOf ⟨a, b, c, d, e⟩ fs))
        (fun s => [(84, I64 (s.1 : Int)), (83, I64 (fs.length : Int)), (82, .sl (fs.map encX)), (2, .ptr 0 0 0 0), (11, .arr 4 0 s.1 s.1), (7, .arr 3 0 fs.length 0)])
        (fun s => [⟨0, false, 5, [.agg [I64 a, I64 b, I64 c, I64 d, I64 e]]⟩, ⟨0, true, 1, []⟩, ⟨0, false, 1, [I64 0, I64 0]⟩, ⟨0, false, 1, xs.map I64⟩, ⟨s.1, nlN s.1, 1, s.2.map I64⟩]) (fun s => fs.length - s.1)
        (0, []) [84, 83, 82, 2, 11, 7] (fun _ => rfl) rfl ⟨by omega, rfl⟩ (by simp; omega) (by ((repeat (refine Hold.cons (by exact rfl) ?_)); exact Hold.nil)) rfl ?_
      rintro ⟨i, ys⟩ ⟨hi3, hy⟩
      simp only at hi3 hy ⊢
      have hyl : ys.length = i := by rw [hy]; simp
      by_cases hlt : i < fs.length
      · have e1 := at_map encX fs i hlt
        have hu0 : xs[i]? = some (runR o fs.length i : Int) := by rw [hz, rng_get _ hlt]
        have g1 := at_I hu0 (j := (i : Int)) rfl
        have HS := Lib.hid (fun v (hv : reasonOf ⟨a, b, c, d, e⟩ fs i = v) => (show ys ++ [v] = (List.range (i + 1)).map (reasonOf ⟨a, b, c, d, e⟩ fs) by rw [hy, List.range_succ, List.map_append, ← hv]; rfl))
        have HR := Lib.hid (show reasonOf ⟨a, b, c, d, e⟩ fs i = if fs[i].h < c then 1 else if d < fs[i].h then 2 else if e < fs[i].n then 3 else if b < (runR o fs.length i : Int) then 4 else 0 by unfold reasonOf; rw [List.getElem?_eq_getElem hlt]; simp only [ho])
        clear hy hz
        generalize fs[i] = z at e1 HR
        generalize runR o fs.length i = rr at g1 HR
        obtain ⟨za, zb, zc⟩ := z
        simp only at HR
        by_cases h1 : zb < c
        · repeat (first | apply ef_seq | (apply ef_mv; exact rfl; exact rfl) | (apply ef_bin; exact rfl; exact rfl; exact rfl; (exact cmp_t rfl (by first | exact rfl | (simp only [cmpP]; omega)))) | (apply ef_ldr; exact rfl; exact rfl; (exact rd_3 rfl rfl rfl)) | (apply ef_ldp; exact rfl; exact rfl; exact rfl; exact rfl; (exact rfl); (exact rfl)) | (apply ef_ias; exact rfl; exact rfl; exact rfl; (omega); assumption; exact rfl) | (apply ef_fap; exact rfl; exact rfl) | (apply ef_new; exact rfl) | (apply ef_bsl; exact rfl; (repeat (apply XVs.cons; exact rfl)); exact XVs.nil; exact rfl) | (apply ef_st; exact rfl; exact rfl; exact rfl; exact rfl; exact rfl; exact rfl; (exact rfl); exact rfl) | apply ef_nil | apply seqQ.normal | apply blockQ.normal | apply ef_block | apply ef_skip | (apply ef_condt; exact rfl; (exact (rfl : true = true))))
          (apply ef_app; (· exact rfl); (· exact rfl); (· exact rfl); (· exact rfl); (· exact rfl); (· exact rfl); (· (simp only [List.length_map]; omega)); (· exact rfl); (· ((show (ys.map I64).length + 1 ≤ 4000000); rw [List.length_map]; omega)); (· exact rfl); (· exact rfl))
          repeat (first | (apply ef_mv; exact rfl; exact rfl) | (apply ef_bin; exact rfl; exact rfl; exact rfl; (((with_reducible refine bin_add (wrap_of ?_ ?_)) <;> omega))) | apply ef_nil | apply seqQ.normal | apply blockQ.normal)
          (refine loopQ.normal _ _ ⟨(i + 1, ys ++ [1]), ⟨hlt, HS.out 1 (by rw [HR.out]; simp [h1])⟩, (by first | (simp only; omega) | omega), by ((repeat (refine Hold.cons (by exact rfl) ?_)); exact Hold.nil), .inr ⟨by ((repeat (refine hdl_cons rfl (by first | rfl | (simp [MV.lt, ltL_X, ltL_I, ltL_appI])) ?_)); exact hdl_nil), by first | rfl | (simp [hltL, ltL, MV.lt, ltL_X, ltL_I, ltL_appI])⟩, by first | exact rfl | (simp only [List.map_append, List.map_set]; exact rfl)⟩)
        · by_cases h2 : d < zb
          · repeat (first | apply ef_seq | (apply ef_mv; exact rfl; exact rfl) | (apply ef_bin; exact rfl; exact rfl; exact rfl; (first | exact cmp_t rfl (by first | exact rfl | (simp only [cmpP]; omega)) | exact cmp_f rfl (by simp only [cmpP]; omega))) | (apply ef_ldr; exact rfl; exact rfl; (exact rd_3 rfl rfl rfl)) | (apply ef_ldp; exact rfl; exact rfl; exact rfl; exact rfl; (exact rfl); (exact rfl)) | (apply ef_ias; exact rfl; exact rfl; exact rfl; (omega); assumption; exact rfl) | (apply ef_fap; exact rfl; exact rfl) | (apply ef_new; exact rfl) | (apply ef_bsl; exact rfl; (repeat (apply XVs.cons; exact rfl)); exact XVs.nil; exact rfl) | (apply ef_st; exact rfl; exact rfl; exact rfl; exact rfl; exact rfl; exact rfl; (exact rfl); exact rfl) | apply ef_nil | apply seqQ.normal | apply blockQ.normal | apply ef_block | apply ef_skip | (apply ef_condt; exact rfl; (exact (rfl : true = true))) | (apply ef_condf; exact rfl; (exact (rfl : false = false))))
            (apply ef_app; (· exact rfl); (· exact rfl); (· exact rfl); (· exact rfl); (· exact rfl); (· exact rfl); (· (simp only [List.length_map]; omega)); (· exact rfl); (· ((show (ys.map I64).length + 1 ≤ 4000000); rw [List.length_map]; omega)); (· exact rfl); (· exact rfl))
            repeat (first | (apply ef_mv; exact rfl; exact rfl) | (apply ef_bin; exact rfl; exact rfl; exact rfl; (((with_reducible refine bin_add (wrap_of ?_ ?_)) <;> omega))) | apply ef_nil | apply seqQ.normal | apply blockQ.normal)
            (refine loopQ.normal _ _ ⟨(i + 1, ys ++ [2]), ⟨hlt, HS.out 2 (by rw [HR.out]; simp [h1, h2])⟩, (by first | (simp only; omega) | omega), by ((repeat (refine Hold.cons (by exact rfl) ?_)); exact Hold.nil), .inr ⟨by ((repeat (refine hdl_cons rfl (by first | rfl | (simp [MV.lt, ltL_X, ltL_I, ltL_appI])) ?_)); exact hdl_nil), by first | rfl | (simp [hltL, ltL, MV.lt, ltL_X, ltL_I, ltL_appI])⟩, by first | exact rfl | (simp only [List.map_append, List.map_set]; exact rfl)⟩)
          · by_cases h3 : e < zc
            · repeat (first | apply ef_seq | (apply ef_mv; exact rfl; exact rfl) | (apply ef_bin; exact rfl; exact rfl; exact rfl; (first | exact cmp_t rfl (by first | exact rfl | (simp only [cmpP]; omega)) | exact cmp_f rfl (by simp only [cmpP]; omega))) | (apply ef_ldr; exact rfl; exact rfl; (exact rd_3 rfl rfl rfl)) | (apply ef_ldp; exact rfl; exact rfl; exact rfl; exact rfl; (exact rfl); (exact rfl)) | (apply ef_ias; exact rfl; exact rfl; exact rfl; (omega); assumption; exact rfl) | (apply ef_fap; exact rfl; exact rfl) | (apply ef_new; exact rfl) | (apply ef_bsl; exact rfl; (repeat (apply XVs.cons; exact rfl)); exact XVs.nil; exact rfl) | (apply ef_st; exact rfl; exact rfl; exact rfl; exact rfl; exact rfl; exact rfl; (exact rfl); exact rfl) | apply ef_nil | apply seqQ.normal | apply blockQ.normal | apply ef_block | apply ef_skip | (apply ef_condt; exact rfl; (exact (rfl : true = true))) | (apply ef_condf; exact rfl; (exact (rfl : false = false))))
              (apply ef_app; (· exact rfl); (· exact rfl); (· exact rfl); (· exact rfl); (· exact rfl); (· exact rfl); (· (simp only [List.length_map]; omega)); (· exact rfl); (· ((show (ys.map I64).length + 1 ≤ 4000000); rw [List.length_map]; omega)); (· exact rfl); (· exact rfl))
              repeat (first | (apply ef_mv; exact rfl; exact rfl) | (apply ef_bin; exact rfl; exact rfl; exact rfl; (((with_reducible refine bin_add (wrap_of ?_ ?_)) <;> omega))) | apply ef_nil | apply seqQ.normal | apply blockQ.normal)
              (refine loopQ.normal _ _ ⟨(i + 1, ys ++ [3]), ⟨hlt, HS.out 3 (by rw [HR.out]; simp [h1, h2, h3])⟩, (by first | (simp only; omega) | omega), by ((repeat (refine Hold.cons (by exact rfl) ?_)); exact Hold.nil), .inr ⟨by ((repeat (refine hdl_cons rfl (by first | rfl | (simp [MV.lt, ltL_X, ltL_I, ltL_appI])) ?_)); exact hdl_nil), by first | rfl | (simp [hltL, ltL, MV.lt, ltL_X, ltL_I, ltL_appI])⟩, by first | exact rfl | (simp only [List.map_append, List.map_set]; exact rfl)⟩)
            · by_cases h4 : b < (rr : Int)
              · repeat (first | apply ef_seq | (apply ef_mv; exact rfl; exact rfl) | (apply ef_bin; exact rfl; exact rfl; exact rfl; (first | exact cmp_t rfl (by first | exact rfl | (simp only [cmpP]; omega)) | exact cmp_f rfl (by simp only [cmpP]; omega))) | (apply ef_ldr; exact rfl; exact rfl; (exact rd_3 rfl rfl rfl)) | (apply ef_ldp; exact rfl; exact rfl; exact rfl; exact rfl; (first | exact rfl | assumption); (exact rfl)) | (apply ef_ias; exact rfl; exact rfl; exact rfl; (omega); assumption; exact rfl) | (apply ef_iaa; exact rfl; exact rfl; exact rfl; (omega); (omega); (exact rfl)) | (apply ef_fap; exact rfl; exact rfl) | (apply ef_new; exact rfl) | (apply ef_bsl; exact rfl; (repeat (apply XVs.cons; exact rfl)); exact XVs.nil; exact rfl) | (apply ef_st; exact rfl; exact rfl; exact rfl; exact rfl; exact rfl; exact rfl; (exact rfl); exact rfl) | apply ef_nil | apply seqQ.normal | apply blockQ.normal | apply ef_block | apply ef_skip | (apply ef_condt; exact rfl; (exact (rfl : true = true))) | (apply ef_condf; exact rfl; (exact (rfl : false = false))))
                (apply ef_app; (· exact rfl); (· exact rfl); (· exact rfl); (· exact rfl); (· exact rfl); (· exact rfl); (· (simp only [List.length_map]; omega)); (· exact rfl); (· ((show (ys.map I64).length + 1 ≤ 4000000); rw [List.length_map]; omega)); (· exact rfl); (· exact rfl))
                repeat (first | (apply ef_mv; exact rfl; exact rfl) | (apply ef_bin; exact rfl; exact rfl; exact rfl; (((with_reducible refine bin_add (wrap_of ?_ ?_)) <;> omega))) | apply ef_nil | apply seqQ.normal | apply blockQ.normal)
                (refine loopQ.normal _ _ ⟨(i + 1, ys ++ [4]), ⟨hlt, HS.out 4 (by rw [HR.out]; simp [h1, h2, h3, h4])⟩, (by first | (simp only; omega) | omega), by ((repeat (refine Hold.cons (by exact rfl) ?_)); exact Hold.nil), .inr ⟨by ((repeat (refine hdl_cons rfl (by first | rfl | (simp [MV.lt, ltL_X, ltL_I, ltL_appI])) ?_)); exact hdl_nil), by first | rfl | (simp [hltL, ltL, MV.lt, ltL_X, ltL_I, ltL_appI])⟩, by first | exact rfl | (simp only [List.map_append, List.map_set]; exact rfl)⟩)
              · repeat (first | apply ef_seq | (apply ef_mv; exact rfl; exact rfl) | (apply ef_bin; exact rfl; exact rfl; exact rfl; (first | exact cmp_t rfl (by first | exact rfl | (simp only [cmpP]; omega)) | exact cmp_f rfl (by simp only [cmpP]; omega))) | (apply ef_ldr; exact rfl; exact rfl; (exact rd_3 rfl rfl rfl)) | (apply ef_ldp; exact rfl; exact rfl; exact rfl; exact rfl; (first | exact rfl | assumption); (exact rfl)) | (apply ef_ias; exact rfl; exact rfl; exact rfl; (omega); assumption; exact rfl) | (apply ef_iaa; exact rfl; exact rfl; exact rfl; (omega); (omega); (exact rfl)) | (apply ef_fap; exact rfl; exact rfl) | (apply ef_new; exact rfl) | (apply ef_bsl; exact rfl; (repeat (apply XVs.cons; exact rfl)); exact XVs.nil; exact rfl) | (apply ef_st; exact rfl; exact rfl; exact rfl; exact rfl; exact rfl; exact rfl; (exact rfl); exact rfl) | apply ef_nil | apply seqQ.normal | apply blockQ.normal | apply ef_block | apply ef_skip | (apply ef_condt; exact rfl; (exact (rfl : true = true))) | (apply ef_condf; exact rfl; (exact (rfl : false = false))))
                (apply ef_app; (· exact rfl); (· exact rfl); (· exact rfl); (· exact rfl); (· exact rfl); (· exact rfl); (· (simp only [List.length_map]; omega)); (· exact rfl); (· ((show (ys.map I64).length + 1 ≤ 4000000); rw [List.length_map]; omega)); (· exact rfl); (· exact rfl))
                repeat (first | (apply ef_mv; exact rfl; exact rfl) | (apply ef_bin; exact rfl; exact rfl; exact rfl; (((with_reducible refine bin_add (wrap_of ?_ ?_)) <;> omega))) | apply ef_nil | apply seqQ.normal | apply blockQ.normal)
                (refine loopQ.normal _ _ ⟨(i + 1, ys ++ [0]), ⟨hlt, HS.out 0 (by rw [HR.out]; simp [h1, h2, h3, h4])⟩, (by first | (simp only; omega) | omega), by ((repeat (refine Hold.cons (by exact rfl) ?_)); exact Hold.nil), .inr ⟨by ((repeat (refine hdl_cons rfl (by first | rfl | (simp [MV.lt, ltL_X, ltL_I, ltL_appI])) ?_)); exact hdl_nil), by first | rfl | (simp [hltL, ltL, MV.lt, ltL_X, ltL_I, ltL_appI])⟩, by first | exact rfl | (simp only [List.map_append, List.map_set]; exact rfl)⟩)
      · have hin : i = fs.length := by omega
        subst hin
        repeat (first | apply ef_seq | (apply ef_mv; exact rfl; exact rfl) | (apply ef_bin; exact rfl; exact rfl; exact rfl; (exact cmp_f rfl (by simp only [cmpP]; omega))) | apply ef_nil | apply seqQ.normal | apply loopQ.exit | apply ef_ret | apply ef_exit | apply seqQ.exit | apply blockQ.here | (apply ef_condf; exact rfl; (exact (rfl : false = false))))
        (apply fin_al; (· exact rfl); (· exact rfl); (· exact rfl); (· exact rfl); (· exact rfl); (· simp [reasonsL]); (· exact ltL_I 0 _); (· simp only; rw [hy]; rfl); (· exact rfl); (· exact rfl))
end Go.Proofs.Ytgjpdjihjphbdaa

/- Contracts of the reference of fixes. -/
namespace Go.Proofs.Ytgjpdjihjphbdaa
open Go.RowKit
end Go.Proofs.Ytgjpdjihjphbdaa

/- Contracts: spoilt pieces, copies, equal pieces. -/
namespace Go.Proofs.Ytgjpdjihjphbdaa
open Go.RowKit
theorem rul_args {h : MHeap} {v : MV} {a b c d e : Int} {es : List MV} (hv : frz 0 [] h 8 v = some (.sl es)) : [.agg [I64 a, I64 b, I64 c, I64 d, I64 e], v].mapM (frz 0 [] h 8) = some [.agg [I64 a, I64 b, I64 c, I64 d, I64 e], .sl es] := by
  simp [List.mapM_cons, hv]; simp [frz, MV.lt, ltL]
theorem ReasonsOf_gc (k : Nat) (a b c d e : Int) (fs : List Fx) (h : MHeap) {v : MV} (hx : fs.length ≤ 1000) (he : fixE ⟨a, b, c, d, e⟩ fs = 0) (hv : frz 0 [] h 8 v = some (.sl (fs.map encX))) : orA (k + 7) 78 [.agg [I64 a, I64 b, I64 c, I64 d, I64 e], v] h = some (.tup [.arr h.length 0 fs.length 0, I64 0], h ++ [⟨0, nlN fs.length, 1, (reasonsL ⟨a, b, c, d, e⟩ fs).map I64⟩]) := by
  have := callA (rul_args hv) rfl (ReasonsOf_z k a b c d e fs hx he) (by simp [okV, ok1, MV.lt, MV.pure]) (by simp [okH, ltL_I, pureL_I])
  simpa [shV, sh1] using this
theorem ltL_setR (n : Nat) (acc : List (Int × Int)) (k : Nat) (x y : Int) : ltL n ((acc.map encR).set k (.agg [I64 x, I64 y])) = true := by
  rw [show (acc.map encR).set k (.agg [I64 x, I64 y]) = (acc.set k (x, y)).map encR by rw [List.map_set]; rfl]; exact ltL_R n _
theorem last_set {α : Type} {acc : List α} {p q : α} (h : acc.getLast? = some p) : acc.set (0 + ((acc.length : Int) - 1).toNat) q = acc.dropLast ++ [q] := by
  rcases List.eq_nil_or_concat acc with rfl | ⟨l, x, rfl⟩
  · cases h
  · simp
theorem last_at {α : Type} {acc : List α} {p : α} (h : acc.getLast? = some p) (f : α → MV) : (acc.map f)[0 + ((acc.length : Int) - 1).toNat]? = some (f p) := by
  rcases List.eq_nil_or_concat acc with rfl | ⟨l, x, rfl⟩
  · cases h
  · simp at h; subst h; simp
theorem mf_SpoiltIn : MT.mf 80 = some ⟨59, [(.tmp 4), (.tmp 5)], (.seq (.reg [⟨none, some 2, .box 5 (.s 0)⟩, ⟨none, some 4, .nil0 2⟩, ⟨none, some 5, .mv (.c (.lit (.int .i64 0)))⟩]) (.seq (.reg [⟨none, some 13, .ld (some 5) (.s 2)⟩, ⟨none, some 14, .mv (.s 1)⟩, ⟨none, some 15, .call 78 [.s 13, .s 14]⟩, ⟨none, some 12, .mv (.s 15)⟩, ⟨none, some 16, .ext (.s 12) 0⟩, ⟨none, some 17, .ext (.s 12) 1⟩, ⟨none, some 6, .mv (.s 16)⟩, ⟨none, some 7, .mv (.s 17)⟩]) (.seq (.seq (.reg [⟨none, some 18, .mv (.s 7)⟩, ⟨none, some 19, .bin .neq (.s 18) (.c (.lit (.int .i64 0)))⟩]) (.cond (.s 19) (.seq (.reg [⟨none, some 20, .mv (.s 7)⟩, ⟨none, some 4, .nil0 2⟩, ⟨none, some 5, .mv (.s 20)⟩]) .ret) .skip)) (.seq (.reg [⟨none, some 8, .nil0 2⟩]) (.seq (.seq (.reg [⟨none, some 21, .mv (.s 6)⟩, ⟨none, some 22, .len (.s 21)⟩, ⟨none, some 23, .mv (.c (.lit (.int .i64 0)))⟩]) (.block 0 (.loop [23, 22, 21, 8] (.seq (.reg [⟨none, some 24, .bin .lss (.s 23) (.s 22)⟩]) (.seq (.cond (.s 24) .skip (.exit 0)) (.seq (.block 1 (.seq (.reg [⟨none, some 25, .mv (.s 23)⟩, ⟨none, some 26, .ia 1 (.s 21) (.s 23)⟩, ⟨none, some 27, .ld none (.s 26)⟩, ⟨none, some 9, .mv (.s 25)⟩, ⟨none, some 10, .mv (.s 27)⟩]) (.seq (.seq (.reg [⟨none, some 28, .mv (.s 10)⟩, ⟨none, some 29, .bin .eql (.s 28) (.c (.lit (.int .i64 0)))⟩]) (.cond (.s 29) (.exit 1) .skip)) (.seq (.reg [⟨none, some 30, .mv (.s 8)⟩, ⟨none, some 31, .len (.s 30)⟩, ⟨none, some 11, .mv (.s 31)⟩]) (.seq (.reg [⟨none, some 32, .mv (.s 11)⟩, ⟨none, some 33, .bin .gtr (.s 32) (.c (.lit (.int .i64 0)))⟩, ⟨none, some 34, .mv (.s 33)⟩, ⟨some (34, true), some 35, .mv (.s 8)⟩, ⟨some (34, true), some 36, .mv (.s 11)⟩, ⟨some (34, true), some 37, .bin .sub (.s 36) (.c (.lit (.int .i64 1)))⟩, ⟨some (34, true), some 38, .ia 2 (.s 35) (.s 37)⟩, ⟨some (34, true), some 39, .fa 1 (.s 38)⟩, ⟨some (34, true), some 40, .ld none (.s 39)⟩, ⟨some (34, true), some 41, .mv (.s 9)⟩, ⟨some (34, true), some 42, .bin .sub (.s 41) (.c (.lit (.int .i64 1)))⟩, ⟨some (34, true), some 43, .bin .eql (.s 40) (.s 42)⟩, ⟨none, some 44, .pick (.s 34) (.s 43) (.c (.lit (.bool false)))⟩]) (.cond (.s 44) (.reg [⟨none, some 45, .mv (.s 8)⟩, ⟨none, some 46, .mv (.s 11)⟩, ⟨none, some 47, .bin .sub (.s 46) (.c (.lit (.int .i64 1)))⟩, ⟨none, some 48, .mv (.s 9)⟩, ⟨none, some 49, .ia 2 (.s 45) (.s 47)⟩, ⟨none, some 50, .fa 1 (.s 49)⟩, ⟨none, none, .st 1 (.s 50) (.s 48)⟩]) (.reg [⟨none, some 51, .mv (.s 8)⟩, ⟨none, some 52, .mv (.s 9)⟩, ⟨none, some 53, .mv (.s 9)⟩, ⟨none, some 54, .build [(.lit (.int .i64 0)), (.lit (.int .i64 0))] [(0, (1, (.s 52))), (1, (1, (.s 53)))]⟩, ⟨none, some 55, .bsl (.agg [(.lit (.int .i64 0)), (.lit (.int .i64 0))]) 2 1 [(0, (.s 54))]⟩, ⟨none, some 56, .app 2 (.s 51) (.s 55)⟩, ⟨none, some 8, .mv (.s 56)⟩]))))))) (.reg [⟨none, some 57, .bin .add (.s 23) (.c (.lit (.int .i64 1)))⟩, ⟨none, some 23, .mv (.s 57)⟩]))))))) (.seq (.reg [⟨none, some 58, .mv (.s 8)⟩, ⟨none, some 4, .mv (.s 58)⟩, ⟨none, some 5, .mv (.c (.lit (.int .i64 0)))⟩]) .ret))))))⟩ := by kernel_rfl
def spoilt (r : Ru) (fs : List Fx) : List (Int × Int) := spoiltF [] 0 (reasonsL r fs)
set_option maxHeartbeats 4000000 in
theorem SpoiltIn_z (k : Nat) (a b c d e : Int) (fs : List Fx) (hx : fs.length ≤ 1000) (he : fixE ⟨a, b, c, d, e⟩ fs = 0) : runZ MT (orA (k + 7)) (itA (k + 7)) 4000000 80 [.agg [I64 a, I64 b, I64 c, I64 d, I64 e], .sl (fs.map encX)] [] =
    some (.tup [.arr 0 0 (spoilt ⟨a, b, c, d, e⟩ fs).length 0, I64 0], [⟨0, nlN (spoilt ⟨a, b, c, d, e⟩ fs).length, 2, (spoilt ⟨a, b, c, d, e⟩ fs).map encR⟩]) := by
  refine runZ_of mf_SpoiltIn (by simp) ?_
  simp only [argsL]
  have hr := fun h => ReasonsOf_gc k a b c d e fs h (v := .sl (fs.map encX)) hx he (frz_sl (ltL_X 0 fs))
  have hrl : (reasonsL ⟨a, b, c, d, e⟩ fs).length = fs.length := by simp [reasonsL]
  have hsp : spoilt ⟨a, b, c, d, e⟩ fs = spoiltF [] 0 (reasonsL ⟨a, b, c, d, e⟩ fs) := rfl
  generalize spoilt ⟨a, b, c, d, e⟩ fs = sp at hsp
  generalize reasonsL ⟨a, b, c, d, e⟩ fs = xs at hr hrl hsp
  repeat (first | apply ef_seq | (apply ef_mv; exact rfl; exact rfl) | (apply ef_ldp; exact rfl; exact rfl; exact rfl; exact rfl; (exact rfl); (exact rd_5 rfl rfl rfl rfl rfl)) | (apply ef_box; exact rfl; exact rfl; exact rfl; exact rfl) | (apply ef_nil0; exact rfl) | apply ef_nil | apply seqQ.normal)
  (apply ef_call; exact rfl; ((repeat (apply XVs.cons; exact rfl)); exact XVs.nil); exact hr _)
  repeat (first | apply ef_seq | (apply ef_mv; exact rfl; exact rfl) | (apply ef_bin; exact rfl; exact rfl; exact rfl; (exact cmp_f rfl (by simp only [cmpP]; omega))) | (apply ef_len; exact rfl; exact rfl; (exact rfl)) | (apply ef_ext; exact rfl; exact rfl; exact rfl) | (apply ef_nil0; exact rfl) | apply ef_nil | apply seqQ.normal | apply ef_block | apply ef_skip | (apply ef_condf; exact rfl; (exact (rfl : false = false))))
  refine ef_loop (α := Nat × Nat × List (Int × Int)) (fun s => s.1 ≤ xs.length ∧ s.2.1 ≤ s.1 ∧ s.2.2.length = s.2.1 ∧ sp = spoiltF s.2.2 s.1 (xs.drop s.1))
    (fun s => [(23, I64 (s.1 : Int)), (22, I64 (fs.length : Int)), (21, .arr 2 0 fs.length 0), (8, .arr 3 0 s.2.1 s.2.1)])
    (fun s => [⟨0, false, 5, [.agg [I64 a, I64 b, I64 c, I64 d, I64 e]]⟩, ⟨0, true, 2, []⟩, ⟨0, nlN fs.length, 1, xs.map I64⟩, ⟨s.2.1, nlN s.2.1, 2, s.2.2.map encR⟩]) (fun s => fs.length - s.1)
    (0, 0, []) [23, 22, 21, 8] (fun _ => rfl) rfl ⟨by omega, by simp, rfl, by simpa using hsp⟩ (by simp only; omega) (by ((repeat (refine Hold.cons (by exact rfl) ?_)); exact Hold.nil)) rfl ?_
  rintro ⟨i, m, acc⟩ ⟨hi, hal, hm, hz⟩
  simp only at hi hal hm hz ⊢
  by_cases hlt : i < fs.length
  · have e1 := at_I (xs := xs) (k := i) (v := xs[i]) (j := (i : Int)) (by simp) rfl
    have HD := Lib.hid (drop_at xs i (by omega))
    have HS := Lib.hid (show sp = spoiltF (spStep acc i xs[i]) (i + 1) (xs.drop (i + 1)) by rw [hz, HD.out]; rfl)
    clear hz hsp HD
    generalize xs[i] = x at e1 HS
    by_cases h0 : x = 0
    · subst h0
      repeat (first | apply ef_seq | (apply ef_mv; exact rfl; exact rfl) | (apply ef_bin; exact rfl; exact rfl; exact rfl; (first | exact cmp_t rfl (by first | exact rfl | (simp only [cmpP]; omega)) | ((with_reducible refine bin_add (wrap_of ?_ ?_)) <;> omega))) | (apply ef_ldp; exact rfl; exact rfl; exact rfl; exact rfl; (assumption); (exact rfl)) | (apply ef_iaa; exact rfl; exact rfl; exact rfl; (omega); (omega); (exact rfl)) | apply ef_nil | apply seqQ.normal | apply ef_exit | apply seqQ.exit | apply blockQ.here | apply ef_block | apply ef_skip | (apply ef_condt; exact rfl; (exact (rfl : true = true))))
      (refine loopQ.normal _ _ ⟨(i + 1, m, acc), ⟨by omega, by simp only; omega, hm, by rw [HS.out]; rfl⟩, (by first | (simp only; omega) | omega), by ((repeat (refine Hold.cons (by exact rfl) ?_)); exact Hold.nil), .inl (Nat.le_refl _), (by first | exact List.take_length | exact rfl)⟩)
    · have happ := Lib.hid (fun hh : spStep acc i x = acc ++ [((i : Int), (i : Int))] => (show sp = spoiltF (acc ++ [((i : Int), (i : Int))]) (i + 1) (xs.drop (i + 1)) by rw [HS.out, hh]))
      cases hlast : acc.getLast? with
      | none =>
        have hnil : m = 0 := by rw [← hm]; simpa using hlast
        repeat (first | apply ef_seq | (apply ef_mv; exact rfl; exact rfl) | (apply ef_bin; exact rfl; exact rfl; exact rfl; (first | exact cmp_t rfl (by first | exact rfl | (simp only [cmpP]; omega)) | exact cmp_f rfl (by simp only [cmpP]; omega))) | (apply ef_gn; exact rfl; (exact (rfl : false = false)); exact rfl) | (apply ef_pick; exact rfl; exact rfl; exact rfl) | (apply ef_len; exact rfl; exact rfl; (exact rfl)) | (apply ef_ldp; exact rfl; exact rfl; exact rfl; exact rfl; (assumption); (exact rfl)) | (apply ef_iaa; exact rfl; exact rfl; exact rfl; (omega); (omega); (exact rfl)) | (apply ef_build; exact rfl; (repeat (apply XVs.cons; exact rfl)); exact XVs.nil; exact rfl; exact rfl) | (apply ef_bsl; exact rfl; (repeat (apply XVs.cons; exact rfl)); exact XVs.nil; exact rfl) | apply ef_nil | apply seqQ.normal | apply ef_block | apply ef_skip | (apply ef_condt; exact rfl; (exact (rfl : true = true))) | (apply ef_condf; exact rfl; (exact (rfl : false = false))))
        (apply ef_app; (· exact rfl); (· exact rfl); (· exact rfl); (· exact rfl); (· exact rfl); (· exact rfl); (· (simp only [List.length_map]; omega)); (· exact rfl); (· ((show (acc.map encR).length + 1 ≤ 4000000); rw [List.length_map]; omega)); (· exact rfl); (· exact rfl))
        repeat (first | (apply ef_mv; exact rfl; exact rfl) | (apply ef_bin; exact rfl; exact rfl; exact rfl; (((with_reducible refine bin_add (wrap_of ?_ ?_)) <;> omega))) | apply ef_nil | apply seqQ.normal | apply blockQ.normal)
        (refine loopQ.normal _ _ ⟨(i + 1, m + 1, acc ++ [((i : Int), (i : Int))]), ⟨by omega, by simp only; omega, by simp [hm], happ.out (by simp [spStep, h0, hlast])⟩, (by first | (simp only; omega) | omega), by ((repeat (refine Hold.cons (by exact rfl) ?_)); exact Hold.nil), .inr ⟨by ((repeat (refine hdl_cons rfl (by first | rfl | (simp [MV.lt, ltL_I, ltL_R, ltL_app1, splice, MV.cells])) ?_)); exact hdl_nil), by first | rfl | (simp [hltL, ltL, MV.lt, ltL_I, ltL_R, ltL_app1, splice, MV.cells])⟩, by first | exact rfl | (simp only [List.map_append, List.map_set]; exact rfl)⟩)
      | some p =>
        obtain ⟨lo, hi'⟩ := p
        have hpos : 0 < m := by
          cases acc with
          | nil => cases hlast
          | cons _ _ => rw [← hm]; simp
        have e2 := last_at hlast encR
        simp only [encR] at e2
        rw [hm] at e2
        by_cases hh : hi' = (i : Int) - 1
        · repeat (first | apply ef_seq | (apply ef_mv; exact rfl; exact rfl) | (apply ef_bin; exact rfl; exact rfl; exact rfl; (first | exact cmp_t rfl (by first | exact rfl | (simp only [cmpP]; omega)) | exact cmp_f rfl (by simp only [cmpP]; omega) | ((with_reducible refine bin_add (wrap_of ?_ ?_)) <;> omega) | ((with_reducible refine bin_sub (wrap_of ?_ ?_)) <;> omega))) | (apply ef_gy; exact rfl; (exact (rfl : true = true))) | (apply ef_pick; exact rfl; exact rfl; exact rfl) | (apply ef_len; exact rfl; exact rfl; (exact rfl)) | (apply ef_ldp; exact rfl; exact rfl; exact rfl; exact rfl; (assumption); (exact rfl)) | (apply ef_iaa; exact rfl; exact rfl; exact rfl; (omega); (omega); (first | exact rfl | exact ok_of rfl rfl rfl)) | (apply ef_fap; exact rfl; exact rfl) | (apply ef_st; exact rfl; exact rfl; exact rfl; exact rfl; exact rfl; exact rfl; (assumption); exact rfl) | apply ef_nil | apply seqQ.normal | apply blockQ.normal | apply ef_block | apply ef_skip | (apply ef_condt; exact rfl; (exact (rfl : true = true))) | (apply ef_condf; exact rfl; (exact (rfl : false = false))))
          (refine loopQ.normal _ _ ⟨(i + 1, m, acc.set (0 + ((m : Int) - 1).toNat) (lo, (i : Int))), ⟨by omega, by simp only; omega, by simp only [List.length_set]; exact hm, by rw [HS.out, ← hm, last_set hlast]; simp [spStep, h0, hlast, hh]⟩, (by first | (simp only; omega) | omega), by ((repeat (refine Hold.cons (by exact rfl) ?_)); exact Hold.nil), .inr ⟨by ((repeat (refine hdl_cons rfl (by first | rfl | (simp [MV.lt, ltL_I, ltL_R, ltL_setR, splice, MV.cells])) ?_)); exact hdl_nil), by first | rfl | (simp [hltL, ltL, MV.lt, ltL_I, ltL_R, ltL_setR, splice, MV.cells])⟩, by first | exact rfl | (simp only [List.map_append, List.map_set]; exact rfl)⟩)
        · repeat (first | apply ef_seq | (apply ef_mv; exact rfl; exact rfl) | (apply ef_bin; exact rfl; exact rfl; exact rfl; (first | exact cmp_t rfl (by first | exact rfl | (simp only [cmpP]; omega)) | exact cmp_f rfl (by simp only [cmpP]; omega) | ((with_reducible refine bin_sub (wrap_of ?_ ?_)) <;> omega))) | (apply ef_gy; exact rfl; (exact (rfl : true = true))) | (apply ef_pick; exact rfl; exact rfl; exact rfl) | (apply ef_len; exact rfl; exact rfl; (exact rfl)) | (apply ef_ldp; exact rfl; exact rfl; exact rfl; exact rfl; (assumption); (exact rfl)) | (apply ef_iaa; exact rfl; exact rfl; exact rfl; (omega); (omega); (first | exact rfl | exact ok_of rfl rfl rfl)) | (apply ef_fap; exact rfl; exact rfl) | (apply ef_build; exact rfl; (repeat (apply XVs.cons; exact rfl)); exact XVs.nil; exact rfl; exact rfl) | (apply ef_bsl; exact rfl; (repeat (apply XVs.cons; exact rfl)); exact XVs.nil; exact rfl) | apply ef_nil | apply seqQ.normal | apply ef_block | apply ef_skip | (apply ef_condt; exact rfl; (exact (rfl : true = true))) | (apply ef_condf; exact rfl; (exact (rfl : false = false))))
          (apply ef_app; (· exact rfl); (· exact rfl); (· exact rfl); (· exact rfl); (· exact rfl); (· exact rfl); (· (simp only [List.length_map]; omega)); (· exact rfl); (· ((show (acc.map encR).length + 1 ≤ 4000000); rw [List.length_map]; omega)); (· exact rfl); (· exact rfl))
          repeat (first | (apply ef_mv; exact rfl; exact rfl) | (apply ef_bin; exact rfl; exact rfl; exact rfl; (((with_reducible refine bin_add (wrap_of ?_ ?_)) <;> omega))) | apply ef_nil | apply seqQ.normal | apply blockQ.normal)
          (refine loopQ.normal _ _ ⟨(i + 1, m + 1, acc ++ [((i : Int), (i : Int))]), ⟨by omega, by simp only; omega, by simp [hm], happ.out (by simp [spStep, h0, hlast, hh])⟩, (by first | (simp only; omega) | omega), by ((repeat (refine Hold.cons (by exact rfl) ?_)); exact Hold.nil), .inr ⟨by ((repeat (refine hdl_cons rfl (by first | rfl | (simp [MV.lt, ltL_I, ltL_R, ltL_app1, splice, MV.cells])) ?_)); exact hdl_nil), by first | rfl | (simp [hltL, ltL, MV.lt, ltL_I, ltL_R, ltL_app1, splice, MV.cells])⟩, by first | exact rfl | (simp only [List.map_append, List.map_set]; exact rfl)⟩)
  · repeat (first | apply ef_seq | (apply ef_mv; exact rfl; exact rfl) | (apply ef_bin; exact rfl; exact rfl; exact rfl; (exact cmp_f rfl (by simp only [cmpP]; omega))) | apply ef_nil | apply seqQ.normal | apply loopQ.exit | apply ef_ret | apply ef_exit | apply seqQ.exit | apply blockQ.here | (apply ef_condf; exact rfl; (exact (rfl : false = false))))
    have hac : sp = acc := by rw [hz, List.drop_eq_nil_of_le (by omega)]; rfl
    subst hac hm
    (apply fin_al; (· exact rfl); (· exact rfl); (· exact rfl); (· exact rfl); (· exact rfl); (· simp); (· exact ltL_R 0 _); (· exact rfl); (· exact rfl); (· exact rfl))
end Go.Proofs.Ytgjpdjihjphbdaa

/- Contracts: spoilt pieces of the reference, copies, equal pieces. -/
namespace Go.Proofs.Ytgjpdjihjphbdaa
open Go.RowKit
theorem mf_rCopyFixes : MT.mf 79 = some ⟨6, [(.tmp 2)], (.seq (.reg [⟨none, some 2, .nil0 3⟩]) (.seq (.reg [⟨none, some 3, .bsl (.agg [(.lit (.int .i64 0)), (.lit (.int .i64 0)), (.lit (.int .i64 0))]) 3 0 []⟩, ⟨none, some 4, .mv (.s 0)⟩, ⟨none, some 5, .app 3 (.s 3) (.s 4)⟩, ⟨none, some 2, .mv (.s 5)⟩]) .ret))⟩ := by kernel_rfl
theorem rCopyFixes_z (k : Nat) (xs : List Fx) (hx : xs.length ≤ 1000000) : runZ MT (orA k) (itA k) 4000000 79 [.sl (xs.map encX)] [] = some (.arr 0 0 xs.length 0, [⟨0, false, 3, xs.map encX⟩]) := by
  refine runZ_of mf_rCopyFixes (by simp) ?_
  simp only [argsL]
  cases xs with
  | nil =>
    repeat (first | apply ef_seq | (apply ef_mv; exact rfl; exact rfl) | (apply ef_nil0; exact rfl) | (apply ef_bsl; exact rfl; (repeat (apply XVs.cons; exact rfl)); exact XVs.nil; exact rfl) | apply ef_nil | apply seqQ.normal)
    (apply ef_app0; (· exact rfl); (· exact rfl); (· exact rfl); (· exact rfl); (· exact rfl); (· exact rfl); (· exact rfl); (· exact rfl))
    repeat (first | (apply ef_mv; exact rfl; exact rfl) | apply ef_nil | apply seqQ.normal | apply ef_ret)
    (apply fin_arr; (· exact rfl); (· exact rfl); (· exact rfl); (· exact rfl); (· simp); (· exact rfl); (· exact rfl); (· exact rfl); (· exact rfl); (· exact rfl))
  | cons x xs =>
    have hs : ((x :: xs).map encX).all (MV.sOk 3) = true := by
      rw [List.all_eq_true]
      intro m hm
      obtain ⟨⟨a, b, c⟩, _, rfl⟩ := List.mem_map.1 hm
      rfl
    repeat (first | apply ef_seq | (apply ef_mv; exact rfl; exact rfl) | (apply ef_nil0; exact rfl) | (apply ef_bsl; exact rfl; (repeat (apply XVs.cons; exact rfl)); exact XVs.nil; exact rfl) | apply ef_nil | apply seqQ.normal)
    (apply ef_app; (· exact rfl); (· exact rfl); (· exact rfl); (· exact rfl); (· exact rfl); (· exact rfl); (· exact rfl); (· exact rfl); (· (simp at hx ⊢; omega)); (· exact hs); (· exact rfl))
    repeat (first | (apply ef_mv; exact rfl; exact rfl) | apply ef_nil | apply seqQ.normal | apply ef_ret)
    (apply fin_arr; (· exact rfl); (· exact rfl); (· exact rfl); (· exact rfl); (· simp); (· (exact ltL_X 0 (x :: xs))); (· (simp; rw [List.take_of_length_le (by simp)])); (· exact rfl); (· exact rfl); (· (simp)))
theorem pureL_X (xs : List Fx) : pureL (xs.map encX) = true := pureL_lits (fun ⟨_, _, _⟩ => rfl) xs
theorem rCopyFixes_c (k : Nat) (xs : List Fx) (h : MHeap) {v : MV} (hx : xs.length ≤ 1000000) (hv : frz 0 [] h 8 v = some (.sl (xs.map encX))) : orA (k + 1) 79 [v] h = some (.arr h.length 0 xs.length 0, h ++ [⟨0, false, 3, xs.map encX⟩]) := by
  have := callA (k := k) (args := [v]) (args' := [.sl (xs.map encX)]) (h := h) (by simp [List.mapM_cons, hv]) rfl (rCopyFixes_z k xs hx) rfl (by simp [okH, ltL_X, pureL_X])
  simpa [shV, sh1] using this
theorem SpoiltIn_gc (k : Nat) (a b c d e : Int) (fs : List Fx) (h : MHeap) {v : MV} (hx : fs.length ≤ 1000) (he : fixE ⟨a, b, c, d, e⟩ fs = 0) (hv : frz 0 [] h 8 v = some (.sl (fs.map encX))) : orA (k + 8) 80 [.agg [I64 a, I64 b, I64 c, I64 d, I64 e], v] h = some (.tup [.arr h.length 0 (spoilt ⟨a, b, c, d, e⟩ fs).length 0, I64 0], h ++ [⟨0, nlN (spoilt ⟨a, b, c, d, e⟩ fs).length, 2, (spoilt ⟨a, b, c, d, e⟩ fs).map encR⟩]) := by
  have := callA (rul_args hv) rfl (SpoiltIn_z k a b c d e fs hx he) (by simp [okV, ok1, MV.lt, MV.pure]) (by simp [okH, ltL_R, pureL_R])
  simpa [shV, sh1] using this
end Go.Proofs.Ytgjpdjihjphbdaa

/- Wider rules give no further reasons (no program). -/
namespace Go.Proofs.Ytgjpdjihjphbdaa
theorem reasons_at {r : Ru} {fs : List Fx} {i : Nat} (h : i < fs.length) : (reasonsL r fs)[i]? = some (reasonOf r fs i) := rng_get _ h
end Go.Proofs.Ytgjpdjihjphbdaa

/- Fixes over a row of a lowest surface: plain laws (no program). -/
namespace Go.Proofs.Ytgjpdjihjphbdaa
set_option linter.unusedVariables false
theorem Dst.back {t : Tk} {s p : Nd} {f g : Nd → Option Nat} (hf : Dst t s f) (hg : Dst t p g) : ∀ (i : Nat) (q : Nd) (j : Nat), f q = some i → g q = some j → ∃ m, g s = some m ∧ m ≤ j + i
  | 0, q, j, h1, h2 => by
    have := hf.zero q h1
    subst this
    exact ⟨j, h2, by omega⟩
  | i + 1, q, j, h1, h2 => by
    obtain ⟨r, h3, h4⟩ := hf.par q i h1
    have hr := hf.rng r i h3
    obtain ⟨j', h5, h6⟩ := hg.cls q j r h2 (h4.symm hr)
    obtain ⟨m, h7, h8⟩ := hf.back hg i r j' h3 h5
    exact ⟨m, h7, by omega⟩
theorem Dst.sym {t : Tk} {s p : Nd} {f g : Nd → Option Nat} (hf : Dst t s f) (hg : Dst t p g) {k : Nat} (h : f p = some k) : g s = some k := by
  obtain ⟨m, h1, h2⟩ := hf.back hg k p 0 h hg.src
  obtain ⟨n, h3, h4⟩ := hg.back hf m s 0 h1 hf.src
  rw [h] at h3
  cases h3
  rw [h1]
  congr 1
  omega
theorem Dst.low {t : Tk} {s p : Nd} {f : Nd → Option Nat} {L : List (List Int)} (hf : Dst t s f) (hL : Lea t L) {k : Nat} (h : f p = some k) (he : t.need p.1 p.2 - (k : Int) * t.cb = atP L s) : atP L p = t.need p.1 p.2 := by
  have h1 := hf.ask hL k p h
  have h2 := hf.rng p k h
  have h3 := hL.1.ab p.1 p.2 h2.1 h2.2.1 h2.2.2
  rw [Int.mul_comm] at he
  unfold atP at *
  omega
theorem row_near {t : Tk} {L : List (List Int)} (hL : Lea t L) {y x : Nat} (hy : y < t.H) (hx : x + 1 < t.W) (hr : (y : Int) ∈ t.rows) : at2 L y (x + 1) - at2 L y x ≤ t.cb ∧ at2 L y x - at2 L y (x + 1) ≤ t.cb := by
  have hf : ∀ x, t.fl y x = true := fun x => by
    unfold Tk.fl
    rw [Bool.or_eq_true]
    exact .inl (List.contains_iff_mem.2 hr)
  have h1 := hL.1.st y (x + 1) y x hy hx (hf _) ⟨hy, by omega, .inl ⟨hr, rfl, .inr rfl⟩⟩
  have h2 := hL.1.st y x y (x + 1) hy (by omega) (hf _) ⟨hy, hx, .inl ⟨hr, rfl, .inl rfl⟩⟩
  omega
def rowX (t : Tk) (L : List (List Int)) (y n : Nat) : List Fx := (List.range n).map fun x => ⟨0, at2 L y x - at2 t.ter y x, 0⟩
theorem rowX_succ (t : Tk) (L : List (List Int)) (y n : Nat) : rowX t L y (n + 1) = rowX t L y n ++ [⟨0, at2 L y n - at2 t.ter y n, 0⟩] := by
  unfold rowX; rw [List.range_succ, List.map_append]; rfl
theorem rowX_len (t : Tk) (L : List (List Int)) (y n : Nat) : (rowX t L y n).length = n := by simp [rowX]
theorem rowX_off (t : Tk) (L : List (List Int)) (y n j : Nat) : offA 0 (rowX t L y n) j = false := by
  unfold offA rowX
  rw [List.getElem?_map]
  cases h : (List.range n)[j]? with
  | none => rfl
  | some x => simp [offB, inB]
theorem rowX_run (t : Tk) (L : List (List Int)) (y n m i : Nat) : runR (offA 0 (rowX t L y n)) m i = 0 := by
  unfold runR
  rw [rowX_off]
  simp
theorem rowX_reason {t : Tk} {L : List (List Int)} {y n i : Nat} {lo : Int} (hi : i < n) (hh : at2 L y i - at2 t.ter y i ≤ 10000) : reasonOf ⟨0, 0, lo, 10000, 0⟩ (rowX t L y n) i = if at2 L y i - at2 t.ter y i < lo then 1 else 0 := by
  unfold reasonOf
  have e : (rowX t L y n)[i]? = some ⟨0, at2 L y i - at2 t.ter y i, 0⟩ := rng_get _ hi
  rw [e]
  simp only [rowX_run]
  split
  · rfl
  · rw [if_neg (by omega)]; simp
theorem spoiltF_zero : ∀ (l : List Int) (i : Nat), (∀ x ∈ l, x = 0) → spoiltF [] i l = []
  | [], i, _ => rfl
  | x :: l, i, h => by
    have hx := h x List.mem_cons_self
    subst hx
    have := spoiltF_zero l (i + 1) fun x hx => h x (List.mem_cons_of_mem _ hx)
    simpa [spoiltF, spStep] using this
theorem rowX_spoilt {t : Tk} {L : List (List Int)} {y n : Nat} {lo : Int} (h : ∀ i, i < n → lo ≤ at2 L y i - at2 t.ter y i ∧ at2 L y i - at2 t.ter y i ≤ 10000) : spoilt ⟨0, 0, lo, 10000, 0⟩ (rowX t L y n) = [] := by
  unfold spoilt
  refine spoiltF_zero _ _ fun x hx => ?_
  unfold reasonsL at hx
  obtain ⟨i, hi, rfl⟩ := List.mem_map.1 hx
  rw [List.mem_range, rowX_len] at hi
  obtain ⟨h1, h2⟩ := h i hi
  rw [rowX_reason hi h2, if_neg (by omega)]
theorem rowX_fixE {t : Tk} {L : List (List Int)} {y n : Nat} {lo : Int} (hn : n ≤ 12) (hl : 0 ≤ lo ∧ lo ≤ 10000) (h : ∀ i, i < n → 0 ≤ at2 L y i - at2 t.ter y i ∧ at2 L y i - at2 t.ter y i ≤ 10000) : fixE ⟨0, 0, lo, 10000, 0⟩ (rowX t L y n) = 0 := by
  have h1 : rulesE ⟨0, 0, lo, 10000, 0⟩ = 0 := by
    have e1 : inB lo 0 10000 = true := inB_iff.2 hl
    have e2 : decide (lo ≤ 10000) = true := decide_eq_true hl.2
    simp only [rulesE, e1, e2]
    rfl
  have h2 : (rowX t L y n).any strangeX = false := by
    rw [List.any_eq_false]
    intro f hf
    unfold rowX at hf
    obtain ⟨i, hi, rfl⟩ := List.mem_map.1 hf
    rw [List.mem_range] at hi
    have e1 := inB_iff.2 (h i hi)
    simp only [strangeX, e1]
    decide
  have h3 : fixesE (rowX t L y n) = 0 := by
    unfold fixesE
    rw [h2, rowX_len, decide_eq_true (by omega)]
    rfl
  unfold fixE
  rw [h1, h3]
  rfl
end Go.Proofs.Ytgjpdjihjphbdaa

/- The examples of the top law, as a contract. -/
namespace Go.Proofs.Ytgjpdjihjphbdaa
open Go.RowKit
theorem awakeK_z : runZ MT (orA 11) (itA 11) 4000000 87 [] [] = some (Bo true, []) := by kernel_rfl
theorem awakeK_c (h : MHeap) : orA 12 87 [] h = some (Bo true, h) := callL (args' := []) rfl rfl awakeK_z
end Go.Proofs.Ytgjpdjihjphbdaa

/- Plain laws of lowest surfaces: more clearance, more climb, more rows; what is accepted. -/
namespace Go.Proofs.Ytgjpdjihjphbdaa
open Go.RowKit
set_option linter.unusedVariables false
theorem surfE_of {t : Tk} {s : List (List Int)} (os : OkZ t s) : surfE t s = 0 := by
  have h1 : s.length = t.ter.length := os.sh.hl
  have h2 : (s.any fun r => !decide (r.length = t.W)) = false := by
    rw [List.any_eq_false]
    intro r hr
    obtain ⟨y, hy, rfl⟩ := List.getElem_of_mem hr
    simp [os.sh.wl y hy]
  rw [surfE_rest h1 h2]
  have h3 : (s.flatten.any fun n => !inB n 0 10000000) = false := by
    rw [List.any_eq_false]
    intro n hn
    obtain ⟨r, hr, hn⟩ := List.mem_flatten.1 hn
    obtain ⟨y, hy, rfl⟩ := List.getElem_of_mem hr
    obtain ⟨x, hx, rfl⟩ := List.getElem_of_mem hn
    have hw := os.sh.wl y hy
    have := os.rg y x (by rw [← os.sh.hl]; exact hy) (by omega)
    rw [at2_get hy hx] at this
    rw [inB_iff.2 this]; simp
  rw [h3]; rfl
theorem Lea.okz {t : Tk} (ok : OkT t) {g : List (List Int)} (hg : Lea t g) : OkZ t g :=
  ⟨hg.1.sh, fun y x hy hx => by have := ok.top hg.pre y x hy hx; omega⟩
def Tk.up (t : Tk) (m : Int) : Tk := { t with cl := t.cl + m }
def Tk.wide (t : Tk) (r : List Int) : Tk := { t with rows := r }
end Go.Proofs.Ytgjpdjihjphbdaa

/- Contracts: remainders, what is kept, nowhere lower, errors of any surface. -/
namespace Go.Proofs.Ytgjpdjihjphbdaa
open Go.RowKit
set_option linter.unusedVariables false
theorem mf_bMod : MT.mf 77 = some ⟨14, [(.tmp 4)], (.seq (.reg [⟨none, some 4, .mv (.c (.lit (.int .i64 0)))⟩]) (.seq (.reg [⟨none, some 5, .mv (.s 0)⟩, ⟨none, some 6, .mv (.s 1)⟩, ⟨none, some 7, .bin .rem (.s 5) (.s 6)⟩, ⟨none, some 0, .mv (.s 7)⟩]) (.seq (.seq (.reg [⟨none, some 8, .mv (.s 0)⟩, ⟨none, some 9, .bin .lss (.s 8) (.c (.lit (.int .i64 0)))⟩]) (.cond (.s 9) (.reg [⟨none, some 10, .mv (.s 0)⟩, ⟨none, some 11, .mv (.s 1)⟩, ⟨none, some 12, .bin .add (.s 10) (.s 11)⟩, ⟨none, some 0, .mv (.s 12)⟩]) .skip)) (.seq (.reg [⟨none, some 13, .mv (.s 0)⟩, ⟨none, some 4, .mv (.s 13)⟩]) .ret))))⟩ := by kernel_rfl
theorem bMod_c (k : Nat) (a b : Int) (h : MHeap) (h0 : 0 < b) (h1 : b ≤ 1000) : orA (k + 1) 77 [I64 a, I64 b] h = some (I64 (a % b), h) := by
  refine callL (frz_lits [.int .i64 a, .int .i64 b]) rfl (runZ_of mf_bMod (by simp) ?_)
  simp only [argsL, List.map_cons, List.map_nil]
  have e1 := Int.emod_nonneg a (show b ≠ 0 by omega)
  have e2 := Int.emod_lt_of_pos a h0
  have hr : binI .rem .i64 a b = some (.int .i64 (a.tmod b)) := by
    simp only [binI]
    rw [if_neg (by omega)]
  have e3 : a.tmod b = a % b ∨ a.tmod b = a % b - b := by
    have := Int.tmod_eq_emod (a := a) (b := b)
    split at this
    · left; omega
    · right; omega
  generalize a.tmod b = v at hr e3
  by_cases hneg : v < 0
  · repeat (first | apply ef_seq | (apply ef_mv; exact rfl; exact rfl) | apply ef_nil | apply seqQ.normal)
    (apply ef_bin; (· exact rfl); (· exact rfl); (· exact rfl); (· exact hr))
    repeat (first | apply ef_seq | (apply ef_mv; exact rfl; exact rfl) | (apply ef_bin; exact rfl; exact rfl; exact rfl; (first | exact cmp_t rfl (by first | exact rfl | (simp only [cmpP]; omega)) | ((with_reducible refine bin_add (wrap_of ?_ ?_)) <;> omega))) | apply ef_nil | apply seqQ.normal | apply ef_ret | (apply ef_condt; exact rfl; (exact (rfl : true = true))))
    (refine fin1 rfl (by exact rfl) rfl ?_)
    rw [show v + b = a % b by omega]
  · repeat (first | apply ef_seq | (apply ef_mv; exact rfl; exact rfl) | apply ef_nil | apply seqQ.normal)
    (apply ef_bin; (· exact rfl); (· exact rfl); (· exact rfl); (· exact hr))
    repeat (first | apply ef_seq | (apply ef_mv; exact rfl; exact rfl) | (apply ef_bin; exact rfl; exact rfl; exact rfl; (exact cmp_f rfl (by simp only [cmpP]; omega))) | apply ef_nil | apply seqQ.normal | apply ef_ret | apply ef_skip | (apply ef_condf; exact rfl; (exact (rfl : false = false))))
    (refine fin1 rfl (by exact rfl) rfl ?_)
    rw [show v = a % b by omega]
theorem rSurfaceErr_v (k : Nat) (t : Tk) (ok : OkT t) (s : List (List Int)) (hs : s.length ≤ 1000) (hr : ∀ r ∈ s, r.length ≤ 1000) (h : MHeap) {v : MV} (hv : frz 0 [] h 8 v = some (.sl (s.map encW))) {e : Int} (he : surfE t s = e) : orA (k + 2) 49 [encT t, v] h = some (I64 e, h) := by
  subst he
  exact callL (args' := [encT t, .sl (s.map encW)]) (by have h2 := frz_lt (h := h) (encT_lt t 0); simp [List.mapM_cons, hv, h2]) rfl (rSurfaceErr_z k t ok s hs hr)
end Go.Proofs.Ytgjpdjihjphbdaa

/- The examples that every law begins with. -/
namespace Go.Proofs.Ytgjpdjihjphbdaa
open Go.RowKit
end Go.Proofs.Ytgjpdjihjphbdaa

/- The law of groups: the walk. -/
namespace Go.Proofs.Ytgjpdjihjphbdaa
open Go.RowKit
end Go.Proofs.Ytgjpdjihjphbdaa

/- The law of fixes over a lowest surface: the walk. -/
namespace Go.Proofs.Ytgjpdjihjphbdaa
open Go.RowKit
set_option linter.unusedVariables false
abbrev kpH (t : Tk) (g : List (List Int)) (y x : Nat) : MHeap := [⟨0, false, 5, [encT t]⟩, ⟨0, false, 1, g.map encW⟩, ⟨x, nlN x, 3, (rowX t g y x).map encX⟩]
theorem kpH_cl (t : Tk) (g : List (List Int)) (y x : Nat) (X : MHeap) : Cl 3 (kpH t g y x ++ X) := by
  refine ⟨by simp, fun j o hj ho => ?_⟩
  match j, hj with
  | 0, _ => cases ho; simp [ltL, MV.lt, ltL_I, ltL_W]
  | 1, _ => cases ho; exact ltL_W 3 g
  | 2, _ => cases ho; exact ltL_X 3 _
theorem mf_TopDrapeKept : MT.mf 13 = some ⟨260, [(.tmp 4)], (.seq (.reg [⟨none, some 2, .box 5 (.s 0)⟩, ⟨none, some 4, .mv (.c (.lit (.bool false)))⟩]) (.seq (.seq (.reg [⟨none, some 20, .call 87 []⟩, ⟨none, some 21, .un .not (.s 20)⟩]) (.cond (.s 21) (.seq (.reg [⟨none, some 4, .mv (.c (.lit (.bool false)))⟩]) .ret) .skip)) (.seq (.seq (.reg [⟨none, some 22, .ld (some 5) (.s 2)⟩, ⟨none, some 23, .call 33 [.s 22]⟩, ⟨none, some 24, .un .not (.s 23)⟩, ⟨none, some 25, .mv (.s 24)⟩, ⟨some (25, false), some 26, .ld (some 5) (.s 2)⟩, ⟨some (25, false), some 27, .call 46 [.s 26]⟩, ⟨some (25, false), some 28, .bin .neq (.s 27) (.c (.lit (.int .i64 0)))⟩, ⟨none, some 29, .pick (.s 25) (.c (.lit (.bool true))) (.s 28)⟩, ⟨none, some 30, .mv (.s 29)⟩, ⟨some (30, false), some 31, .fa 1 (.s 2)⟩, ⟨some (30, false), some 32, .ld none (.s 31)⟩, ⟨some (30, false), some 33, .len (.s 32)⟩, ⟨some (30, false), some 34, .bin .eql (.s 33) (.c (.lit (.int .i64 0)))⟩, ⟨none, some 35, .pick (.s 30) (.c (.lit (.bool true))) (.s 34)⟩]) (.cond (.s 35) (.seq (.reg [⟨none, some 4, .mv (.c (.lit (.bool true)))⟩]) .ret) .skip)) (.seq (.reg [⟨none, some 36, .fa 1 (.s 2)⟩, ⟨none, some 37, .ld none (.s 36)⟩, ⟨none, some 38, .mv (.s 1)⟩, ⟨none, some 39, .fa 1 (.s 2)⟩, ⟨none, some 40, .ld none (.s 39)⟩, ⟨none, some 41, .len (.s 40)⟩, ⟨none, some 42, .call 77 [.s 38, .s 41]⟩, ⟨none, some 43, .ia 1 (.s 37) (.s 42)⟩, ⟨none, some 44, .ld none (.s 43)⟩, ⟨none, some 5, .mv (.s 44)⟩]) (.seq (.reg [⟨none, some 46, .ld (some 5) (.s 2)⟩, ⟨none, some 47, .call 35 [.s 46]⟩, ⟨none, some 48, .call 37 [.s 47]⟩, ⟨none, some 45, .mv (.s 48)⟩, ⟨none, some 49, .ext (.s 45) 0⟩, ⟨none, some 50, .ext (.s 45) 1⟩, ⟨none, some 6, .mv (.s 49)⟩, ⟨none, some 7, .mv (.s 50)⟩]) (.seq (.seq (.reg [⟨none, some 51, .mv (.s 7)⟩, ⟨none, some 52, .bin .neq (.s 51) (.c (.lit (.int .i64 0)))⟩, ⟨none, some 53, .mv (.s 52)⟩, ⟨some (53, false), some 54, .ld (some 5) (.s 2)⟩, ⟨some (53, false), some 55, .mv (.s 6)⟩, ⟨some (53, false), some 56, .call 49 [.s 54, .s 55]⟩, ⟨some (53, false), some 57, .bin .neq (.s 56) (.c (.lit (.int .i64 0)))⟩, ⟨none, some 58, .pick (.s 53) (.c (.lit (.bool true))) (.s 57)⟩]) (.cond (.s 58) (.seq (.reg [⟨none, some 4, .mv (.c (.lit (.bool false)))⟩]) .ret) .skip)) (.seq (.reg [⟨none, some 8, .nil0 3⟩]) (.seq (.seq (.reg [⟨none, some 9, .mv (.c (.lit (.int .i64 0)))⟩]) (.block 0 (.loop [9, 6, 5, 2, 8] (.seq (.seq (.reg [⟨none, some 59, .mv (.s 9)⟩, ⟨none, some 60, .mv (.s 6)⟩, ⟨none, some 61, .mv (.s 5)⟩, ⟨none, some 62, .ia 1 (.s 60) (.s 61)⟩, ⟨none, some 63, .ld none (.s 62)⟩, ⟨none, some 64, .len (.s 63)⟩, ⟨none, some 65, .bin .lss (.s 59) (.s 64)⟩]) (.cond (.s 65) .skip (.exit 0))) (.seq (.block 1 (.seq (.reg [⟨none, some 68, .mv (.s 6)⟩, ⟨none, some 69, .mv (.s 5)⟩, ⟨none, some 70, .ia 1 (.s 68) (.s 69)⟩, ⟨none, some 71, .ld none (.s 70)⟩, ⟨none, some 72, .mv (.s 9)⟩, ⟨none, some 73, .ia 1 (.s 71) (.s 72)⟩, ⟨none, some 74, .ld none (.s 73)⟩, ⟨none, some 75, .fa 0 (.s 2)⟩, ⟨none, some 76, .ld none (.s 75)⟩, ⟨none, some 77, .mv (.s 5)⟩, ⟨none, some 78, .ia 1 (.s 76) (.s 77)⟩, ⟨none, some 79, .ld none (.s 78)⟩, ⟨none, some 80, .mv (.s 9)⟩, ⟨none, some 81, .ia 1 (.s 79) (.s 80)⟩, ⟨none, some 82, .ld none (.s 81)⟩, ⟨none, some 83, .bin .sub (.s 74) (.s 82)⟩, ⟨none, some 10, .mv (.s 83)⟩]) (.seq (.seq (.reg [⟨none, some 84, .mv (.s 9)⟩, ⟨none, some 85, .bin .gtr (.s 84) (.c (.lit (.int .i64 0)))⟩, ⟨none, some 86, .mv (.s 85)⟩, ⟨some (86, true), some 87, .mv (.s 6)⟩, ⟨some (86, true), some 88, .mv (.s 5)⟩, ⟨some (86, true), some 89, .ia 1 (.s 87) (.s 88)⟩, ⟨some (86, true), some 90, .ld none (.s 89)⟩, ⟨some (86, true), some 91, .mv (.s 9)⟩, ⟨some (86, true), some 92, .ia 1 (.s 90) (.s 91)⟩, ⟨some (86, true), some 93, .ld none (.s 92)⟩, ⟨some (86, true), some 94, .mv (.s 6)⟩, ⟨some (86, true), some 95, .mv (.s 5)⟩, ⟨some (86, true), some 96, .ia 1 (.s 94) (.s 95)⟩, ⟨some (86, true), some 97, .ld none (.s 96)⟩, ⟨some (86, true), some 98, .mv (.s 9)⟩, ⟨some (86, true), some 99, .bin .sub (.s 98) (.c (.lit (.int .i64 1)))⟩, ⟨some (86, true), some 100, .ia 1 (.s 97) (.s 99)⟩, ⟨some (86, true), some 101, .ld none (.s 100)⟩, ⟨some (86, true), some 102, .bin .sub (.s 93) (.s 101)⟩, ⟨some (86, true), some 103, .call 88 [.s 102]⟩, ⟨some (86, true), some 104, .fa 4 (.s 2)⟩, ⟨some (86, true), some 105, .ld none (.s 104)⟩, ⟨some (86, true), some 106, .bin .gtr (.s 103) (.s 105)⟩, ⟨none, some 107, .pick (.s 86) (.s 106) (.c (.lit (.bool false)))⟩]) (.cond (.s 107) (.seq (.reg [⟨none, some 4, .mv (.c (.lit (.bool false)))⟩]) .ret) .skip)) (.seq (.reg [⟨none, some 109, .ld (some 5) (.s 2)⟩, ⟨none, some 110, .call 35 [.s 109]⟩, ⟨none, some 111, .mv (.s 9)⟩, ⟨none, some 112, .mv (.s 5)⟩, ⟨none, some 113, .build [(.lit (.int .i64 0)), (.lit (.int .i64 0))] [(0, (1, (.s 111))), (1, (1, (.s 112)))]⟩, ⟨none, some 114, .call 45 [.s 110, .s 113]⟩, ⟨none, some 108, .mv (.s 114)⟩, ⟨none, some 115, .ext (.s 108) 0⟩, ⟨none, some 116, .ext (.s 108) 1⟩, ⟨none, some 11, .new (.agg [(.lit (.int .i64 0)), (.lit (.int .i64 0))])⟩, ⟨none, none, .st 2 (.s 11) (.s 115)⟩, ⟨none, some 12, .mv (.s 116)⟩]) (.seq (.seq (.reg [⟨none, some 117, .mv (.s 12)⟩, ⟨none, some 118, .bin .neq (.s 117) (.c (.lit (.int .i64 0)))⟩, ⟨none, some 119, .mv (.s 118)⟩, ⟨some (119, false), some 120, .ld (some 5) (.s 2)⟩, ⟨some (119, false), some 121, .fa 0 (.s 11)⟩, ⟨some (119, false), some 122, .ld none (.s 121)⟩, ⟨some (119, false), some 123, .fa 1 (.s 11)⟩, ⟨some (119, false), some 124, .ld none (.s 123)⟩, ⟨some (119, false), some 125, .call 47 [.s 120, .s 122, .s 124]⟩, ⟨some (119, false), some 126, .un .not (.s 125)⟩, ⟨none, some 127, .pick (.s 119) (.c (.lit (.bool true))) (.s 126)⟩]) (.cond (.s 127) (.seq (.reg [⟨none, some 4, .mv (.c (.lit (.bool false)))⟩]) .ret) .skip)) (.seq (.reg [⟨none, some 128, .ld (some 5) (.s 2)⟩, ⟨none, some 129, .ld (some 2) (.s 11)⟩, ⟨none, some 130, .call 50 [.s 128, .s 129]⟩, ⟨none, some 13, .mv (.s 130)⟩]) (.seq (.seq (.reg [⟨none, some 131, .mv (.s 13)⟩, ⟨none, some 132, .mv (.s 5)⟩, ⟨none, some 133, .ia 1 (.s 131) (.s 132)⟩, ⟨none, some 134, .ld none (.s 133)⟩, ⟨none, some 135, .mv (.s 9)⟩, ⟨none, some 136, .ia 1 (.s 134) (.s 135)⟩, ⟨none, some 137, .ld none (.s 136)⟩, ⟨none, some 138, .bin .lss (.s 137) (.c (.lit (.int .i64 0)))⟩, ⟨none, some 139, .mv (.s 138)⟩, ⟨some (139, false), some 140, .mv (.s 6)⟩, ⟨some (139, false), some 141, .mv (.s 5)⟩, ⟨some (139, false), some 142, .ia 1 (.s 140) (.s 141)⟩, ⟨some (139, false), some 143, .ld none (.s 142)⟩, ⟨some (139, false), some 144, .mv (.s 9)⟩, ⟨some (139, false), some 145, .ia 1 (.s 143) (.s 144)⟩, ⟨some (139, false), some 146, .ld none (.s 145)⟩, ⟨some (139, false), some 147, .ld (some 5) (.s 2)⟩, ⟨some (139, false), some 148, .fa 0 (.s 11)⟩, ⟨some (139, false), some 149, .ld none (.s 148)⟩, ⟨some (139, false), some 150, .fa 1 (.s 11)⟩, ⟨some (139, false), some 151, .ld none (.s 150)⟩, ⟨some (139, false), some 152, .call 51 [.s 147, .s 149, .s 151]⟩, ⟨some (139, false), some 153, .fa 4 (.s 2)⟩, ⟨some (139, false), some 154, .ld none (.s 153)⟩, ⟨some (139, false), some 155, .mv (.s 13)⟩, ⟨some (139, false), some 156, .mv (.s 5)⟩, ⟨some (139, false), some 157, .ia 1 (.s 155) (.s 156)⟩, ⟨some (139, false), some 158, .ld none (.s 157)⟩, ⟨some (139, false), some 159, .mv (.s 9)⟩, ⟨some (139, false), some 160, .ia 1 (.s 158) (.s 159)⟩, ⟨some (139, false), some 161, .ld none (.s 160)⟩, ⟨some (139, false), some 162, .bin .mul (.s 154) (.s 161)⟩, ⟨some (139, false), some 163, .bin .sub (.s 152) (.s 162)⟩, ⟨some (139, false), some 164, .bin .neq (.s 146) (.s 163)⟩, ⟨none, some 165, .pick (.s 139) (.c (.lit (.bool true))) (.s 164)⟩, ⟨none, some 166, .mv (.s 165)⟩, ⟨some (166, false), some 167, .mv (.s 6)⟩, ⟨some (166, false), some 168, .fa 1 (.s 11)⟩, ⟨some (166, false), some 169, .ld none (.s 168)⟩, ⟨some (166, false), some 170, .ia 1 (.s 167) (.s 169)⟩, ⟨some (166, false), some 171, .ld none (.s 170)⟩, ⟨some (166, false), some 172, .fa 0 (.s 11)⟩, ⟨some (166, false), some 173, .ld none (.s 172)⟩, ⟨some (166, false), some 174, .ia 1 (.s 171) (.s 173)⟩, ⟨some (166, false), some 175, .ld none (.s 174)⟩, ⟨some (166, false), some 176, .ld (some 5) (.s 2)⟩, ⟨some (166, false), some 177, .fa 0 (.s 11)⟩, ⟨some (166, false), some 178, .ld none (.s 177)⟩, ⟨some (166, false), some 179, .fa 1 (.s 11)⟩, ⟨some (166, false), some 180, .ld none (.s 179)⟩, ⟨some (166, false), some 181, .call 51 [.s 176, .s 178, .s 180]⟩, ⟨some (166, false), some 182, .bin .neq (.s 175) (.s 181)⟩, ⟨none, some 183, .pick (.s 166) (.c (.lit (.bool true))) (.s 182)⟩]) (.cond (.s 183) (.seq (.reg [⟨none, some 4, .mv (.c (.lit (.bool false)))⟩]) .ret) .skip)) (.seq (.seq (.reg [⟨none, some 184, .mv (.s 10)⟩, ⟨none, some 185, .call 22 [.s 184, (.c (.lit (.int .i64 0))), (.c (.lit (.int .i64 10000)))]⟩, ⟨none, some 186, .un .not (.s 185)⟩]) (.cond (.s 186) (.seq (.reg [⟨none, some 187, .mv (.s 10)⟩, ⟨none, some 188, .bin .gtr (.s 187) (.c (.lit (.int .i64 0)))⟩, ⟨none, some 4, .mv (.s 188)⟩]) .ret) .skip)) (.reg [⟨none, some 189, .mv (.s 8)⟩, ⟨none, some 190, .mv (.s 10)⟩, ⟨none, some 191, .build [(.lit (.int .i64 0)), (.lit (.int .i64 0)), (.lit (.int .i64 0))] [(1, (1, (.s 190)))]⟩, ⟨none, some 192, .bsl (.agg [(.lit (.int .i64 0)), (.lit (.int .i64 0)), (.lit (.int .i64 0))]) 3 1 [(0, (.s 191))]⟩, ⟨none, some 193, .app 3 (.s 189) (.s 192)⟩, ⟨none, some 8, .mv (.s 193)⟩]))))))))) (.reg [⟨none, some 66, .mv (.s 9)⟩, ⟨none, some 67, .bin .add (.s 66) (.c (.lit (.int .i64 1)))⟩, ⟨none, some 9, .mv (.s 67)⟩])))))) (.seq (.reg [⟨none, some 194, .fa 3 (.s 2)⟩, ⟨none, some 195, .ld none (.s 194)⟩, ⟨none, some 196, .build [(.lit (.int .i64 0)), (.lit (.int .i64 0)), (.lit (.int .i64 0)), (.lit (.int .i64 0)), (.lit (.int .i64 0))] [(2, (1, (.s 195))), (3, (1, (.c (.lit (.int .i64 10000)))))]⟩, ⟨none, some 14, .new (.agg [(.lit (.int .i64 0)), (.lit (.int .i64 0)), (.lit (.int .i64 0)), (.lit (.int .i64 0)), (.lit (.int .i64 0))])⟩, ⟨none, none, .st 5 (.s 14) (.s 196)⟩]) (.seq (.reg [⟨none, some 198, .ld (some 5) (.s 14)⟩, ⟨none, some 199, .mv (.s 8)⟩, ⟨none, some 200, .call 79 [.s 199]⟩, ⟨none, some 201, .call 80 [.s 198, .s 200]⟩, ⟨none, some 197, .mv (.s 201)⟩, ⟨none, some 202, .ext (.s 197) 0⟩, ⟨none, some 203, .ext (.s 197) 1⟩, ⟨none, some 15, .mv (.s 202)⟩, ⟨none, some 16, .mv (.s 203)⟩]) (.seq (.seq (.reg [⟨none, some 204, .mv (.s 16)⟩, ⟨none, some 205, .bin .neq (.s 204) (.c (.lit (.int .i64 0)))⟩, ⟨none, some 206, .mv (.s 205)⟩, ⟨some (206, false), some 207, .mv (.s 15)⟩, ⟨some (206, false), some 208, .len (.s 207)⟩, ⟨some (206, false), some 209, .bin .neq (.s 208) (.c (.lit (.int .i64 0)))⟩, ⟨none, some 210, .pick (.s 206) (.c (.lit (.bool true))) (.s 209)⟩]) (.cond (.s 210) (.seq (.reg [⟨none, some 4, .mv (.c (.lit (.bool false)))⟩]) .ret) .skip)) (.seq (.seq (.reg [⟨none, some 211, .fa 3 (.s 2)⟩, ⟨none, some 212, .ld none (.s 211)⟩, ⟨none, some 213, .bin .eql (.s 212) (.c (.lit (.int .i64 10000)))⟩]) (.cond (.s 213) (.seq (.reg [⟨none, some 4, .mv (.c (.lit (.bool true)))⟩]) .ret) .skip)) (.seq (.reg [⟨none, some 214, .fa 3 (.s 2)⟩, ⟨none, some 215, .ld none (.s 214)⟩, ⟨none, some 216, .bin .add (.s 215) (.c (.lit (.int .i64 1)))⟩, ⟨none, some 217, .fa 2 (.s 14)⟩, ⟨none, none, .st 1 (.s 217) (.s 216)⟩]) (.seq (.reg [⟨none, some 219, .ld (some 5) (.s 14)⟩, ⟨none, some 220, .mv (.s 8)⟩, ⟨none, some 221, .call 78 [.s 219, .s 220]⟩, ⟨none, some 218, .mv (.s 221)⟩, ⟨none, some 222, .ext (.s 218) 0⟩, ⟨none, some 223, .ext (.s 218) 1⟩, ⟨none, some 17, .mv (.s 222)⟩, ⟨none, some 18, .mv (.s 223)⟩]) (.seq (.seq (.reg [⟨none, some 224, .mv (.s 18)⟩, ⟨none, some 225, .bin .neq (.s 224) (.c (.lit (.int .i64 0)))⟩, ⟨none, some 226, .mv (.s 225)⟩, ⟨some (226, false), some 227, .mv (.s 17)⟩, ⟨some (226, false), some 228, .len (.s 227)⟩, ⟨some (226, false), some 229, .mv (.s 6)⟩, ⟨some (226, false), some 230, .mv (.s 5)⟩, ⟨some (226, false), some 231, .ia 1 (.s 229) (.s 230)⟩, ⟨some (226, false), some 232, .ld none (.s 231)⟩, ⟨some (226, false), some 233, .len (.s 232)⟩, ⟨some (226, false), some 234, .bin .neq (.s 228) (.s 233)⟩, ⟨none, some 235, .pick (.s 226) (.c (.lit (.bool true))) (.s 234)⟩]) (.cond (.s 235) (.seq (.reg [⟨none, some 4, .mv (.c (.lit (.bool false)))⟩]) .ret) .skip)) (.seq (.seq (.reg [⟨none, some 19, .mv (.c (.lit (.int .i64 0)))⟩]) (.block 2 (.loop [19, 17, 6, 5, 2] (.seq (.seq (.reg [⟨none, some 236, .mv (.s 19)⟩, ⟨none, some 237, .mv (.s 17)⟩, ⟨none, some 238, .len (.s 237)⟩, ⟨none, some 239, .bin .lss (.s 236) (.s 238)⟩]) (.cond (.s 239) .skip (.exit 2))) (.seq (.block 3 (.seq (.reg [⟨none, some 242, .mv (.s 17)⟩, ⟨none, some 243, .mv (.s 19)⟩, ⟨none, some 244, .ia 1 (.s 242) (.s 243)⟩, ⟨none, some 245, .ld none (.s 244)⟩, ⟨none, some 246, .bin .eql (.s 245) (.c (.lit (.int .i64 1)))⟩, ⟨none, some 247, .mv (.s 6)⟩, ⟨none, some 248, .mv (.s 5)⟩, ⟨none, some 249, .ia 1 (.s 247) (.s 248)⟩, ⟨none, some 250, .ld none (.s 249)⟩, ⟨none, some 251, .mv (.s 19)⟩, ⟨none, some 252, .ia 1 (.s 250) (.s 251)⟩, ⟨none, some 253, .ld none (.s 252)⟩, ⟨none, some 254, .ld (some 5) (.s 2)⟩, ⟨none, some 255, .mv (.s 19)⟩, ⟨none, some 256, .mv (.s 5)⟩, ⟨none, some 257, .call 51 [.s 254, .s 255, .s 256]⟩, ⟨none, some 258, .bin .eql (.s 253) (.s 257)⟩, ⟨none, some 259, .beq true (.s 246) (.s 258)⟩]) (.cond (.s 259) (.seq (.reg [⟨none, some 4, .mv (.c (.lit (.bool false)))⟩]) .ret) .skip))) (.reg [⟨none, some 240, .mv (.s 19)⟩, ⟨none, some 241, .bin .add (.s 240) (.c (.lit (.int .i64 1)))⟩, ⟨none, some 19, .mv (.s 241)⟩])))))) (.seq (.reg [⟨none, some 4, .mv (.c (.lit (.bool true)))⟩]) .ret)))))))))))))))))⟩ := by kernel_rfl
set_option maxHeartbeats 4000000 in
theorem TopDrapeKept_z (t : Tk) (n : Int) (m1 : t.ter.length ≤ 9223372036854775807) (m2 : t.rows.length ≤ 9223372036854775807) (m3 : t.ties.length ≤ 9223372036854775807) (m4 : ∀ r ∈ t.ter, r.length ≤ 9223372036854775807) :
    runZ MT (orA 12) (itA 12) 4000000 13 [encT t, I64 n] [] = some (Bo true, []) := by
  have hs2 : (MV.sl (t.rows.map I64)).slen = some t.rows.length := by simp [MV.slen]
  refine runZ_of mf_TopDrapeKept (by simp) ?_
  simp only [argsL]
  cases hf : fewT t
  · have hfw := fun h => Few_c 11 t m1 m2 m3 m4 h hf
    repeat (first | apply ef_seq | (apply ef_mv; exact rfl; exact rfl) | (apply ef_gn; exact rfl; (exact (rfl : true = true)); exact rfl) | (apply ef_pick; exact rfl; exact rfl; exact rfl) | (apply ef_ldp; exact rfl; exact rfl; (exact rfl); exact rfl; (exact rfl); (exact rd_5 rfl rfl rfl rfl rfl)) | (apply ef_notT; exact rfl; exact rfl) | (apply ef_notF; exact rfl; exact rfl) | (apply ef_box; exact rfl; exact rfl; exact rfl; exact rfl) | apply ef_nil | apply seqQ.normal | apply ef_ret | apply seqQ.ret | apply ef_skip | (apply ef_condt; exact rfl; (exact (rfl : true = true))) | (apply ef_condf; exact rfl; (exact (rfl : false = false))) | (apply ef_call; exact rfl; ((repeat (apply XVs.cons; exact rfl)); exact XVs.nil); (with_reducible first | exact awakeK_c _ | exact hfw _)))
    (refine fin1 rfl (by exact rfl) rfl ?_)
    rfl
  have hfw := fun h => Few_c 11 t m1 m2 m3 m4 h hf
  obtain ⟨bd, -, bd2, -⟩ := fewT_bd hf
  have hcp := fun h => CopyTask_c 9 t bd h
  have hte := fun h => TaskErr_c 8 t bd h
  obtain ⟨hR1, -⟩ := taskF_rel t
  rw [hR1] at hte
  by_cases h0' : (taskF id t).2 ≠ 0
  · generalize (taskF id t).2 = e at *
    clear hR1 m1 m2 m3 m4
    repeat (first | apply ef_seq | (apply ef_mv; exact rfl; exact rfl) | (apply ef_bin; exact rfl; exact rfl; exact rfl; (exact cmp_t rfl (by first | exact rfl | (simp only [cmpP]; omega)))) | (apply ef_gy; exact rfl; (exact (rfl : false = false))) | (apply ef_gn; exact rfl; (exact (rfl : true = true)); exact rfl) | (apply ef_pick; exact rfl; exact rfl; exact rfl) | (apply ef_ldp; exact rfl; exact rfl; (exact rfl); exact rfl; (exact rfl); (exact rd_5 rfl rfl rfl rfl rfl)) | (apply ef_notT; exact rfl; exact rfl) | (apply ef_box; exact rfl; exact rfl; exact rfl; exact rfl) | apply ef_nil | apply seqQ.normal | apply ef_ret | apply seqQ.ret | apply ef_skip | (apply ef_condt; exact rfl; (exact (rfl : true = true))) | (apply ef_condf; exact rfl; (exact (rfl : false = false))) | (apply ef_call; exact rfl; ((repeat (apply XVs.cons; exact rfl)); exact XVs.nil); (with_reducible first | exact awakeK_c _ | exact hfw _ | exact hte _)))
    (refine fin1 rfl (by exact rfl) rfl ?_)
    simp
  have h0 : (taskF id t).2 = 0 := by omega
  have ok := (task_ok h0).1
  rw [h0] at hte
  by_cases hrl : t.rows.length = 0
  · clear hR1 m1 m2 m3 m4
    repeat (first | apply ef_seq | (apply ef_mv; exact rfl; exact rfl) | (apply ef_bin; exact rfl; exact rfl; exact rfl; (first | exact cmp_t rfl (by first | exact rfl | (simp only [cmpP]; omega)) | exact cmp_f rfl (by simp only [cmpP]; omega))) | (apply ef_gy; exact rfl; (exact (rfl : false = false))) | (apply ef_pick; exact rfl; exact rfl; exact rfl) | (apply ef_len; exact rfl; exact rfl; (assumption)) | (apply ef_ldp; exact rfl; exact rfl; (exact rfl); exact rfl; (exact rfl); (first | exact rd_5 rfl rfl rfl rfl rfl | exact rfl)) | (apply ef_fap; exact rfl; exact rfl) | (apply ef_notT; exact rfl; exact rfl) | (apply ef_box; exact rfl; exact rfl; exact rfl; exact rfl) | apply ef_nil | apply seqQ.normal | apply ef_ret | apply seqQ.ret | apply ef_skip | (apply ef_condt; exact rfl; (exact (rfl : true = true))) | (apply ef_condf; exact rfl; (exact (rfl : false = false))) | (apply ef_call; exact rfl; ((repeat (apply XVs.cons; exact rfl)); exact XVs.nil); (with_reducible first | exact awakeK_c _ | exact hfw _ | exact hte _)))
    (refine fin1 rfl (by exact rfl) rfl ?_)
    simp
  obtain ⟨h1, h2⟩ := ok.h1
  obtain ⟨w1, w2⟩ := ok.w1
  obtain ⟨c1, c2⟩ := ok.cb
  obtain ⟨l1, l2⟩ := ok.cl
  have e1 := Int.emod_nonneg n (show (t.rows.length : Int) ≠ 0 by omega)
  have e2 := Int.emod_lt_of_pos n (show 0 < (t.rows.length : Int) by omega)
  obtain ⟨i, hi⟩ : ∃ i : Nat, n % (t.rows.length : Int) = (i : Int) := ⟨(n % (t.rows.length : Int)).toNat, by omega⟩
  have hmod := fun h => bMod_c 11 n (t.rows.length : Int) h (by omega) (by omega)
  rw [hi] at hmod e2
  have hil : i < t.rows.length := by omega
  obtain ⟨hy1, hy2⟩ := ok.rs.1 _ (List.getElem_mem hil)
  obtain ⟨y, hyv⟩ : ∃ y : Nat, t.rows[i] = (y : Int) := ⟨(t.rows[i]).toNat, by omega⟩
  have hrow : (y : Int) ∈ t.rows := hyv ▸ List.getElem_mem hil
  have hyl : y < t.ter.length := by omega
  have hel : (t.rows.map I64)[((i : Nat) : Int).toNat]? = some (I64 (y : Int)) := by
    rw [Int.toNat_natCast, List.getElem?_map, List.getElem?_eq_getElem hil, hyv]; rfl
  obtain ⟨g, hg⟩ := ok.lea
  have hlo := fun h => Lowest_ok 4 bd h0 hg h
  have hgl : g.length = t.ter.length := hg.1.sh.hl
  have hgw := hg.1.sh.row (y := y) hyl
  have hse := rSurfaceErr_v 10 t ok g (by omega) (fun r hr => by
    obtain ⟨y, hy, rfl⟩ := List.getElem_of_mem hr
    have := hg.1.sh.wl y hy
    omega) [⟨0, false, 5, [encT t]⟩, ⟨0, false, 1, g.map encW⟩] (v := .arr 1 0 t.ter.length 0) (fz_arr (h := [⟨0, false, 5, [encT t]⟩, ⟨0, false, 1, g.map encW⟩]) (id := 1) (k := t.ter.length) rfl rfl (by simp [hgl]) (ltL_W 0 g) rfl).now (surfE_of (hg.okz ok))
  have r1 := encW_at (g := g) (y := y) (by omega)
  have r2 : (encW (g.getD y [])).slen = some t.W := by simp [MV.slen]; exact hgw
  clear hR1 m1 m2 m3 m4 hf
  repeat (first | apply ef_seq | (apply ef_mv; exact rfl; exact rfl) | (apply ef_bin; exact rfl; exact rfl; exact rfl; (exact cmp_f rfl (by simp only [cmpP]; omega))) | (apply ef_gy; exact rfl; (exact (rfl : false = false))) | (apply ef_pick; exact rfl; exact rfl; exact rfl) | (apply ef_len; exact rfl; exact rfl; (assumption)) | (apply ef_ldr; exact rfl; exact rfl; (exact rfl)) | (apply ef_ldp; exact rfl; exact rfl; (exact rfl); exact rfl; (exact rfl); (first | exact rd_5 rfl rfl rfl rfl rfl | exact rfl)) | (apply ef_ias; exact rfl; exact rfl; exact rfl; (omega); assumption; exact rfl) | (apply ef_fap; exact rfl; exact rfl) | (apply ef_notT; exact rfl; exact rfl) | (apply ef_ext; exact rfl; exact rfl; exact rfl) | (apply ef_box; exact rfl; exact rfl; exact rfl; exact rfl) | apply ef_nil | apply seqQ.normal | apply ef_skip | (apply ef_condf; exact rfl; (exact (rfl : false = false))) | (apply ef_call; exact rfl; ((repeat (apply XVs.cons; exact rfl)); exact XVs.nil); (with_reducible first | exact awakeK_c _ | exact hfw _ | exact hte _ | exact hmod _ | exact hcp _ | exact hlo _)))
  (apply ef_call; (· exact rfl); (· ((repeat (apply XVs.cons; exact rfl)); exact XVs.nil)); · exact hse)
  repeat (first | apply ef_seq | (apply ef_mv; exact rfl; exact rfl) | (apply ef_bin; exact rfl; exact rfl; exact rfl; (exact cmp_f rfl (by simp only [cmpP]; omega))) | (apply ef_gy; exact rfl; (exact (rfl : false = false))) | (apply ef_pick; exact rfl; exact rfl; exact rfl) | (apply ef_nil0; exact rfl) | apply ef_nil | apply seqQ.normal | apply ef_block | apply ef_skip | (apply ef_condf; exact rfl; (exact (rfl : false = false))))
  clear hte hmod hlo hse hfw
  have hfl : ∀ x, t.fl y x = true := fun x => by
    unfold Tk.fl
    rw [Bool.or_eq_true]
    exact .inl (List.contains_iff_mem.2 hrow)
  have t1 : (t.ter.map encW)[((y : Nat) : Int).toNat]? = some (encW (t.ter.getD y [])) := by
    rw [Int.toNat_natCast, List.getElem?_map, List.getD_eq_getElem?_getD, List.getElem?_eq_getElem hyl]; rfl
  have hlow : ∀ x, x < t.W → t.cl ≤ at2 g y x - at2 t.ter y x := fun x hx => by
    have := hg.1.ab y x hyl hx (hfl x)
    unfold Tk.need at this
    omega
  refine ef_loopg (α := Nat) (fun x => x ≤ t.W ∧ ∀ j, j < x → at2 g y j - at2 t.ter y j ≤ 10000) (fun x => [(9, I64 (x : Int)), (8, .arr 2 0 x x)]) [(6, .arr 1 0 t.ter.length 0), (5, I64 (y : Int)), (2, .ptr 0 0 0 0)] (fun x => kpH t g y x) (fun x => t.W - x) 0 [9, 8] (fun _ => rfl) (by ((repeat (refine Hold.cons (by exact rfl) ?_)); exact Hold.nil)) (by ((repeat (refine Hold.cons (by exact rfl) ?_)); exact Hold.nil)) rfl rfl rfl ⟨Nat.zero_le _, fun j hj => by omega⟩ (by simp; omega) ?_
  rintro x ⟨hx, hall⟩
  try simp only at hx hall ⊢
  by_cases hlt : x < t.W
  · have r3 : ((g.getD y []).map I64)[((x : Nat) : Int).toNat]? = some (I64 (at2 g y x)) := cell_at (by omega)
    obtain ⟨tb1, tb2, tb3⟩ := ok.at hyl hlt
    have t2 : ((t.ter.getD y []).map I64)[((x : Nat) : Int).toNat]? = some (I64 (at2 t.ter y x)) := cell_at tb1
    have tb2 : 0 ≤ at2 t.ter y x := tb2
    have tb3 : at2 t.ter y x ≤ 10000 := tb3
    obtain ⟨a1, a2⟩ := ok.top hg.pre y x hyl hlt
    have hs : t.inP (y, x) := ⟨hyl, hlt, hfl x⟩
    obtain ⟨L, hD, hvl, -⟩ := steps_c 0 t ok hs
    obtain ⟨p0, q1, q2, q3⟩ := hit_some hD hg c1
    obtain ⟨⟨py, px⟩, hp⟩ := first_node q1 q2 q3
    obtain ⟨kp, hm, hr⟩ : ∃ kp, mF L (py, px) = some kp ∧ t.need py px - (kp : Int) * t.cb = at2 g y x := by
      have hy := hp.yes
      unfold hitF at hy
      cases hm : mF L (py, px) with
      | none => rw [hm] at hy; cases hy
      | some kp =>
        rw [hm] at hy
        exact ⟨kp, rfl, of_decide_eq_true hy⟩
    have hpin := hD.rng _ _ hm
    have hpy : py < t.ter.length := hpin.1
    have hpx : px < t.W := hpin.2.1
    obtain ⟨L', hD', hvl', -⟩ := steps_c 0 t ok hpin
    have hm' : mF L' (y, x) = some kp := hD.sym hD' hm
    have hpl : at2 g py px = t.need py px := hD.low hg hm hr
    have hk := hvl _ _ hm
    have hfo := fun h => ForceOn_ok 4 bd h0 hs hg hD hp h
    have hrf := fun h => rFlown_c 10 t bd h1 (px : Int) (py : Int) h ((t.flI_nat hpy hpx).trans hpin.2.2)
    have hst := fun h => rSteps_c 9 ok bd hpin hD' h
    have hnd := fun h => rNeed_c 11 t ok hpy hpx h
    obtain ⟨n1, n2⟩ := ok.need hpy hpx
    have s1 := encW_at (g := stG t (mF L')) (y := y) (by rw [stG_len]; exact hyl)
    have s3 : (((stG t (mF L')).getD y []).map I64)[((x : Nat) : Int).toNat]? = some (I64 (at2 (stG t (mF L')) y x)) := cell_at (by rw [stG_w hyl]; exact hlt)
    have hv := stG_at (f := mF L') hyl hlt
    rw [hm'] at hv
    have hv : at2 (stG t (mF L')) y x = (kp : Int) := hv
    rw [hv] at s3
    have s4 := encW_at (g := g) (y := py) (by omega)
    have hgp := hg.1.sh.row (y := py) hpy
    have s5 : ((g.getD py []).map I64)[((px : Nat) : Int).toNat]? = some (I64 (at2 g py px)) := cell_at (by omega)
    rw [hpl] at s5
    have hm1 : 0 ≤ t.cb * (kp : Int) := Int.mul_nonneg c1 (by omega)
    have hm2 : t.cb * (kp : Int) ≤ 10000 * 144 := Int.mul_le_mul c2 (by omega) (by omega) (by omega)
    rw [Int.mul_comm] at hr
    have hb := hlow x hlt
    simp only [clM] at hfo
    clear q1 q2 q3 hp hD hD' hvl hvl' hm hm' hv p0
    obtain ⟨w, hw⟩ : ∃ w, inB (at2 g y x - at2 t.ter y x) 0 10000 = w := ⟨_, rfl⟩
    have hwi := fun h => Within_c 11 (at2 g y x - at2 t.ter y x) 0 10000 h hw
    have r4 : ((g.getD y []).map I64)[((x : Int) - 1).toNat]? = some (I64 (at2 g y (x - 1))) := by
      rw [show ((x : Int) - 1).toNat = ((x - 1 : Nat) : Int).toNat by omega]; exact cell_at (by omega)
    obtain ⟨a3, a4⟩ := ok.top hg.pre y (x - 1) hyl (by omega)
    have hmx : mx (at2 g y x - at2 g y (x - 1)) (0 - (at2 g y x - at2 g y (x - 1))) ≤ t.cb := by
      by_cases hx0 : 0 < x
      · have hnear := row_near hg (y := y) (x := x - 1) hyl (by omega) hrow
        rw [show x - 1 + 1 = x by omega] at hnear
        unfold mx; split <;> omega
      · rw [show x - 1 = x by omega]
        unfold mx; split <;> omega
    have hsz := fun h => bSize2_c 11 (at2 g y x - at2 g y (x - 1)) h (by omega) (by omega)
    have hnext : w = true → (x + 1 ≤ t.W ∧ ∀ j, j < x + 1 → at2 g y j - at2 t.ter y j ≤ 10000) := fun hwt => ⟨hlt, fun j hj => by
      by_cases e : j = x
      · subst e
        rw [hwt] at hw
        exact (inB_iff.1 hw).2
      · exact hall j (by omega)⟩
    have hend : w = false → 0 < at2 g y x - at2 t.ter y x := fun hwf => by
      rw [hwf] at hw
      have : ¬ (0 ≤ at2 g y x - at2 t.ter y x ∧ at2 g y x - at2 t.ter y x ≤ 10000) := fun h => by
        rw [inB_iff.2 h] at hw; cases hw
      omega
    have hX := rowX_succ t g y x
    have hXl := rowX_len t g y x
    clear hw hall
    by_cases hx0 : 0 < x
    all_goals
      repeat (first | apply ef_seq | (apply ef_mv; exact rfl; exact rfl) | (apply ef_bin; exact rfl; exact rfl; exact rfl; (first | exact cmp_t rfl (by first | exact rfl | (simp only [cmpP]; omega)) | exact cmp_f rfl (by simp only [cmpP]; omega) | ((with_reducible refine bin_sub (wrap_of ?_ ?_)) <;> omega))) | (apply ef_gy; exact rfl; (exact (rfl : true = true))) | (apply ef_gn; exact rfl; (exact (rfl : false = false)); exact rfl) | (apply ef_pick; exact rfl; exact rfl; exact rfl) | (apply ef_len; exact rfl; exact rfl; (assumption)) | (apply ef_ldr; exact rfl; exact rfl; (exact rfl)) | (apply ef_ldp; exact rfl; exact rfl; (exact rfl); exact rfl; (first | exact rfl | assumption); (first | exact rd_5 rfl rfl rfl rfl rfl | exact rfl)) | (apply ef_ias; exact rfl; exact rfl; exact rfl; (omega); assumption; exact rfl) | (apply ef_iaa; exact rfl; exact rfl; exact rfl; (omega); (omega); (exact rfl)) | (apply ef_fap; exact rfl; exact rfl) | (apply ef_build; exact rfl; (repeat (apply XVs.cons; exact rfl)); exact XVs.nil; exact rfl; exact rfl) | apply ef_nil | apply seqQ.normal | apply ef_block | apply ef_skip | (apply ef_condt; exact rfl; (exact (rfl : true = true))) | (apply ef_condf; exact rfl; (exact (rfl : false = false))) | (apply ef_call; exact rfl; ((repeat (apply XVs.cons; exact rfl)); exact XVs.nil); (with_reducible first | exact hsz _ | exact hcp _)))
      (apply ef_call; (· exact rfl); (· ((repeat (apply XVs.cons; exact rfl)); exact XVs.nil)); · exact hfo _)
      repeat (first | apply ef_seq | (apply ef_mv; exact rfl; exact rfl) | (apply ef_bin; exact rfl; exact rfl; exact rfl; (first | exact cmp_f rfl (by simp only [cmpP]; omega) | ((with_reducible refine bin_sub (wrap_of ?_ ?_)) <;> omega) | ((with_reducible refine bin_mul (wrap_of ?_ ?_)) <;> omega))) | (apply ef_gy; exact rfl; (exact (rfl : false = false))) | (apply ef_pick; exact rfl; exact rfl; exact rfl) | (apply ef_ldr; exact rfl; exact rfl; (exact rfl)) | (apply ef_ldp; exact rfl; exact rfl; (exact rfl); exact rfl; (first | exact rfl | assumption); (first | exact rd_2 rfl rfl | exact rd_5 rfl rfl rfl rfl rfl | exact rfl)) | (apply ef_ias; exact rfl; exact rfl; exact rfl; (omega); assumption; exact rfl) | (apply ef_iaa; exact rfl; exact rfl; exact rfl; (omega); (omega); (exact rfl)) | (apply ef_fap; exact rfl; exact rfl) | (apply ef_notT; exact rfl; exact rfl) | (apply ef_not; exact rfl; exact rfl; exact rfl) | (apply ef_ext; exact rfl; exact rfl; exact rfl) | (apply ef_newst; exact rfl; exact rfl; exact rfl; exact rfl; exact rfl) | apply ef_nil | apply seqQ.normal | apply ef_skip | (apply ef_condf; exact rfl; (exact (rfl : false = false))) | (apply ef_call; exact rfl; ((repeat (apply XVs.cons; exact rfl)); exact XVs.nil); (with_reducible first | exact hrf _ | exact hst _ | exact hnd _ | exact hwi _)))
      cases w
      · have hpos := hend rfl
        repeat (first | apply ef_seq | (apply ef_mv; exact rfl; exact rfl) | (apply ef_bin; exact rfl; exact rfl; exact rfl; (exact cmp_t rfl (by first | exact rfl | (simp only [cmpP]; omega)))) | apply ef_nil | apply seqQ.normal | apply loopQ.ret | apply ef_ret | apply seqQ.ret | apply blockQ.ret | (apply ef_condt; exact rfl; (exact (rfl : true = true))))
        (refine fin1 rfl (by exact rfl) rfl ?_)
        simp [hpos]
      · repeat (first | (apply ef_mv; exact rfl; exact rfl) | (apply ef_build; exact rfl; (repeat (apply XVs.cons; exact rfl)); exact XVs.nil; exact rfl; exact rfl) | (apply ef_bsl; exact rfl; (repeat (apply XVs.cons; exact rfl)); exact XVs.nil; exact rfl) | apply seqQ.normal | apply ef_skip | (apply ef_condf; exact rfl; (exact (rfl : false = false))))
        refine ef_app (ht := by exact rfl) (o := ⟨x, nlN x, 3, (rowX t g y x).map encX⟩) (v := .arr 5 0 1 0) (e := encX ⟨0, at2 g y x - at2 t.ter y x, 0⟩) (xs := []) (by exact rfl) (by exact rfl) (by exact rfl) (by exact rfl) rfl (by simp [hXl]) rfl (by simp [hXl]; omega) rfl rfl ?_
        repeat (first | (apply ef_mv; exact rfl; exact rfl) | (apply ef_bin; exact rfl; exact rfl; exact rfl; (((with_reducible refine bin_add (wrap_of ?_ ?_)) <;> omega))) | apply ef_nil | apply seqQ.normal | apply blockQ.normal)
        refine loopQ.normal _ _ ⟨x + 1, hnext rfl, by omega, ⟨by ((repeat (refine Hold.cons (by exact rfl) ?_)); exact Hold.nil), by ((repeat (refine Hold.cons (by exact rfl) ?_)); exact Hold.nil)⟩, HeadIs.tkE [⟨0, false, 2, [posI (px : Int) (py : Int)]⟩, ⟨0, false, 1, (stG t (mF L')).map encW⟩, ⟨0, false, 3, [encX ⟨0, at2 g y x - at2 t.ter y x, 0⟩]⟩] (by unfold kpH; rw [hX, List.map_append]; rfl) rfl (kpH_cl t g y (x + 1) _) fun u hu => ?_⟩
        simp only [List.mem_cons, List.not_mem_nil, or_false] at hu
        rcases hu with rfl | rfl | rfl | rfl | rfl
        · exact ⟨_, by exact rfl, rfl⟩
        · exact ⟨.arr 1 0 t.ter.length 0, by exact rfl, rfl⟩
        · exact ⟨_, by exact rfl, rfl⟩
        · exact ⟨.ptr 0 0 0 0, by exact rfl, rfl⟩
        · exact ⟨.arr 2 0 (x + 1) (x + 1), by exact rfl, rfl⟩
  · obtain rfl : x = t.W := by omega
    have hh := fun j (hj : j < t.W) => And.intro (hlow j hj) (hall j hj)
    have hsp := rowX_spoilt (t := t) (L := g) (y := y) (n := t.W) hh
    have hXl := rowX_len t g y t.W
    have hE1 := rowX_fixE (t := t) (L := g) (y := y) (n := t.W) w2 ⟨l1, l2⟩ fun j hj => ⟨by have := hlow j hj; omega, hall j hj⟩
    have hcf := rCopyFixes_c 11 (rowX t g y t.W) (kpH t g y t.W ++ [⟨0, false, 5, [.agg [I64 0, I64 0, I64 t.cl, I64 10000, I64 0]]⟩]) (v := .arr 2 0 t.W t.W) (by omega) (frz_arr (o := ⟨t.W, nlN t.W, 3, (rowX t g y t.W).map encX⟩) rfl rfl (by simp [hXl]) (ltL_X 0 _) (by rw [List.drop_zero, List.take_of_length_le (by simp [hXl])]))
    have hsi := SpoiltIn_gc 4 0 0 t.cl 10000 0 (rowX t g y t.W) (kpH t g y t.W ++ [⟨0, false, 5, [.agg [I64 0, I64 0, I64 t.cl, I64 10000, I64 0]]⟩] ++ [⟨0, false, 3, (rowX t g y t.W).map encX⟩]) (v := .arr 4 0 (rowX t g y t.W).length 0) (by omega) hE1 (fz_arr (h := kpH t g y t.W ++ [⟨0, false, 5, [.agg [I64 0, I64 0, I64 t.cl, I64 10000, I64 0]]⟩] ++ [⟨0, false, 3, (rowX t g y t.W).map encX⟩]) (id := 4) rfl rfl (by simp) (ltL_X 0 _) rfl).now
    rw [hsp] at hsi
    repeat (first | apply ef_seq | (apply ef_mv; exact rfl; exact rfl) | (apply ef_bin; exact rfl; exact rfl; exact rfl; (exact cmp_f rfl (by simp only [cmpP]; omega))) | (apply ef_len; exact rfl; exact rfl; (assumption)) | (apply ef_ldp; exact rfl; exact rfl; (exact rfl); exact rfl; (first | exact rfl | assumption); (first | exact rd_5 rfl rfl rfl rfl rfl | exact rfl)) | (apply ef_iaa; exact rfl; exact rfl; exact rfl; (omega); (omega); (exact rfl)) | (apply ef_fap; exact rfl; exact rfl) | (apply ef_newst; exact rfl; exact rfl; exact rfl; exact rfl; exact rfl) | (apply ef_build; exact rfl; (repeat (apply XVs.cons; exact rfl)); exact XVs.nil; exact rfl; exact rfl) | apply ef_nil | apply seqQ.normal | apply loopQ.exit | apply ef_exit | apply seqQ.exit | apply blockQ.here | (apply ef_condf; exact rfl; (exact (rfl : false = false))))
    (apply ef_call; (· exact rfl); (· ((repeat (apply XVs.cons; exact rfl)); exact XVs.nil)); · exact hcf)
    (apply ef_call; (· exact rfl); (· ((repeat (apply XVs.cons; exact rfl)); exact XVs.nil)); · exact hsi)
    by_cases hc : t.cl = 10000
    · repeat (first | apply ef_seq | (apply ef_mv; exact rfl; exact rfl) | (apply ef_bin; exact rfl; exact rfl; exact rfl; (first | exact cmp_t rfl (by first | exact rfl | (simp only [cmpP]; omega)) | exact cmp_f rfl (by simp only [cmpP]; omega) | exact rfl)) | (apply ef_gy; exact rfl; (exact (rfl : false = false))) | (apply ef_pick; exact rfl; exact rfl; exact rfl) | (apply ef_len; exact rfl; exact rfl; (exact rfl)) | (apply ef_ldp; exact rfl; exact rfl; (exact rfl); exact rfl; (exact rfl); (exact rfl)) | (apply ef_fap; exact rfl; exact rfl) | (apply ef_ext; exact rfl; exact rfl; exact rfl) | apply ef_nil | apply seqQ.normal | apply ef_ret | apply seqQ.ret | apply ef_skip | (apply ef_condt; exact rfl; (exact (rfl : true = true))) | (apply ef_condf; exact rfl; (exact (rfl : false = false))))
      (refine fin1 rfl (by exact rfl) rfl ?_)
      simp
    · have hE2 := rowX_fixE (t := t) (L := g) (y := y) (n := t.W) (lo := t.cl + 1) w2 ⟨by omega, by omega⟩ fun j hj => ⟨by have := hlow j hj; omega, hall j hj⟩
      have hre := ReasonsOf_gc 5 0 0 (t.cl + 1) 10000 0 (rowX t g y t.W) (kpH t g y t.W ++ [⟨0, false, 5, [.agg [I64 0, I64 0, I64 (t.cl + 1), I64 10000, I64 0]]⟩] ++ [⟨0, false, 3, (rowX t g y t.W).map encX⟩] ++ [⟨0, nlN ([] : List (Int × Int)).length, 2, ([] : List (Int × Int)).map encR⟩]) (v := .arr 2 0 t.W t.W) (by omega) hE2 (frz_arr (o := ⟨t.W, nlN t.W, 3, (rowX t g y t.W).map encX⟩) rfl rfl (by simp [hXl]) (ltL_X 0 _) (by rw [List.drop_zero, List.take_of_length_le (by simp [hXl])]))
      rw [hXl] at hre
      repeat (first | apply ef_seq | (apply ef_mv; exact rfl; exact rfl) | (apply ef_bin; exact rfl; exact rfl; exact rfl; (first | exact cmp_f rfl (by simp only [cmpP]; omega) | ((with_reducible refine bin_add (wrap_of ?_ ?_)) <;> omega) | exact rfl)) | (apply ef_gy; exact rfl; (exact (rfl : false = false))) | (apply ef_pick; exact rfl; exact rfl; exact rfl) | (apply ef_len; exact rfl; exact rfl; (exact rfl)) | (apply ef_ldp; exact rfl; exact rfl; (exact rfl); exact rfl; (exact rfl); (first | exact rd_5 rfl rfl rfl rfl rfl | exact rfl)) | (apply ef_fap; exact rfl; exact rfl) | (apply ef_ext; exact rfl; exact rfl; exact rfl) | (apply ef_st; exact rfl; exact rfl; exact rfl; exact rfl; exact rfl; exact rfl; (exact rfl); exact rfl) | apply ef_nil | apply seqQ.normal | apply ef_skip | (apply ef_condf; exact rfl; (exact (rfl : false = false))))
      (apply ef_call; (· exact rfl); (· ((repeat (apply XVs.cons; exact rfl)); exact XVs.nil)); · exact hre)
      repeat (first | apply ef_seq | (apply ef_mv; exact rfl; exact rfl) | (apply ef_bin; exact rfl; exact rfl; exact rfl; (exact cmp_f rfl (by simp only [cmpP]; omega))) | (apply ef_gy; exact rfl; (exact (rfl : false = false))) | (apply ef_pick; exact rfl; exact rfl; exact rfl) | (apply ef_len; exact rfl; exact rfl; (first | assumption | exact rfl)) | (apply ef_ldp; exact rfl; exact rfl; (exact rfl); exact rfl; (assumption); (exact rfl)) | (apply ef_iaa; exact rfl; exact rfl; exact rfl; (omega); (omega); (exact rfl)) | (apply ef_ext; exact rfl; exact rfl; exact rfl) | apply ef_nil | apply seqQ.normal | apply ef_block | apply ef_skip | (apply ef_condf; exact rfl; (exact (rfl : false = false))))
      refine ef_loopf (α := Nat) (fun i => i ≤ t.W) (fun i => [(19, I64 (i : Int))]) [(17, .arr 6 0 t.W 0), (6, .arr 1 0 t.ter.length 0), (5, I64 (y : Int)), (2, .ptr 0 0 0 0)] (fun _ => _) (fun i => t.W - i) 0 [19] (fun _ => rfl) (by ((repeat (refine Hold.cons (by exact rfl) ?_)); exact Hold.nil)) (by ((repeat (refine Hold.cons (by exact rfl) ?_)); exact Hold.nil)) rfl rfl (Nat.zero_le _) (by simp; omega) ?_
      intro j hj
      try simp only at hj ⊢
      by_cases hlt : j < t.W
      · have fe : ((reasonsL ⟨0, 0, t.cl + 1, 10000, 0⟩ (rowX t g y t.W)).map I64)[0 + ((j : Nat) : Int).toNat]? = some (I64 (if at2 g y j - at2 t.ter y j < t.cl + 1 then 1 else 0)) := by
          rw [Nat.zero_add, Int.toNat_natCast, List.getElem?_map, reasons_at (by rw [hXl]; exact hlt), rowX_reason hlt (hall j hlt)]; rfl
        have r3 : ((g.getD y []).map I64)[((j : Nat) : Int).toNat]? = some (I64 (at2 g y j)) := cell_at (by omega)
        have hnd := fun h => rNeed_c 11 t ok hyl hlt h
        have hl := hlow j hlt
        have hne : t.need y j = at2 t.ter y j + t.cl := rfl
        by_cases hq : at2 g y j = t.need y j
        · rw [if_pos (by omega)] at fe
          repeat (first | apply ef_seq | (apply ef_mv; exact rfl; exact rfl) | (apply ef_bin; exact rfl; exact rfl; exact rfl; (first | exact cmp_t rfl (by first | exact rfl | (simp only [cmpP]; omega)) | ((with_reducible refine bin_add (wrap_of ?_ ?_)) <;> omega))) | (apply ef_len; exact rfl; exact rfl; (exact rfl)) | (apply ef_ldr; exact rfl; exact rfl; (exact rfl)) | (apply ef_ldp; exact rfl; exact rfl; (exact rfl); exact rfl; (first | exact rfl | assumption); (first | exact rd_5 rfl rfl rfl rfl rfl | exact rfl)) | (apply ef_ias; exact rfl; exact rfl; exact rfl; (omega); assumption; exact rfl) | (apply ef_iaa; exact rfl; exact rfl; exact rfl; (omega); (omega); (exact rfl)) | (apply ef_beq; exact rfl; exact rfl; exact rfl) | apply ef_nil | apply seqQ.normal | apply blockQ.normal | apply ef_block | apply ef_skip | (apply ef_condt; exact rfl; (exact (rfl : true = true))) | (apply ef_condf; exact rfl; (exact (rfl : false = false))) | (apply ef_call; exact rfl; ((repeat (apply XVs.cons; exact rfl)); exact XVs.nil); (with_reducible exact hnd _)))
          (refine loopQ.normal _ _ ⟨j + 1, (by show j + 1 ≤ t.W; omega), (by first | (simp only; omega) | omega), ⟨by ((repeat (refine Hold.cons (by exact rfl) ?_)); exact Hold.nil), by ((repeat (refine Hold.cons (by exact rfl) ?_)); exact Hold.nil)⟩, .inl (Nat.le_refl _), (by first | exact List.take_length | exact rfl | exact takeF rfl rfl)⟩)
        · rw [if_neg (by omega)] at fe
          repeat (first | apply ef_seq | (apply ef_mv; exact rfl; exact rfl) | (apply ef_bin; exact rfl; exact rfl; exact rfl; (first | exact cmp_t rfl (by first | exact rfl | (simp only [cmpP]; omega)) | exact cmp_f rfl (by simp only [cmpP]; omega) | ((with_reducible refine bin_add (wrap_of ?_ ?_)) <;> omega))) | (apply ef_len; exact rfl; exact rfl; (exact rfl)) | (apply ef_ldr; exact rfl; exact rfl; (exact rfl)) | (apply ef_ldp; exact rfl; exact rfl; (exact rfl); exact rfl; (first | exact rfl | assumption); (first | exact rd_5 rfl rfl rfl rfl rfl | exact rfl)) | (apply ef_ias; exact rfl; exact rfl; exact rfl; (omega); assumption; exact rfl) | (apply ef_iaa; exact rfl; exact rfl; exact rfl; (omega); (omega); (exact rfl)) | (apply ef_beq; exact rfl; exact rfl; exact rfl) | apply ef_nil | apply seqQ.normal | apply blockQ.normal | apply ef_block | apply ef_skip | (apply ef_condt; exact rfl; (exact (rfl : true = true))) | (apply ef_condf; exact rfl; (exact (rfl : false = false))) | (apply ef_call; exact rfl; ((repeat (apply XVs.cons; exact rfl)); exact XVs.nil); (with_reducible exact hnd _)))
          (refine loopQ.normal _ _ ⟨j + 1, (by show j + 1 ≤ t.W; omega), (by first | (simp only; omega) | omega), ⟨by ((repeat (refine Hold.cons (by exact rfl) ?_)); exact Hold.nil), by ((repeat (refine Hold.cons (by exact rfl) ?_)); exact Hold.nil)⟩, .inl (Nat.le_refl _), (by first | exact List.take_length | exact rfl | exact takeF rfl rfl)⟩)
      · repeat (first | apply ef_seq | (apply ef_mv; exact rfl; exact rfl) | (apply ef_bin; exact rfl; exact rfl; exact rfl; (exact cmp_f rfl (by simp only [cmpP]; omega))) | (apply ef_len; exact rfl; exact rfl; (exact rfl)) | apply ef_nil | apply seqQ.normal | apply loopQ.exit | apply ef_ret | apply ef_exit | apply seqQ.exit | apply blockQ.here | (apply ef_condf; exact rfl; (exact (rfl : false = false))))
        (refine fin1 rfl (by exact rfl) rfl ?_)
        rfl
end Go.Proofs.Ytgjpdjihjphbdaa

/- Open values of tasks. -/
namespace Go.Proofs.Ytgjpdjihjphbdaa
open Go.ChangeShapes Go.WideShapes Go.ChangeAt Go.RowKit
def taskSh : Sh := .agg [.slice (.slice (.int .i64)), .slice (.int .i64), .slice (.int .i64), .int .i64, .int .i64]
theorem fits_lists {m : MV} (h : Fits (.slice (.slice (.int .i64))) m) : ∃ g : List (List Int), m = .sl (g.map encW) ∧ g.length ≤ maxLen ∧ ∀ r ∈ g, r.length ≤ maxLen := by
  rw [Fits] at h
  obtain ⟨es, rfl, hl, he⟩ := h
  induction es with
  | nil => exact ⟨[], rfl, by simp, fun n hn => by cases hn⟩
  | cons e es ih =>
    obtain ⟨r, rfl, hr, _⟩ := fits_ints (he e List.mem_cons_self)
    obtain ⟨g, h1, h2, h3⟩ := ih (by simp at hl; omega) fun e h => he e (List.mem_cons_of_mem _ h)
    have e1 : es = g.map encW := by simpa using h1
    subst e1
    refine ⟨r :: g, rfl, by simpa using hl, fun k hk => ?_⟩
    rcases List.mem_cons.1 hk with rfl | hk
    · exact hr
    · exact h3 k hk
theorem fits_task {m : MV} (h : Fits taskSh m) : ∃ t : Tk, m = encT t ∧ t.ter.length ≤ 9223372036854775807 ∧ t.rows.length ≤ 9223372036854775807 ∧ t.ties.length ≤ 9223372036854775807 ∧ ∀ r ∈ t.ter, r.length ≤ 9223372036854775807 := by
  obtain ⟨ms, h', rfl⟩ := fits_agg h
  obtain ⟨m1, r1, rfl, h1, h⟩ := fitsL_cons h'
  obtain ⟨m2, r2, rfl, h2, h⟩ := fitsL_cons h
  obtain ⟨m3, r3, rfl, h3, h⟩ := fitsL_cons h
  obtain ⟨m4, r4, rfl, h4, h⟩ := fitsL_cons h
  obtain ⟨m5, r5, rfl, h5, h⟩ := fitsL_cons h
  obtain rfl := fitsL_nil h
  obtain ⟨g, rfl, hg, hr⟩ := fits_lists h1
  obtain ⟨rs, rfl, hrs, _⟩ := fits_ints h2
  obtain ⟨ts, rfl, hts, _⟩ := fits_ints h3
  obtain ⟨a, rfl, _⟩ := fits_int h4
  obtain ⟨b, rfl, _⟩ := fits_int h5
  exact ⟨⟨g, rs, ts, a, b⟩, rfl, Nat.le_trans hg maxLen_le, Nat.le_trans hrs maxLen_le, Nat.le_trans hts maxLen_le, fun r h => Nat.le_trans (hr r h) maxLen_le⟩
end Go.Proofs.Ytgjpdjihjphbdaa
