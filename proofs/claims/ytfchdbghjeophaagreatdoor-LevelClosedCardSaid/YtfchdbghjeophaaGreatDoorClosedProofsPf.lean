/- LevelClosed: the walk. -/
import Derived.Test.YtfchdbghjeophaaGreatDoorClosedProofsPe
/- Contracts: a net with other differences. -/
namespace Go.Proofs.YtfchdbghjeophaaGreatDoor
open Go.RowKit
set_option linter.unusedVariables false
set_option linter.unusedSimpArgs false
def setD (x : Cr) (d : Int) : Cr := ⟨x.ln, x.ti, x.pa, x.pt, d, x.wt⟩
def wiU (cs : List Cr) (ds : List Int) : Nat → List Cr
 | 0 => cs
 | i + 1 => (wiU cs ds i).set i (setD (cs.getD i default) (cAt ds i))
def nW (n : Nt) (ds : List Int) : Nt := ⟨n.ls, wiU n.cs ds n.cs.length⟩
theorem wiU_len (cs : List Cr) (ds : List Int) : ∀ i, (wiU cs ds i).length = cs.length
 | 0 => rfl
 | i + 1 => by rw [wiU, List.length_set, wiU_len cs ds i]
theorem wiU_at (cs : List Cr) (ds : List Int) : ∀ i j, i ≤ j → (wiU cs ds i)[j]? = cs[j]?
 | 0, j, _ => rfl
 | i + 1, j, h => by rw [wiU, List.getElem?_set_ne (by omega)]; exact wiU_at cs ds i j (by omega)
theorem wiU_next {cs : List Cr} {ds : List Int} {i : Nat} {x : Cr} (h : cs[i]? = some x) : wiU cs ds (i + 1) = (wiU cs ds i).set i (setD x (cAt ds i)) := by
 rw [wiU, List.getD_eq_getElem?_getD, h]; rfl
theorem mf_with : MT.mf 49 = some mfW_l49 := mfW_q49
set_option maxHeartbeats 2000000 in
theorem with_z (k : Nat) (l : Ln) (ls : List Ln) (c : Cr) (cs : List Cr) (h1 : (l :: ls).length ≤ 1000) (h2 : (c :: cs).length ≤ 1000) (ds : List Int) (hd : ds.length = (c :: cs).length) :
  runZ MT (orA (k + 1)) (itA (k + 1)) 4000000 49 [encN ⟨l :: ls, c :: cs⟩, .sl (ds.map I64)] [] = some (encN (nW ⟨l :: ls, c :: cs⟩ ds), []) := by
 have hs3 : (MV.sl (ds.map I64)).slen = some ds.length := by simp [MV.slen]
 have w1 := fun h => CloneL_c k l ls h1 h
 have w2 := fun h => CloneC_c k c cs h2 h
 refine runZ_of mf_with (by simp) ?_
 simp only [argsL]
 generalize hL : l :: ls = L at *
 generalize hC : c :: cs = C at *
 repeat (first | apply ef_seq | (apply ef_mv; exact rfl; exact rfl) | (apply ef_len; exact rfl; exact rfl; (assumption)) | (apply ef_ldp; exact rfl; exact rfl; (exact rfl); exact rfl; (exact rfl); (exact rfl)) | (apply ef_fap; exact rfl; exact rfl) | (apply ef_box; (iterate 4 exact rfl)) | (apply ef_new; exact rfl) | (apply ef_build; exact rfl; (repeat (apply XVs.cons; exact rfl)); exact XVs.nil; exact rfl; exact rfl) | (apply ef_nilck; (iterate 3 exact rfl)) | (apply ef_st; (iterate 6 exact rfl); (exact rfl); exact rfl) | apply ef_nil | apply seqQ.normal | apply ef_block | (apply ef_call; exact rfl; ((repeat (apply XVs.cons; exact rfl)); exact XVs.nil); (with_reducible first | exact w1 _ | exact w2 _)))
 refine ef_loopf (α := Nat × List MV) (fun p => p.1 ≤ C.length ∧ p.2 = (wiU C ds p.1).map encCr) (fun p => [(20, I64 (p.1 : Int))]) [(19, I64 (ds.length : Int)), (18, .sl (ds.map I64)), (5, .ptr 2 0 0 0), (4, .ptr 1 0 0 0)] (fun p => [⟨0, false, 2, [encN ⟨L, C⟩]⟩, ⟨0, false, 2, [.agg [.lit (.slice none 0 0), .lit (.slice none 0 0)]]⟩, ⟨0, false, 2, [.agg [.arr 3 0 L.length 0, .arr 4 0 C.length 0]]⟩, ⟨0, false, 2, L.map encLn⟩, ⟨0, false, 6, p.2⟩]) (fun p => C.length - p.1) (0, C.map encCr) [20] (fun _ => rfl) (by ((repeat (refine Hold.cons (by exact rfl) ?_)); exact Hold.nil)) (by ((repeat (refine Hold.cons (by exact rfl) ?_)); exact Hold.nil)) rfl rfl ⟨by omega, rfl⟩ (by simp; omega) ?_
 rintro ⟨i, rs⟩ ⟨hi, hrs⟩
 try simp only at hi hrs ⊢
 have hrl : rs.length = C.length := by rw [hrs]; simp [wiU_len]
 by_cases hlt : i < C.length
 ·have e1 := at_map I64 ds i (by omega)
  have hat : C[i]? = some C[i] := List.getElem?_eq_getElem hlt
  have e2 : rs[0 + ((i : Nat) : Int).toNat]? = some (encCr C[i]) := by
   rw [hrs, Nat.zero_add, Int.toNat_natCast, List.getElem?_map, wiU_at C ds i i (Nat.le_refl _), hat]; rfl
  have hcd : cAt ds (i : Int) = ds[i] := by unfold cAt; rw [Int.toNat_natCast, List.getD_eq_getElem?_getD, List.getElem?_eq_getElem (by omega)]; rfl
  have HN := Lib.hid (wiU_next (ds := ds) hat)
  rw [hcd] at HN
  generalize C[i] = x at e2 HN
  generalize ds[i] = d at e1 HN
  have hls : ∀ (j i : Nat) (a b c d e f : Int), ltL j (rs.set i (.agg [I64 a, I64 b, I64 c, I64 d, I64 e, I64 f])) = true := fun j i a b c d e f => ltL_set (by rw [hrs]; exact ltL_Cr j _) rfl
  repeat (first | apply ef_seq | (apply ef_mv; exact rfl; exact rfl) | (apply ef_bin; (iterate 3 exact rfl); (first | exact cmp_t rfl (by first | exact rfl | (simp only [cmpP]; omega)) | ((with_reducible refine bin_add (wrap_of ?_ ?_)) <;> omega))) | (apply ef_ldr; exact rfl; exact rfl; (exact rfl)) | (apply ef_ldp; exact rfl; exact rfl; (exact rfl); exact rfl; (exact rfl); (exact rfl)) | (apply ef_ias; (iterate 3 exact rfl); (omega); assumption; exact rfl) | (apply ef_iaa; (iterate 3 exact rfl); (omega); (omega); (exact rfl)) | (apply ef_fap; exact rfl; exact rfl) | (apply ef_st; (iterate 6 exact rfl); (assumption); exact rfl) | apply ef_nil | apply seqQ.normal | apply blockQ.normal | apply ef_block | apply ef_skip | (apply ef_condt; exact rfl; (exact (rfl : true = true))))
  (refine loopQ.normal _ _ ⟨(i + 1, rs.set (0 + ((i : Nat) : Int).toNat) (encCr (setD x d))), ⟨hlt, by rw [HN.out, hrs, Nat.zero_add, Int.toNat_natCast, List.map_set]⟩, (by first | (simp only; omega) | omega), ⟨by ((repeat (refine Hold.cons (by exact rfl) ?_)); exact Hold.nil), by ((repeat (refine Hold.cons (by exact rfl) ?_)); exact Hold.nil)⟩, .inr ⟨by ((repeat (refine hdl_cons rfl (by first | rfl | (simp [MV.lt, ltL, ltL_Ln, ltL_Cr, ltL_I, hls, splice, MV.cells])) ?_)); exact hdl_nil), by (simp [hltL, ltL, MV.lt, ltL, ltL_Ln, ltL_Cr, ltL_I, hls, splice, MV.cells])⟩, by exact rfl⟩)
 ·obtain rfl : i = C.length := by omega
  repeat (first | apply ef_seq | (apply ef_bin; (iterate 3 exact rfl); (exact cmp_f rfl (by simp only [cmpP]; omega))) | (apply ef_ldp; exact rfl; exact rfl; (exact rfl); exact rfl; (exact rfl); (exact rd_2 rfl rfl)) | (apply ef_st; (iterate 6 exact rfl); (exact rfl); exact rfl) | apply ef_nil | apply seqQ.normal | apply loopQ.exit | apply ef_ret | apply ef_exit | apply seqQ.exit | apply blockQ.here | (apply ef_condf; exact rfl; (exact (rfl : false = false))))
  (apply fin_cellz; (· exact rfl); (· exact ⟨1, 0, 0, 0, _, _, by exact rfl, by exact rfl, rfl, rfl, rd_2 rfl rfl⟩))
  exact frzF_agg2 rfl (frzF_arr (o := ⟨0, false, 2, L.map encLn⟩) rfl rfl (by simp [nW]) (ltL_Ln 0 _) rfl) (frzF_arr (o := ⟨0, false, 6, rs⟩) rfl rfl (by simp [nW, wiU_len]) (ltL_Cr 0 _) hrs)
theorem with0_z (k : Nat) (l : Ln) (ls : List Ln) (h1 : (l :: ls).length ≤ 1000) :
  runZ MT (orA (k + 1)) (itA (k + 1)) 4000000 49 [encN ⟨l :: ls, []⟩, .sl []] [] = some (encN ⟨l :: ls, []⟩, []) := by
 have w1 := fun h => CloneL_c k l ls h1 h
 have w2 : ∀ h, orA (k + 1) 89 [.sl (([] : List Cr).map encCr)] h = some (.sl [], h) := fun h => CloneC_e k h
 refine runZ_of mf_with (by simp) ?_
 simp only [argsL]
 generalize hL : l :: ls = L at *
 repeat (first | apply ef_seq | (apply ef_mv; exact rfl; exact rfl) | (apply ef_len; exact rfl; exact rfl; (exact rfl)) | (apply ef_ldp; exact rfl; exact rfl; (exact rfl); exact rfl; (exact rfl); (exact rfl)) | (apply ef_fap; exact rfl; exact rfl) | (apply ef_box; (iterate 4 exact rfl)) | (apply ef_new; exact rfl) | (apply ef_build; exact rfl; (repeat (apply XVs.cons; exact rfl)); exact XVs.nil; exact rfl; exact rfl) | (apply ef_nilck; (iterate 3 exact rfl)) | (apply ef_st; (iterate 6 exact rfl); (exact rfl); exact rfl) | apply ef_nil | apply seqQ.normal | apply ef_block | (apply ef_call; exact rfl; ((repeat (apply XVs.cons; exact rfl)); exact XVs.nil); (with_reducible first | exact w1 _ | exact w2 _)))
 refine ef_loop (α := Unit) (fun _ => True) (fun _ => [(20, I64 0), (19, I64 0), (5, .ptr 2 0 0 0), (4, .ptr 1 0 0 0)]) (fun _ => [⟨0, false, 2, [encN ⟨L, []⟩]⟩, ⟨0, false, 2, [.agg [.lit (.slice none 0 0), .lit (.slice none 0 0)]]⟩, ⟨0, false, 2, [.agg [.arr 3 0 L.length 0, .sl []]]⟩, ⟨0, false, 2, L.map encLn⟩]) (fun _ => 0) () [20, 19, 5, 4] (fun _ => rfl) rfl trivial (by simp) (by ((repeat (refine Hold.cons (by exact rfl) ?_)); exact Hold.nil)) rfl ?_
 rintro ⟨⟩ -
 repeat (first | apply ef_seq | (apply ef_bin; (iterate 3 exact rfl); (exact cmp_f rfl (by simp only [cmpP]; omega))) | (apply ef_ldp; exact rfl; exact rfl; (exact rfl); exact rfl; (exact rfl); (exact rd_2 rfl rfl)) | (apply ef_st; (iterate 6 exact rfl); (exact rfl); exact rfl) | apply ef_nil | apply seqQ.normal | apply loopQ.exit | apply ef_ret | apply ef_exit | apply seqQ.exit | apply blockQ.here | (apply ef_condf; exact rfl; (exact (rfl : false = false))))
 (apply fin_cellz; (· exact rfl); (· exact ⟨1, 0, 0, 0, _, _, by exact rfl, by exact rfl, rfl, rfl, rd_2 rfl rfl⟩))
 exact frzF_agg2 rfl (frzF_arr (o := ⟨0, false, 2, L.map encLn⟩) rfl rfl (by simp) (ltL_Ln 0 _) rfl) (frzF_lt rfl)
theorem withN_z (k : Nat) (n : Nt) (h0 : 0 < n.ls.length) (h1 : n.ls.length ≤ 1000) (h2 : n.cs.length ≤ 1000) (ds : List Int) (hd : ds.length = n.cs.length) :
  runZ MT (orA (k + 1)) (itA (k + 1)) 4000000 49 [encN n, .sl (ds.map I64)] [] = some (encN (nW n ds), []) := by
 obtain ⟨ls, cs⟩ := n
 cases ls with
 | nil => simp at h0
 | cons l ls =>
  cases cs with
  | nil =>
   obtain rfl : ds = [] := List.length_eq_zero_iff.1 hd
   exact with0_z k l ls h1
  | cons c cs => exact with_z k l ls c cs h1 h2 ds hd
theorem withN_c (k : Nat) (n : Nt) (h0 : 0 < n.ls.length) (h1 : n.ls.length ≤ 1000) (h2 : n.cs.length ≤ 1000) (ds : List Int) (hd : ds.length = n.cs.length) (h : MHeap) :
  orA (k + 2) 49 [encN n, .sl (ds.map I64)] h = some (encN (nW n ds), h) := by
 have := callA (k := k + 1) (h := h) (args := [encN n, .sl (ds.map I64)]) (args' := [encN n, .sl (ds.map I64)]) (frzL_lt (by simp [ltL, MV.lt, ltL_Ln, ltL_Cr, ltL_I])) rfl (withN_z k n h0 h1 h2 ds hd) (by simp [okV, ok1, MV.lt, ltL, ltL_Ln, ltL_Cr, ltL_I]) rfl
 simpa [shV, sh1] using this
theorem wiU_get (cs : List Cr) (ds : List Int) : ∀ (N i : Nat) (hi : i < cs.length), i < N → (wiU cs ds N)[i]? = some (setD cs[i] (cAt ds i))
 | 0, i, _, h => by omega
 | N + 1, i, hi, h => by
  rw [wiU]
  by_cases e : i = N
  ·subst e
   rw [List.getElem?_set_self (by rw [wiU_len]; exact hi), List.getD_eq_getElem?_getD, List.getElem?_eq_getElem hi]; rfl
  ·rw [List.getElem?_set_ne (by omega)]
   exact wiU_get cs ds N i hi (by omega)
theorem nW_get (n : Nt) (ds : List Int) (i : Nat) (hi : i < n.cs.length) (hi2 : i < (nW n ds).cs.length) : (nW n ds).cs[i] = setD n.cs[i] (cAt ds i) := by
 have := wiU_get n.cs ds n.cs.length i hi hi
 rw [List.getElem?_eq_getElem (by rw [wiU_len]; exact hi)] at this
 exact Option.some.inj this
theorem nW_ok {n : Nt} (ok : OkN n) {ds : List Int} (hb : ∀ v, -10000 ≤ cAt ds v ∧ cAt ds v ≤ 10000) : OkN (nW n ds) := by
 have hlen : (nW n ds).cs.length = n.cs.length := wiU_len _ _ _
 have key : ∀ x ∈ (nW n ds).cs, ∃ (i : Nat) (h : i < n.cs.length), x = setD n.cs[i] (cAt ds i) := fun x hx => by
  obtain ⟨i, hi, rfl⟩ := List.getElem_of_mem hx
  exact ⟨i, by omega, nW_get n ds i (by omega) hi⟩
 refine ⟨ok.l1, ok.l8, by rw [hlen]; exact ok.c16, fun x hx => ?_, fun x hx => ?_, fun i j hi hj hij => ?_⟩
 ·obtain ⟨i, hi, rfl⟩ := key x hx
  have o := ok.rg _ (List.getElem_mem hi)
  exact ⟨o.l0, o.l1, o.t0, o.t1, o.pa, o.pt, hb _, o.wt⟩
 ·obtain ⟨i, hi, rfl⟩ := key x hx
  have hk := ok.kd n.cs[i] (List.getElem_mem hi)
  exact hk
 ·rw [nW_get n ds i (by omega) hi, nW_get n ds j (by omega) hj]
  exact ok.ds i j (by omega) (by omega) hij
end Go.Proofs.YtfchdbghjeophaaGreatDoor

/- Contracts: which flows are accepted, and their values; the program, and the document. -/
namespace Go.Proofs.YtfchdbghjeophaaGreatDoor
open Go.RowKit
set_option linter.unusedVariables false
set_option linter.unusedSimpArgs false
end Go.Proofs.YtfchdbghjeophaaGreatDoor

/- Contracts of the document: the error and the value of a flow. -/
namespace Go.Proofs.YtfchdbghjeophaaGreatDoor
open Go.RowKit
set_option linter.unusedVariables false
set_option linter.unusedSimpArgs false
end Go.Proofs.YtfchdbghjeophaaGreatDoor

/- Contracts: the misclosure of a walk; the program, and the document. -/
namespace Go.Proofs.YtfchdbghjeophaaGreatDoor
open Go.RowKit
set_option linter.unusedVariables false
set_option linter.unusedSimpArgs false
def mcE (cs : List Cr) : List Int → Nat → Int → Int → Int → Int × Int
 | [], _, b, a, s => if a = b then (s, 0) else (0, 21)
 | i :: w, k, b, a, s =>
  if inB i 0 ((cs.length : Int) - 1) = false then (0, 6)
  else
   let x := cs.getD i.toNat default
   let fr := if k % 2 = 1 then x.ti else x.ln
   let t := if k % 2 = 1 then x.ln else x.ti
   let d := if k % 2 = 1 then 0 - x.df else x.df
   let b' := if k = 0 then fr else b
   let a' := if k = 0 then fr else a
   if fr ≠ a' then (0, 14) else mcE cs w (k + 1) b' t (s + d)
def misF (cs : List Cr) (w : List Int) : Int × Int :=
 if 0 < w.length ∧ w.length % 2 = 0 then (if w.length ≤ 32 then mcE cs w 0 (-1) (-1) 0 else (0, 8)) else (0, 10)
theorem mcE_nil (cs : List Cr) (k : Nat) (b a s : Int) : mcE cs [] k b a s = if a = b then (s, 0) else (0, 21) := rfl
theorem mcE_out {cs : List Cr} {i : Int} {w : List Int} {k : Nat} {b a s : Int} (h : inB i 0 ((cs.length : Int) - 1) = false) : mcE cs (i :: w) k b a s = (0, 6) := by rw [mcE, if_pos h]
theorem mcE_in {cs : List Cr} {i : Int} {w : List Int} {k : Nat} {b a s : Int} (h : inB i 0 ((cs.length : Int) - 1) = true) {x : Cr} (hx : cs.getD i.toNat default = x) {fr t d : Int} (h1 : (if k % 2 = 1 then x.ti else x.ln) = fr) (h2 : (if k % 2 = 1 then x.ln else x.ti) = t) (h3 : (if k % 2 = 1 then 0 - x.df else x.df) = d) :
  mcE cs (i :: w) k b a s = if fr ≠ (if k = 0 then fr else a) then (0, 14) else mcE cs w (k + 1) (if k = 0 then fr else b) t (s + d) := by
 rw [mcE, if_neg (by rw [h]; simp)]
 simp only [hx, h1, h2, h3]
theorem mcE_z {cs : List Cr} {i : Int} {w : List Int} {b a s : Int} (h : inB i 0 ((cs.length : Int) - 1) = true) {x : Cr} (hx : cs.getD i.toNat default = x) : mcE cs (i :: w) 0 b a s = mcE cs w 1 x.ln x.ti (s + x.df) := by
 rw [mcE_in h hx (fr := x.ln) (t := x.ti) (d := x.df) rfl rfl rfl, if_neg (by simp)]; rfl
theorem mcE_o {cs : List Cr} {i : Int} {w : List Int} {k : Nat} {b a s : Int} (h : inB i 0 ((cs.length : Int) - 1) = true) {x : Cr} (hx : cs.getD i.toNat default = x) (hk : k % 2 = 1) : mcE cs (i :: w) k b a s = if x.ti = a then mcE cs w (k + 1) b x.ln (s + (0 - x.df)) else (0, 14) := by
 rw [mcE_in h hx (fr := x.ti) (t := x.ln) (d := 0 - x.df) (by rw [if_pos hk]) (by rw [if_pos hk]) (by rw [if_pos hk]), if_neg (show ¬ k = 0 by omega), if_neg (show ¬ k = 0 by omega)]
 by_cases e : x.ti = a
 ·rw [if_neg (by simpa using e), if_pos e]
 ·rw [if_pos e, if_neg e]
theorem mcE_e {cs : List Cr} {i : Int} {w : List Int} {k : Nat} {b a s : Int} (h : inB i 0 ((cs.length : Int) - 1) = true) {x : Cr} (hx : cs.getD i.toNat default = x) (hk : k % 2 = 0) (h0 : k ≠ 0) : mcE cs (i :: w) k b a s = if x.ln = a then mcE cs w (k + 1) b x.ti (s + x.df) else (0, 14) := by
 rw [mcE_in h hx (fr := x.ln) (t := x.ti) (d := x.df) (by rw [if_neg (by omega)]) (by rw [if_neg (by omega)]) (by rw [if_neg (by omega)]), if_neg h0, if_neg h0]
 by_cases e : x.ln = a
 ·rw [if_neg (by simpa using e), if_pos e]
 ·rw [if_pos e, if_neg e]
theorem cr_at2 {n : Nt} {i : Int} (h0 : 0 ≤ i) (h1 : i < (n.cs.length : Int)) : (n.cs.map encCr)[i.toNat]? = some (encCr (n.cs.getD i.toNat default)) := by
 have h : i.toNat < n.cs.length := by omega
 rw [List.getElem?_map, List.getD_eq_getElem?_getD, List.getElem?_eq_getElem h]; rfl
def msF (n : Nt) (w : List Int) : Int × Int := if (netF n).2 = 0 then misF n.cs w else (0, (netF n).2)
abbrev msH (n : Nt) : MHeap := [⟨0, false, 2, [encN n]⟩, ⟨0, false, 2, [encN n]⟩, ⟨0, false, 1, [I64 0, I64 0, I64 0]⟩]
theorem mf_Mis : MT.mf 18 = some mfW_l18 := mfW_q18
set_option maxHeartbeats 4000000 in
theorem Mis_z (k : Nat) (n : Nt) (hb : BdN n) (w : List Int) (hw : w.length ≤ 1000) :
  runZ MT (orA (k + 6)) (itA (k + 6)) 4000000 18 [encN n, .sl (w.map I64)] [] = some (.tup [I64 (msF n w).1, I64 (msF n w).2], []) := by
 have hs2 : (MV.sl (n.cs.map encCr)).slen = some n.cs.length := by simp [MV.slen]
 have hs3 : (MV.sl (w.map I64)).slen = some w.length := by simp [MV.slen]
 have w1 := fun h => open_c k n hb h
 have w2 := fun b e h => unless_c (k + 5) b e h rfl
 have hmod : ((w.length : Int)).tmod 2 = ((w.length % 2 : Nat) : Int) := by rw [Int.tmod_eq_emod_of_nonneg (by omega)]; omega
 refine runZ_of mf_Mis (by simp) ?_
 simp only [argsL]
 by_cases h0 : (netF n).2 = 0
 rotate_left
 ·rw [show msF n w = (0, (netF n).2) by unfold msF; rw [if_neg h0]]
  generalize (netF n).2 = e at *
  have hfe : ∀ y z, firstE [e, y, z] = e := fun y z => by unfold firstE; rw [if_pos h0]
  by_cases c1 : w.length = 0
  ·repeat (first | apply ef_seq | (apply ef_mv; exact rfl; exact rfl) | (apply ef_bin; (iterate 3 exact rfl); (first | exact cmp_t rfl (by first | exact rfl | (simp only [cmpP]; omega)) | exact cmp_f rfl (by simp only [cmpP]; omega))) | (apply ef_gn; exact rfl; (exact (rfl : false = false)); exact rfl) | (apply ef_pick; (iterate 3 exact rfl)) | (apply ef_len; exact rfl; exact rfl; (assumption)) | (apply ef_ldp; exact rfl; exact rfl; (exact rfl); exact rfl; (exact rfl); (exact rd_2 rfl rfl)) | (apply ef_ext; (iterate 3 exact rfl)) | (apply ef_box; (iterate 4 exact rfl)) | (apply ef_new; exact rfl) | (apply ef_bsl; exact rfl; (repeat (apply XVs.cons; exact rfl)); exact XVs.nil; exact rfl) | (apply ef_st; (iterate 6 exact rfl); (exact rfl); exact rfl) | apply ef_nil | apply seqQ.normal | apply ef_ret | apply seqQ.ret | (apply ef_condt; exact rfl; (exact (rfl : true = true))) | (apply ef_call; exact rfl; ((repeat (apply XVs.cons; exact rfl)); exact XVs.nil); (with_reducible first | exact w1 _ | exact w2 _ _ _)) | (apply ef_call; exact rfl; ((repeat (apply XVs.cons; exact rfl)); exact XVs.nil); (with_reducible apply first3_c); (iterate 3 exact rfl); exact hfe _ _))
   (apply fin2; (· exact rfl); (· exact rfl); (· exact rfl); (· rfl))
  ·by_cases c2 : w.length % 2 = 0
   ·by_cases c3 : w.length ≤ 32
    ·repeat (first | apply ef_seq | (apply ef_mv; exact rfl; exact rfl) | (apply ef_bin; (iterate 3 exact rfl); (first | exact cmp_t rfl (by first | exact rfl | (simp only [cmpP]; omega)) | exact rfl)) | (apply ef_gy; exact rfl; (exact (rfl : true = true))) | (apply ef_pick; (iterate 3 exact rfl)) | (apply ef_len; exact rfl; exact rfl; (assumption)) | (apply ef_ldp; exact rfl; exact rfl; (exact rfl); exact rfl; (exact rfl); (exact rd_2 rfl rfl)) | (apply ef_ext; (iterate 3 exact rfl)) | (apply ef_box; (iterate 4 exact rfl)) | (apply ef_new; exact rfl) | (apply ef_bsl; exact rfl; (repeat (apply XVs.cons; exact rfl)); exact XVs.nil; exact rfl) | (apply ef_st; (iterate 6 exact rfl); (exact rfl); exact rfl) | apply ef_nil | apply seqQ.normal | apply ef_ret | apply seqQ.ret | (apply ef_condt; exact rfl; (exact (rfl : true = true))) | (apply ef_call; exact rfl; ((repeat (apply XVs.cons; exact rfl)); exact XVs.nil); (with_reducible first | exact w1 _ | exact w2 _ _ _)) | (apply ef_call; exact rfl; ((repeat (apply XVs.cons; exact rfl)); exact XVs.nil); (with_reducible apply first3_c); (iterate 3 exact rfl); exact hfe _ _))
     (apply fin2; (· exact rfl); (· exact rfl); (· exact rfl); (· rfl))
    ·repeat (first | apply ef_seq | (apply ef_mv; exact rfl; exact rfl) | (apply ef_bin; (iterate 3 exact rfl); (first | exact cmp_t rfl (by first | exact rfl | (simp only [cmpP]; omega)) | exact cmp_f rfl (by simp only [cmpP]; omega) | exact rfl)) | (apply ef_gy; exact rfl; (exact (rfl : true = true))) | (apply ef_pick; (iterate 3 exact rfl)) | (apply ef_len; exact rfl; exact rfl; (assumption)) | (apply ef_ldp; exact rfl; exact rfl; (exact rfl); exact rfl; (exact rfl); (exact rd_2 rfl rfl)) | (apply ef_ext; (iterate 3 exact rfl)) | (apply ef_box; (iterate 4 exact rfl)) | (apply ef_new; exact rfl) | (apply ef_bsl; exact rfl; (repeat (apply XVs.cons; exact rfl)); exact XVs.nil; exact rfl) | (apply ef_st; (iterate 6 exact rfl); (exact rfl); exact rfl) | apply ef_nil | apply seqQ.normal | apply ef_ret | apply seqQ.ret | (apply ef_condt; exact rfl; (exact (rfl : true = true))) | (apply ef_call; exact rfl; ((repeat (apply XVs.cons; exact rfl)); exact XVs.nil); (with_reducible first | exact w1 _ | exact w2 _ _ _)) | (apply ef_call; exact rfl; ((repeat (apply XVs.cons; exact rfl)); exact XVs.nil); (with_reducible apply first3_c); (iterate 3 exact rfl); exact hfe _ _))
     (apply fin2; (· exact rfl); (· exact rfl); (· exact rfl); (· rfl))
   ·by_cases c3 : w.length ≤ 32
    ·repeat (first | apply ef_seq | (apply ef_mv; exact rfl; exact rfl) | (apply ef_bin; (iterate 3 exact rfl); (first | exact cmp_t rfl (by first | exact rfl | (simp only [cmpP]; omega)) | exact cmp_f rfl (by simp only [cmpP]; omega) | exact rfl)) | (apply ef_gy; exact rfl; (exact (rfl : true = true))) | (apply ef_pick; (iterate 3 exact rfl)) | (apply ef_len; exact rfl; exact rfl; (assumption)) | (apply ef_ldp; exact rfl; exact rfl; (exact rfl); exact rfl; (exact rfl); (exact rd_2 rfl rfl)) | (apply ef_ext; (iterate 3 exact rfl)) | (apply ef_box; (iterate 4 exact rfl)) | (apply ef_new; exact rfl) | (apply ef_bsl; exact rfl; (repeat (apply XVs.cons; exact rfl)); exact XVs.nil; exact rfl) | (apply ef_st; (iterate 6 exact rfl); (exact rfl); exact rfl) | apply ef_nil | apply seqQ.normal | apply ef_ret | apply seqQ.ret | (apply ef_condt; exact rfl; (exact (rfl : true = true))) | (apply ef_call; exact rfl; ((repeat (apply XVs.cons; exact rfl)); exact XVs.nil); (with_reducible first | exact w1 _ | exact w2 _ _ _)) | (apply ef_call; exact rfl; ((repeat (apply XVs.cons; exact rfl)); exact XVs.nil); (with_reducible apply first3_c); (iterate 3 exact rfl); exact hfe _ _))
     (apply fin2; (· exact rfl); (· exact rfl); (· exact rfl); (· rfl))
    ·repeat (first | apply ef_seq | (apply ef_mv; exact rfl; exact rfl) | (apply ef_bin; (iterate 3 exact rfl); (first | exact cmp_t rfl (by first | exact rfl | (simp only [cmpP]; omega)) | exact cmp_f rfl (by simp only [cmpP]; omega) | exact rfl)) | (apply ef_gy; exact rfl; (exact (rfl : true = true))) | (apply ef_pick; (iterate 3 exact rfl)) | (apply ef_len; exact rfl; exact rfl; (assumption)) | (apply ef_ldp; exact rfl; exact rfl; (exact rfl); exact rfl; (exact rfl); (exact rd_2 rfl rfl)) | (apply ef_ext; (iterate 3 exact rfl)) | (apply ef_box; (iterate 4 exact rfl)) | (apply ef_new; exact rfl) | (apply ef_bsl; exact rfl; (repeat (apply XVs.cons; exact rfl)); exact XVs.nil; exact rfl) | (apply ef_st; (iterate 6 exact rfl); (exact rfl); exact rfl) | apply ef_nil | apply seqQ.normal | apply ef_ret | apply seqQ.ret | (apply ef_condt; exact rfl; (exact (rfl : true = true))) | (apply ef_call; exact rfl; ((repeat (apply XVs.cons; exact rfl)); exact XVs.nil); (with_reducible first | exact w1 _ | exact w2 _ _ _)) | (apply ef_call; exact rfl; ((repeat (apply XVs.cons; exact rfl)); exact XVs.nil); (with_reducible apply first3_c); (iterate 3 exact rfl); exact hfe _ _))
     (apply fin2; (· exact rfl); (· exact rfl); (· exact rfl); (· rfl))
 have ok := net_ok h0
 have c16 := ok.c16
 rw [h0] at w1
 rw [show msF n w = misF n.cs w by unfold msF; rw [if_pos h0]]
 have HM := Lib.hid (show misF n.cs w = if 0 < w.length ∧ w.length % 2 = 0 then (if w.length ≤ 32 then mcE n.cs w 0 (-1) (-1) 0 else (0, 8)) else (0, 10) from rfl)
 by_cases c1 : w.length = 0
 ·rw [HM.out, if_neg (by omega)]
  repeat (first | apply ef_seq | (apply ef_mv; exact rfl; exact rfl) | (apply ef_bin; (iterate 3 exact rfl); (first | exact cmp_t rfl (by first | exact rfl | (simp only [cmpP]; omega)) | exact cmp_f rfl (by simp only [cmpP]; omega) | exact rfl)) | (apply ef_gn; exact rfl; (exact (rfl : false = false)); exact rfl) | (apply ef_pick; (iterate 3 exact rfl)) | (apply ef_len; exact rfl; exact rfl; (assumption)) | (apply ef_ldp; exact rfl; exact rfl; (exact rfl); exact rfl; (exact rfl); (exact rd_2 rfl rfl)) | (apply ef_ext; (iterate 3 exact rfl)) | (apply ef_box; (iterate 4 exact rfl)) | (apply ef_new; exact rfl) | (apply ef_bsl; exact rfl; (repeat (apply XVs.cons; exact rfl)); exact XVs.nil; exact rfl) | (apply ef_st; (iterate 6 exact rfl); (exact rfl); exact rfl) | apply ef_nil | apply seqQ.normal | apply ef_ret | apply seqQ.ret | (apply ef_condt; exact rfl; (exact (rfl : true = true))) | (apply ef_call; exact rfl; ((repeat (apply XVs.cons; exact rfl)); exact XVs.nil); (with_reducible first | exact w1 _ | exact w2 _ _ _)) | (apply ef_call; exact rfl; ((repeat (apply XVs.cons; exact rfl)); exact XVs.nil); (with_reducible apply first3_c); (iterate 3 exact rfl); (exact rfl)))
  (apply fin2; (· exact rfl); (· exact rfl); (· exact rfl); (· rfl))
 by_cases c2 : w.length % 2 = 1
 ·rw [HM.out, if_neg (by omega)]
  by_cases c3 : w.length ≤ 32
  ·repeat (first | apply ef_seq | (apply ef_mv; exact rfl; exact rfl) | (apply ef_bin; (iterate 3 exact rfl); (first | exact cmp_t rfl (by first | exact rfl | (simp only [cmpP]; omega)) | exact cmp_f rfl (by simp only [cmpP]; omega) | exact rfl)) | (apply ef_gy; exact rfl; (exact (rfl : true = true))) | (apply ef_pick; (iterate 3 exact rfl)) | (apply ef_len; exact rfl; exact rfl; (assumption)) | (apply ef_ldp; exact rfl; exact rfl; (exact rfl); exact rfl; (exact rfl); (exact rd_2 rfl rfl)) | (apply ef_ext; (iterate 3 exact rfl)) | (apply ef_box; (iterate 4 exact rfl)) | (apply ef_new; exact rfl) | (apply ef_bsl; exact rfl; (repeat (apply XVs.cons; exact rfl)); exact XVs.nil; exact rfl) | (apply ef_st; (iterate 6 exact rfl); (exact rfl); exact rfl) | apply ef_nil | apply seqQ.normal | apply ef_ret | apply seqQ.ret | (apply ef_condt; exact rfl; (exact (rfl : true = true))) | (apply ef_call; exact rfl; ((repeat (apply XVs.cons; exact rfl)); exact XVs.nil); (with_reducible first | exact w1 _ | exact w2 _ _ _)) | (apply ef_call; exact rfl; ((repeat (apply XVs.cons; exact rfl)); exact XVs.nil); (with_reducible apply first3_c); (iterate 3 exact rfl); (exact rfl)))
   (apply fin2; (· exact rfl); (· exact rfl); (· exact rfl); (· rfl))
  ·repeat (first | apply ef_seq | (apply ef_mv; exact rfl; exact rfl) | (apply ef_bin; (iterate 3 exact rfl); (first | exact cmp_t rfl (by first | exact rfl | (simp only [cmpP]; omega)) | exact cmp_f rfl (by simp only [cmpP]; omega) | exact rfl)) | (apply ef_gy; exact rfl; (exact (rfl : true = true))) | (apply ef_pick; (iterate 3 exact rfl)) | (apply ef_len; exact rfl; exact rfl; (assumption)) | (apply ef_ldp; exact rfl; exact rfl; (exact rfl); exact rfl; (exact rfl); (exact rd_2 rfl rfl)) | (apply ef_ext; (iterate 3 exact rfl)) | (apply ef_box; (iterate 4 exact rfl)) | (apply ef_new; exact rfl) | (apply ef_bsl; exact rfl; (repeat (apply XVs.cons; exact rfl)); exact XVs.nil; exact rfl) | (apply ef_st; (iterate 6 exact rfl); (exact rfl); exact rfl) | apply ef_nil | apply seqQ.normal | apply ef_ret | apply seqQ.ret | (apply ef_condt; exact rfl; (exact (rfl : true = true))) | (apply ef_call; exact rfl; ((repeat (apply XVs.cons; exact rfl)); exact XVs.nil); (with_reducible first | exact w1 _ | exact w2 _ _ _)) | (apply ef_call; exact rfl; ((repeat (apply XVs.cons; exact rfl)); exact XVs.nil); (with_reducible apply first3_c); (iterate 3 exact rfl); (exact rfl)))
   (apply fin2; (· exact rfl); (· exact rfl); (· exact rfl); (· rfl))
 by_cases h2 : w.length ≤ 32
 rotate_left
 ·rw [HM.out, if_pos (by omega), if_neg h2]
  repeat (first | apply ef_seq | (apply ef_mv; exact rfl; exact rfl) | (apply ef_bin; (iterate 3 exact rfl); (first | exact cmp_t rfl (by first | exact rfl | (simp only [cmpP]; omega)) | exact cmp_f rfl (by simp only [cmpP]; omega) | exact rfl)) | (apply ef_gy; exact rfl; (exact (rfl : true = true))) | (apply ef_pick; (iterate 3 exact rfl)) | (apply ef_len; exact rfl; exact rfl; (assumption)) | (apply ef_ldp; exact rfl; exact rfl; (exact rfl); exact rfl; (exact rfl); (exact rd_2 rfl rfl)) | (apply ef_ext; (iterate 3 exact rfl)) | (apply ef_box; (iterate 4 exact rfl)) | (apply ef_new; exact rfl) | (apply ef_bsl; exact rfl; (repeat (apply XVs.cons; exact rfl)); exact XVs.nil; exact rfl) | (apply ef_st; (iterate 6 exact rfl); (exact rfl); exact rfl) | apply ef_nil | apply seqQ.normal | apply ef_ret | apply seqQ.ret | (apply ef_condt; exact rfl; (exact (rfl : true = true))) | (apply ef_call; exact rfl; ((repeat (apply XVs.cons; exact rfl)); exact XVs.nil); (with_reducible first | exact w1 _ | exact w2 _ _ _)) | (apply ef_call; exact rfl; ((repeat (apply XVs.cons; exact rfl)); exact XVs.nil); (with_reducible apply first3_c); (iterate 3 exact rfl); (exact rfl)))
  (apply fin2; (· exact rfl); (· exact rfl); (· exact rfl); (· rfl))
 have HM2 : misF n.cs w = mcE n.cs w 0 (-1) (-1) 0 := by rw [HM.out, if_pos (by omega), if_pos h2]
 clear HM
 repeat (first | apply ef_seq | (apply ef_mv; exact rfl; exact rfl) | (apply ef_bin; (iterate 3 exact rfl); (first | exact cmp_t rfl (by first | exact rfl | (simp only [cmpP]; omega)) | exact rfl)) | (apply ef_gy; exact rfl; (exact (rfl : true = true))) | (apply ef_pick; (iterate 3 exact rfl)) | (apply ef_len; exact rfl; exact rfl; (assumption)) | (apply ef_ldp; exact rfl; exact rfl; (exact rfl); exact rfl; (exact rfl); (exact rd_2 rfl rfl)) | (apply ef_ext; (iterate 3 exact rfl)) | (apply ef_box; (iterate 4 exact rfl)) | (apply ef_new; exact rfl) | (apply ef_bsl; exact rfl; (repeat (apply XVs.cons; exact rfl)); exact XVs.nil; exact rfl) | (apply ef_st; (iterate 6 exact rfl); (exact rfl); exact rfl) | apply ef_nil | apply seqQ.normal | apply ef_block | apply ef_skip | (apply ef_condf; exact rfl; (exact (rfl : false = false))) | (apply ef_call; exact rfl; ((repeat (apply XVs.cons; exact rfl)); exact XVs.nil); (with_reducible first | exact w1 _ | exact w2 _ _ _)) | (apply ef_call; exact rfl; ((repeat (apply XVs.cons; exact rfl)); exact XVs.nil); (with_reducible apply first3_c); (iterate 3 exact rfl); (exact rfl)))
 refine ef_loopf (α := Nat × Int × Int × Int) (fun q => q.1 ≤ w.length ∧ misF n.cs w = mcE n.cs (w.drop q.1) q.1 q.2.1 q.2.2.1 q.2.2.2 ∧ -(10000 * (q.1 : Int)) ≤ q.2.2.2 ∧ q.2.2.2 ≤ 10000 * (q.1 : Int)) (fun q => [(44, I64 (q.1 : Int)), (8, I64 q.2.1), (9, I64 q.2.2.1), (10, I64 q.2.2.2)]) [(43, I64 (w.length : Int)), (42, .sl (w.map I64)), (2, .ptr 0 0 0 0)] (fun _ => msH n) (fun q => w.length - q.1) (0, -1, -1, 0) [44, 8, 9, 10] (fun _ => rfl) (by ((repeat (refine Hold.cons (by exact rfl) ?_)); exact Hold.nil)) (by ((repeat (refine Hold.cons (by exact rfl) ?_)); exact Hold.nil)) rfl rfl ⟨by omega, HM2, by simp, by simp⟩ (by simp; omega) ?_
 rintro ⟨q, b, a, s⟩ ⟨hq, HZ0, s0, s1⟩
 try simp only at hq HZ0 s0 s1 ⊢
 have hmq : ((q : Int)).tmod 2 = ((q % 2 : Nat) : Int) := by rw [Int.tmod_eq_emod_of_nonneg (by omega)]; omega
 by_cases hlt : q < w.length
 ·have e1 := at_map I64 w q hlt
  rw [drop_at w q hlt] at HZ0
  generalize w[q] = z at e1 HZ0
  cases hin : inB z 0 ((n.cs.length : Int) - 1)
  ·have w3 := fun h => within_c (k + 5) z 0 ((n.cs.length : Int) - 1) h hin
   rw [HZ0, mcE_out hin]
   repeat (first | apply ef_seq | (apply ef_mv; exact rfl; exact rfl) | (apply ef_bin; (iterate 3 exact rfl); (first | exact cmp_t rfl (by first | exact rfl | (simp only [cmpP]; omega)) | ((with_reducible refine bin_sub (wrap_of ?_ ?_)) <;> omega))) | (apply ef_len; exact rfl; exact rfl; (assumption)) | (apply ef_ldr; exact rfl; exact rfl; (exact rfl)) | (apply ef_ldp; exact rfl; exact rfl; (exact rfl); exact rfl; (exact rfl); (exact rfl)) | (apply ef_ias; (iterate 3 exact rfl); (omega); assumption; exact rfl) | (apply ef_fap; exact rfl; exact rfl) | (apply ef_notF; exact rfl; exact rfl) | apply ef_nil | apply seqQ.normal | apply loopQ.ret | apply ef_ret | apply seqQ.ret | apply blockQ.ret | apply ef_block | apply ef_skip | (apply ef_condt; exact rfl; (exact (rfl : true = true))) | (apply ef_call; exact rfl; ((repeat (apply XVs.cons; exact rfl)); exact XVs.nil); (with_reducible exact w3 _)))
   (apply fin2; (· exact rfl); (· exact rfl); (· exact rfl); (· rfl))
  ·have w3 := fun h => within_c (k + 5) z 0 ((n.cs.length : Int) - 1) h hin
   have hzb := inB_iff.1 hin
   have e2 := cr_at2 (n := n) (i := z) (by omega) (by omega)
   obtain ⟨x, hxd⟩ : ∃ x, n.cs.getD z.toNat default = x := ⟨_, rfl⟩
   have hx := ok.rg _ (getD_mem (n := n) (i := z) (by omega) (by omega))
   rw [hxd] at e2 hx
   have hdf := hx.df
   by_cases hq0 : q = 0
   ·subst hq0
    rw [mcE_z hin hxd] at HZ0
    have HZ := Lib.hid HZ0
    clear HZ0
    repeat (first | apply ef_seq | (apply ef_mv; exact rfl; exact rfl) | (apply ef_bin; (iterate 3 exact rfl); (first | exact cmp_t rfl (by first | exact rfl | (simp only [cmpP]; omega)) | exact cmp_f rfl (by simp only [cmpP]; omega) | ((with_reducible refine bin_add (wrap_of ?_ ?_)) <;> omega) | ((with_reducible refine bin_sub (wrap_of ?_ ?_)) <;> omega) | ((with_reducible refine bin_mul (wrap_of ?_ ?_)) <;> omega) | exact rfl)) | (apply ef_len; exact rfl; exact rfl; (assumption)) | (apply ef_ldr; exact rfl; exact rfl; (first | exact rd_6 rfl rfl rfl rfl rfl rfl | exact rfl)) | (apply ef_ldp; exact rfl; exact rfl; (exact rfl); exact rfl; (exact rfl); (exact rfl)) | (apply ef_ias; (iterate 3 exact rfl); (omega); assumption; exact rfl) | (apply ef_fap; exact rfl; exact rfl) | (apply ef_notT; exact rfl; exact rfl) | (apply ef_new; exact rfl) | (apply ef_st; (iterate 6 exact rfl); (exact rfl); exact rfl) | apply ef_nil | apply seqQ.normal | apply blockQ.normal | apply ef_block | apply ef_skip | (apply ef_condt; exact rfl; (exact (rfl : true = true))) | (apply ef_condf; exact rfl; (exact (rfl : false = false))) | (apply ef_call; exact rfl; ((repeat (apply XVs.cons; exact rfl)); exact XVs.nil); (with_reducible exact w3 _)))
    (refine loopQ.normal _ _ ⟨(0 + 1, x.ln, x.ti, s + 1 * x.df), ⟨hlt, by rw [show s + 1 * x.df = s + x.df by omega, HZ.out], by simp only; omega, by simp only; omega⟩, (by first | (simp only; omega) | omega), ⟨by ((repeat (refine Hold.cons (by exact rfl) ?_)); exact Hold.nil), by ((repeat (refine Hold.cons (by exact rfl) ?_)); exact Hold.nil)⟩, .inr ⟨by ((repeat (refine hdl_cons rfl (by first | rfl | (simp [MV.lt, ltL, ltL_Ln, ltL_Cr, ltL_I, splice, MV.cells])) ?_)); exact hdl_nil), by (simp [hltL, ltL, MV.lt, ltL, ltL_Ln, ltL_Cr, ltL_I, splice, MV.cells])⟩, by exact rfl⟩)
   ·by_cases hq1 : q % 2 = 1
    ·rw [mcE_o hin hxd hq1] at HZ0
     by_cases hg : x.ti = a
     ·rw [if_pos hg] at HZ0
      have HZ := Lib.hid HZ0
      clear HZ0
      repeat (first | apply ef_seq | (apply ef_mv; exact rfl; exact rfl) | (apply ef_bin; (iterate 3 exact rfl); (first | exact cmp_t rfl (by first | exact rfl | (simp only [cmpP]; omega)) | exact cmp_f rfl (by simp only [cmpP]; omega) | ((with_reducible refine bin_add (wrap_of ?_ ?_)) <;> omega) | ((with_reducible refine bin_sub (wrap_of ?_ ?_)) <;> omega) | ((with_reducible refine bin_mul (wrap_of ?_ ?_)) <;> omega) | exact rfl)) | (apply ef_len; exact rfl; exact rfl; (assumption)) | (apply ef_ldr; exact rfl; exact rfl; (first | exact rd_6 rfl rfl rfl rfl rfl rfl | exact rfl)) | (apply ef_ldp; exact rfl; exact rfl; (exact rfl); exact rfl; (exact rfl); (exact rfl)) | (apply ef_ias; (iterate 3 exact rfl); (omega); assumption; exact rfl) | (apply ef_fap; exact rfl; exact rfl) | (apply ef_notT; exact rfl; exact rfl) | (apply ef_new; exact rfl) | (apply ef_st; (iterate 6 exact rfl); (exact rfl); exact rfl) | apply ef_nil | apply seqQ.normal | apply blockQ.normal | apply ef_block | apply ef_skip | (apply ef_condt; exact rfl; (exact (rfl : true = true))) | (apply ef_condf; exact rfl; (exact (rfl : false = false))) | (apply ef_call; exact rfl; ((repeat (apply XVs.cons; exact rfl)); exact XVs.nil); (with_reducible exact w3 _)))
      (refine loopQ.normal _ _ ⟨(q + 1, b, x.ln, s + -1 * x.df), ⟨hlt, by rw [show s + -1 * x.df = s + (0 - x.df) by omega, HZ.out], by simp only; omega, by simp only; omega⟩, (by first | (simp only; omega) | omega), ⟨by ((repeat (refine Hold.cons (by exact rfl) ?_)); exact Hold.nil), by ((repeat (refine Hold.cons (by exact rfl) ?_)); exact Hold.nil)⟩, .inr ⟨by ((repeat (refine hdl_cons rfl (by first | rfl | (simp [MV.lt, ltL, ltL_Ln, ltL_Cr, ltL_I, splice, MV.cells])) ?_)); exact hdl_nil), by (simp [hltL, ltL, MV.lt, ltL, ltL_Ln, ltL_Cr, ltL_I, splice, MV.cells])⟩, by exact rfl⟩)
     ·rw [if_neg hg] at HZ0
      rw [HZ0]
      repeat (first | apply ef_seq | (apply ef_mv; exact rfl; exact rfl) | (apply ef_bin; (iterate 3 exact rfl); (first | exact cmp_t rfl (by first | exact rfl | (simp only [cmpP]; omega)) | exact cmp_f rfl (by simp only [cmpP]; omega) | ((with_reducible refine bin_sub (wrap_of ?_ ?_)) <;> omega) | exact rfl)) | (apply ef_len; exact rfl; exact rfl; (assumption)) | (apply ef_ldr; exact rfl; exact rfl; (first | exact rd_6 rfl rfl rfl rfl rfl rfl | exact rfl)) | (apply ef_ldp; exact rfl; exact rfl; (exact rfl); exact rfl; (exact rfl); (exact rfl)) | (apply ef_ias; (iterate 3 exact rfl); (omega); assumption; exact rfl) | (apply ef_fap; exact rfl; exact rfl) | (apply ef_notT; exact rfl; exact rfl) | (apply ef_new; exact rfl) | (apply ef_st; (iterate 6 exact rfl); (exact rfl); exact rfl) | apply ef_nil | apply seqQ.normal | apply loopQ.ret | apply ef_ret | apply seqQ.ret | apply blockQ.ret | apply ef_block | apply ef_skip | (apply ef_condt; exact rfl; (exact (rfl : true = true))) | (apply ef_condf; exact rfl; (exact (rfl : false = false))) | (apply ef_call; exact rfl; ((repeat (apply XVs.cons; exact rfl)); exact XVs.nil); (with_reducible exact w3 _)))
      (apply fin2; (· exact rfl); (· exact rfl); (· exact rfl); (· rfl))
    ·rw [mcE_e hin hxd (by omega) hq0] at HZ0
     by_cases hg : x.ln = a
     ·rw [if_pos hg] at HZ0
      have HZ := Lib.hid HZ0
      clear HZ0
      repeat (first | apply ef_seq | (apply ef_mv; exact rfl; exact rfl) | (apply ef_bin; (iterate 3 exact rfl); (first | exact cmp_t rfl (by first | exact rfl | (simp only [cmpP]; omega)) | exact cmp_f rfl (by simp only [cmpP]; omega) | ((with_reducible refine bin_add (wrap_of ?_ ?_)) <;> omega) | ((with_reducible refine bin_sub (wrap_of ?_ ?_)) <;> omega) | ((with_reducible refine bin_mul (wrap_of ?_ ?_)) <;> omega) | exact rfl)) | (apply ef_len; exact rfl; exact rfl; (assumption)) | (apply ef_ldr; exact rfl; exact rfl; (first | exact rd_6 rfl rfl rfl rfl rfl rfl | exact rfl)) | (apply ef_ldp; exact rfl; exact rfl; (exact rfl); exact rfl; (exact rfl); (exact rfl)) | (apply ef_ias; (iterate 3 exact rfl); (omega); assumption; exact rfl) | (apply ef_fap; exact rfl; exact rfl) | (apply ef_notT; exact rfl; exact rfl) | (apply ef_new; exact rfl) | (apply ef_st; (iterate 6 exact rfl); (exact rfl); exact rfl) | apply ef_nil | apply seqQ.normal | apply blockQ.normal | apply ef_block | apply ef_skip | (apply ef_condt; exact rfl; (exact (rfl : true = true))) | (apply ef_condf; exact rfl; (exact (rfl : false = false))) | (apply ef_call; exact rfl; ((repeat (apply XVs.cons; exact rfl)); exact XVs.nil); (with_reducible exact w3 _)))
      (refine loopQ.normal _ _ ⟨(q + 1, b, x.ti, s + 1 * x.df), ⟨hlt, by rw [show s + 1 * x.df = s + x.df by omega, HZ.out], by simp only; omega, by simp only; omega⟩, (by first | (simp only; omega) | omega), ⟨by ((repeat (refine Hold.cons (by exact rfl) ?_)); exact Hold.nil), by ((repeat (refine Hold.cons (by exact rfl) ?_)); exact Hold.nil)⟩, .inr ⟨by ((repeat (refine hdl_cons rfl (by first | rfl | (simp [MV.lt, ltL, ltL_Ln, ltL_Cr, ltL_I, splice, MV.cells])) ?_)); exact hdl_nil), by (simp [hltL, ltL, MV.lt, ltL, ltL_Ln, ltL_Cr, ltL_I, splice, MV.cells])⟩, by exact rfl⟩)
     ·rw [if_neg hg] at HZ0
      rw [HZ0]
      repeat (first | apply ef_seq | (apply ef_mv; exact rfl; exact rfl) | (apply ef_bin; (iterate 3 exact rfl); (first | exact cmp_t rfl (by first | exact rfl | (simp only [cmpP]; omega)) | exact cmp_f rfl (by simp only [cmpP]; omega) | ((with_reducible refine bin_sub (wrap_of ?_ ?_)) <;> omega) | exact rfl)) | (apply ef_len; exact rfl; exact rfl; (assumption)) | (apply ef_ldr; exact rfl; exact rfl; (first | exact rd_6 rfl rfl rfl rfl rfl rfl | exact rfl)) | (apply ef_ldp; exact rfl; exact rfl; (exact rfl); exact rfl; (exact rfl); (exact rfl)) | (apply ef_ias; (iterate 3 exact rfl); (omega); assumption; exact rfl) | (apply ef_fap; exact rfl; exact rfl) | (apply ef_notT; exact rfl; exact rfl) | (apply ef_new; exact rfl) | (apply ef_st; (iterate 6 exact rfl); (exact rfl); exact rfl) | apply ef_nil | apply seqQ.normal | apply loopQ.ret | apply ef_ret | apply seqQ.ret | apply blockQ.ret | apply ef_block | apply ef_skip | (apply ef_condt; exact rfl; (exact (rfl : true = true))) | (apply ef_condf; exact rfl; (exact (rfl : false = false))) | (apply ef_call; exact rfl; ((repeat (apply XVs.cons; exact rfl)); exact XVs.nil); (with_reducible exact w3 _)))
      (apply fin2; (· exact rfl); (· exact rfl); (· exact rfl); (· rfl))
 ·obtain rfl : q = w.length := by omega
  rw [List.drop_eq_nil_of_le (Nat.le_refl _), mcE_nil] at HZ0
  by_cases hg : a = b
  ·rw [if_pos hg] at HZ0
   rw [HZ0]
   repeat (first | apply ef_seq | (apply ef_mv; exact rfl; exact rfl) | (apply ef_bin; (iterate 3 exact rfl); (exact cmp_f rfl (by simp only [cmpP]; omega))) | apply ef_nil | apply seqQ.normal | apply loopQ.exit | apply ef_ret | apply ef_exit | apply seqQ.exit | apply blockQ.here | apply ef_skip | (apply ef_condf; exact rfl; (exact (rfl : false = false))))
   (apply fin2; (· exact rfl); (· exact rfl); (· exact rfl); (· rfl))
  ·rw [if_neg hg] at HZ0
   rw [HZ0]
   repeat (first | apply ef_seq | (apply ef_mv; exact rfl; exact rfl) | (apply ef_bin; (iterate 3 exact rfl); (first | exact cmp_t rfl (by first | exact rfl | (simp only [cmpP]; omega)) | exact cmp_f rfl (by simp only [cmpP]; omega))) | apply ef_nil | apply seqQ.normal | apply loopQ.exit | apply ef_ret | apply seqQ.ret | apply ef_exit | apply seqQ.exit | apply blockQ.here | (apply ef_condt; exact rfl; (exact (rfl : true = true))) | (apply ef_condf; exact rfl; (exact (rfl : false = false))))
   (apply fin2; (· exact rfl); (· exact rfl); (· exact rfl); (· rfl))
theorem Mis_c (k : Nat) (n : Nt) (hb : BdN n) (w : List Int) (hw : w.length ≤ 1000) (h : MHeap) {v : MV} (hv : frz 0 [] h 8 v = some (.sl (w.map I64))) : orA (k + 7) 18 [encN n, v] h = some (.tup [I64 (msF n w).1, I64 (msF n w).2], h) :=
 callTT (args' := [encN n, .sl (w.map I64)]) (by simp [List.mapM_cons, hv, frz_lt (ltL_N n 0)]) rfl (Mis_z k n hb w hw)
end Go.Proofs.YtfchdbghjeophaaGreatDoor

/- What is kept of an anomaly: its bounds, walks, corrections' own differences; without a program. -/
namespace Go.Proofs.YtfchdbghjeophaaGreatDoor
set_option linter.unusedVariables false
set_option linter.unusedSimpArgs false
theorem nW_len (n : Nt) (a : List Int) : (nW n a).cs.length = n.cs.length := wiU_len _ _ _
theorem nW_getD (n : Nt) (a : List Int) {i : Nat} (h : i < n.cs.length) : (nW n a).cs.getD i default = setD (n.cs.getD i default) (cAt a i) := by
 rw [List.getD_eq_getElem?_getD, List.getElem?_eq_getElem (by rw [nW_len]; exact h), nW_get n a i h, List.getD_eq_getElem?_getD, List.getElem?_eq_getElem h]; rfl
theorem mcE_step {cs : List Cr} {i : Int} {w : List Int} {k : Nat} {b a s m : Int} (h : mcE cs (i :: w) k b a s = (m, 0)) : inB i 0 ((cs.length : Int) - 1) = true ∧ ∃ b' a' s', mcE cs w (k + 1) b' a' s' = (m, 0) ∧ (s' = s + (cs.getD i.toNat default).df ∨ s' = s + (0 - (cs.getD i.toNat default).df)) := by
 cases hin : inB i 0 ((cs.length : Int) - 1) with
 | false => rw [mcE_out hin] at h; exact absurd (congrArg Prod.snd h) (by simp)
 | true =>
  refine ⟨rfl, ?_⟩
  obtain ⟨fr, hfr⟩ : ∃ fr, (if k % 2 = 1 then (cs.getD i.toNat default).ti else (cs.getD i.toNat default).ln) = fr := ⟨_, rfl⟩
  obtain ⟨t, ht⟩ : ∃ t, (if k % 2 = 1 then (cs.getD i.toNat default).ln else (cs.getD i.toNat default).ti) = t := ⟨_, rfl⟩
  obtain ⟨d, hd⟩ : ∃ d, (if k % 2 = 1 then 0 - (cs.getD i.toNat default).df else (cs.getD i.toNat default).df) = d := ⟨_, rfl⟩
  rw [mcE_in hin rfl hfr ht hd] at h
  by_cases hc : fr ≠ (if k = 0 then fr else a)
  ·rw [if_pos hc] at h; exact absurd (congrArg Prod.snd h) (by simp)
  ·rw [if_neg hc] at h
   refine ⟨_, _, _, h, ?_⟩
   rw [← hd]
   split
   ·exact .inr rfl
   ·exact .inl rfl
theorem scanE_all {α : Type} {f : List α → α → Int} : ∀ (xs pre : List α), (∀ (i : Nat) (h : i < xs.length), f (pre ++ xs.take i) xs[i] = 0) → scanE f pre xs = (0, 0)
 | [], pre, _ => rfl
 | x :: xs, pre, h => by
  have h0 := h 0 (by simp)
  simp only [List.take_zero, List.append_nil, List.getElem_cons_zero] at h0
  rw [scanE, if_pos h0]
  refine scanE_all xs (pre ++ [x]) fun i hi => ?_
  have := h (i + 1) (by simpa using hi)
  simpa using this
theorem net_of {n : Nt} (hl : (scanE lineE [] n.ls).2 = 0) (ok : OkN n) : (netF n).2 = 0 := by
 have h1 := ok.l1
 have h8 := ok.l8
 have h16 := ok.c16
 unfold netF
 rw [if_neg (by omega), if_neg (by omega), if_pos hl, scanE_all n.cs [] fun i hi => ?_]
 have o := ok.rg _ (List.getElem_mem hi)
 have k := ok.kd _ (List.getElem_mem hi)
 have o1 := o.l1
 have o2 := o.t1
 unfold crossE
 rw [if_pos (by rw [inB_iff.2 ⟨o.l0, by omega⟩, inB_iff.2 ⟨o.t0, by omega⟩]; rfl), k.1, k.2]
 have h2 : rngB n.cs[i] = true := by
  unfold rngB
  rw [inB_iff.2 o.pa, inB_iff.2 o.pt, inB_iff.2 o.df, inB_iff.2 o.wt]; rfl
 have h3 : ([] ++ n.cs.take i).any (dblB n.cs[i]) = false := by
  rw [List.any_eq_false]
  intro x hx
  rw [List.nil_append] at hx
  obtain ⟨j, hj, rfl⟩ := List.getElem_of_mem hx
  rw [List.length_take] at hj
  rw [List.getElem_take, ok.ds i j hi (by omega) (by omega)]
  simp
 rw [h2, h3]
 rfl
theorem net_lines {n : Nt} (h : (netF n).2 = 0) : (scanE lineE [] n.ls).2 = 0 := by
 obtain ⟨q1, q2, q3⟩ := netF_pos h
 unfold netF at h
 rw [if_neg (by omega), if_neg (by omega)] at h
 split at h
 ·assumption
 ·exact h
theorem nW_net {n : Nt} (h : (netF n).2 = 0) {ds : List Int} (hb : ∀ v, -10000 ≤ cAt ds v ∧ cAt ds v ≤ 10000) : (netF (nW n ds)).2 = 0 :=
 net_of (n := nW n ds) (net_lines (n := n) h) (nW_ok (net_ok h) hb)
end Go.Proofs.YtfchdbghjeophaaGreatDoor

/- Corrected nets (plain): the same misclosures, costs and limits; walks there and back. -/
namespace Go.Proofs.YtfchdbghjeophaaGreatDoor
open Go.RowKit
set_option linter.unusedVariables false
set_option linter.unusedSimpArgs false
structure Shf (q : Int → Int) (cs cs' : List Cr) : Prop where
 len : cs'.length = cs.length
 ln : ∀ i : Nat, i < cs.length → (cs'.getD i default).ln = (cs.getD i default).ln
 ti : ∀ i : Nat, i < cs.length → (cs'.getD i default).ti = (cs.getD i default).ti
 df : ∀ i : Nat, i < cs.length → (cs'.getD i default).df = resP (cs.getD i default) q
 wt : ∀ i : Nat, i < cs.length → (cs'.getD i default).wt = (cs.getD i default).wt
theorem mcE_shf {q : Int → Int} {cs cs' : List Cr} (H : Shf q cs cs') : ∀ (w : List Int) (k : Nat) (b a s : Int), k ≠ 0 → mcE cs' w k b a (s + q a - q b) = mcE cs w k b a s
 | [], k, b, a, s, _ => by
  rw [mcE_nil, mcE_nil]
  by_cases e : a = b
  ·subst e
   rw [if_pos rfl, if_pos rfl, show s + q a - q a = s by omega]
  ·rw [if_neg e, if_neg e]
 | i :: w, k, b, a, s, hk => by
  cases hin : inB i 0 ((cs.length : Int) - 1) with
  | false => rw [mcE_out hin, mcE_out (by rw [H.len]; exact hin)]
  | true =>
   have hin' : inB i 0 ((cs'.length : Int) - 1) = true := by rw [H.len]; exact hin
   have hb := inB_iff.1 hin
   have hi : i.toNat < cs.length := by omega
   have e1 := H.ln _ hi
   have e2 := H.ti _ hi
   have e3 := H.df _ hi
   unfold resP at e3
   by_cases ho : k % 2 = 1
   ·rw [mcE_o hin rfl ho, mcE_o hin' rfl ho, e1, e2, e3]
    by_cases e : (cs.getD i.toNat default).ti = a
    ·rw [if_pos e, if_pos e, ← mcE_shf H w (k + 1) b _ _ (by omega)]
     congr 1
     rw [← e]; omega
    ·rw [if_neg e, if_neg e]
   ·rw [mcE_e hin rfl (by omega) hk, mcE_e hin' rfl (by omega) hk, e1, e2, e3]
    by_cases e : (cs.getD i.toNat default).ln = a
    ·rw [if_pos e, if_pos e, ← mcE_shf H w (k + 1) b _ _ (by omega)]
     congr 1
     rw [← e]; omega
    ·rw [if_neg e, if_neg e]
theorem misF_shf {q : Int → Int} {cs cs' : List Cr} (H : Shf q cs cs') (w : List Int) : misF cs' w = misF cs w := by
 unfold misF
 split
 ·split
  ·rename_i h _
   cases w with
   | nil => simp at h
   | cons i w =>
    cases hin : inB i 0 ((cs.length : Int) - 1) with
    | false => rw [mcE_out hin, mcE_out (by rw [H.len]; exact hin)]
    | true =>
     have hb := inB_iff.1 hin
     have hi : i.toNat < cs.length := by omega
     have e3 := H.df _ hi
     unfold resP at e3
     rw [mcE_z hin rfl, mcE_z (by rw [H.len]; exact hin) rfl, H.ln _ hi, H.ti _ hi, e3, ← mcE_shf H w 1 _ _ _ (by omega)]
     congr 1
     omega
  ·rfl
 ·rfl
theorem wk_bdL {cs : List Cr} {L : Int} (hL : 0 ≤ L) (hb : ∀ i : Nat, i < cs.length → -L ≤ (cs.getD i default).df ∧ (cs.getD i default).df ≤ L) : ∀ (w : List Int) (k : Nat) (b a s m : Int), mcE cs w k b a s = (m, 0) → s - L * (w.length : Int) ≤ m ∧ m ≤ s + L * (w.length : Int)
 | [], k, b, a, s, m, h => by
  rw [mcE_nil] at h
  split at h
  ·have := congrArg Prod.fst h
   simp only at this
   simp; omega
  ·exact absurd (congrArg Prod.snd h) (by simp)
 | i :: w, k, b, a, s, m, h => by
  obtain ⟨hin, b', a', s', h2, h3⟩ := mcE_step h
  have hbi := inB_iff.1 hin
  have hd := hb i.toNat (by omega)
  have ih := wk_bdL hL hb w _ _ _ _ _ h2
  simp only [List.length_cons, Int.natCast_add, Int.mul_add]
  generalize L * (w.length : Int) = z at *
  rcases h3 with rfl | rfl <;> constructor <;> omega
theorem mis_lim {n : Nt} {L : Int} (hL : 0 ≤ L) {p : Int → Int} {cs' : List Cr} (H : Shf p n.cs cs') (hp : AgP n (evS n) L p) {w : List Int} {m : Int} (h : misF n.cs w = (m, 0)) : absI m ≤ L * (w.length : Int) := by
 rw [← misF_shf H] at h
 unfold misF at h
 split at h
 ·split at h
  ·have := wk_bdL hL (fun i hi => by
    rw [H.df i (by rw [← H.len]; exact hi)]
    have := hp (i : Int) (List.mem_map.2 ⟨i, List.mem_range.2 (by rw [← H.len]; exact hi), rfl⟩)
    simp only [crI, Int.toNat_natCast] at this
    omega) w _ _ _ _ _ h
   unfold absI
   split <;> omega
  ·exact absurd (congrArg Prod.snd h) (by simp)
 ·exact absurd (congrArg Prod.snd h) (by simp)
theorem shf_res (n : Nt) (c : List Int) : Shf (cAt c) n.cs (nW n (resL n c)).cs := by
 have e : ∀ i : Nat, i < n.cs.length → (nW n (resL n c)).cs.getD i default = setD (n.cs.getD i default) (cAt (resL n c) i) := fun i hi => nW_getD n (resL n c) hi
 refine ⟨wiU_len _ _ _, fun i hi => by rw [e i hi]; rfl, fun i hi => by rw [e i hi]; rfl, fun i hi => ?_, fun i hi => by rw [e i hi]; rfl⟩
 rw [e i hi]
 show cAt (resL n c) i = _
 unfold cAt resL
 rw [Int.toNat_natCast, List.getD_eq_getElem?_getD, List.getElem?_map, List.getD_eq_getElem?_getD, List.getElem?_eq_getElem hi]
 rfl
theorem shf_pot (n : Nt) (p : Int → Int) : ∃ cs', Shf p n.cs cs' := by
 refine ⟨n.cs.map fun x => setD x (resP x p), by simp, fun i hi => ?_, fun i hi => ?_, fun i hi => ?_, fun i hi => ?_⟩
 all_goals
  rw [List.getD_eq_getElem?_getD, List.getD_eq_getElem?_getD, List.getElem?_map, List.getElem?_eq_getElem hi]
  rfl
theorem resP_shf {q p : Int → Int} {cs cs' : List Cr} (H : Shf q cs cs') {i : Nat} (hi : i < cs.length) : resP (cs'.getD i default) p = resP (cs.getD i default) (fun v => p v + q v) := by
 unfold resP
 rw [H.ln i hi, H.ti i hi, H.df i hi]
 unfold resP
 simp only
 omega
theorem agN_shf {q : Int → Int} {n n' : Nt} (H : Shf q n.cs n'.cs) {L : Int} : AgN n' (evS n') L ↔ AgN n (evS n) L := by
 constructor
 ·rintro ⟨p, hp⟩
  refine ⟨fun v => p v + q v, fun i hi => ?_⟩
  have hb := evS_in n i hi
  have := hp i (List.mem_map.2 ⟨i.toNat, List.mem_range.2 (by rw [H.len]; omega), by omega⟩)
  unfold crI at this ⊢
  rw [resP_shf H (by omega)] at this
  exact this
 ·rintro ⟨p, hp⟩
  refine ⟨fun v => p v - q v, fun i hi => ?_⟩
  have hb := evS_in n' i hi
  rw [H.len] at hb
  have := hp i (List.mem_map.2 ⟨i.toNat, List.mem_range.2 (by omega), by omega⟩)
  unfold crI at this ⊢
  rw [resP_shf H (by omega)]
  simp only [Int.sub_add_cancel]
  exact this
theorem isLim_shf {q : Int → Int} {n n' : Nt} (H : Shf q n.cs n'.cs) {L : Int} (h : IsLim n L) : IsLim n' L :=
 ⟨h.lo, h.hi, (agN_shf H).2 h.ag, fun L' h0 ha => h.least L' h0 ((agN_shf H).1 ha)⟩
theorem costP_shf {q : Int → Int} {cs cs' : List Cr} (H : Shf q cs cs') (p : Int → Int) : ∀ i, i ≤ cs.length → costP cs' p i = costP cs (fun v => p v + q v) i
 | 0, _ => rfl
 | i + 1, hi => by rw [costP, costP, costP_shf H p i (by omega), H.wt i (by omega), resP_shf H (by omega)]
theorem minC_shf {q : Int → Int} {n n' : Nt} (H : Shf q n.cs n'.cs) (ok : OkN n) (ok' : OkN n') : minC n' = minC n := by
 obtain ⟨p, -, hp⟩ := pot0 ok
 obtain ⟨p', -, hp'⟩ := pot0 ok'
 have h1 := feas_best ok hp
 have h2 := feas_best ok' hp'
 have h3 := minC_le ok' (fun v => p v - q v)
 have h4 := minC_le ok (fun v => p' v + q v)
 rw [H.len, costP_shf H _ _ (Nat.le_refl _)] at h3
 rw [H.len, costP_shf H _ _ (Nat.le_refl _)] at h2
 simp only [Int.sub_add_cancel] at h3
 have h3 : minC n' ≤ costP n.cs p n.cs.length := h3
 omega
theorem jn_shf {q : Int → Int} {n n' : Nt} (H : Shf q n.cs n'.cs) (hl : n'.ls = n.ls) (hj : Jn n) : Jn n' := fun S h0 hc v v0 v1 => by
 rw [hl] at v1
 refine hj S h0 (fun x hx => ?_) v v0 v1
 obtain ⟨i, hi, rfl⟩ := List.getElem_of_mem hx
 have hi' : i < n'.cs.length := by rw [H.len]; exact hi
 have e1 := H.ln i hi
 have e2 := H.ti i hi
 have g : ∀ (cs : List Cr) (h : i < cs.length), cs.getD i default = cs[i] := fun cs h => by rw [List.getD_eq_getElem?_getD, List.getElem?_eq_getElem h]; rfl
 rw [g _ hi, g _ hi'] at e1 e2
 have := hc _ (List.getElem_mem hi')
 rw [e1, e2] at this
 exact this
inductive Wk (cs : List Cr) : Nat → Int → Int → List Int → Int → Int → Prop
 | nil (k : Nat) (a s : Int) : Wk cs k a s [] a s
 | odd {k : Nat} {i e t s : Int} {w : List Int} (hin : inB i 0 ((cs.length : Int) - 1) = true) (hk : k % 2 = 1) (h : Wk cs (k + 1) (cs.getD i.toNat default).ln (s + (0 - (cs.getD i.toNat default).df)) w e t) : Wk cs k (cs.getD i.toNat default).ti s (i :: w) e t
 | even {k : Nat} {i e t s : Int} {w : List Int} (hin : inB i 0 ((cs.length : Int) - 1) = true) (hk : k % 2 = 0) (h : Wk cs (k + 1) (cs.getD i.toNat default).ti (s + (cs.getD i.toNat default).df) w e t) : Wk cs k (cs.getD i.toNat default).ln s (i :: w) e t
theorem Wk.app {cs : List Cr} {v : List Int} {e' t' : Int} : ∀ {w : List Int} {k : Nat} {a s e t : Int}, Wk cs k a s w e t → Wk cs (k + w.length) e t v e' t' → Wk cs k a s (w ++ v) e' t'
 | _, _, _, _, _, _, .nil k a s, h => by simpa using h
 | _, _, _, _, _, _, .odd hin hk h1, h => .odd hin hk (h1.app (by simpa [Nat.add_assoc, Nat.add_comm 1] using h))
 | _, _, _, _, _, _, .even hin hk h1, h => .even hin hk (h1.app (by simpa [Nat.add_assoc, Nat.add_comm 1] using h))
theorem Wk.rev {cs : List Cr} : ∀ {w : List Int} {k : Nat} {a s e t : Int}, Wk cs k a s w e t → ∀ k' : Nat, k' % 2 = (k + w.length) % 2 → Wk cs k' e t w.reverse a s
 | _, _, _, _, _, _, .nil k a s, k', _ => .nil k' a s
 | i :: w, k, _, s, e, t, .odd hin hk h, k', hk' => by
  have ih := h.rev k' (by simp at hk'; omega)
  rw [List.reverse_cons]
  refine ih.app ?_
  simp at hk'
  have hp : (k' + w.reverse.length) % 2 = 0 := by rw [List.length_reverse]; omega
  refine .even hin hp ?_
  rw [show s + (0 - (cs.getD i.toNat default).df) + (cs.getD i.toNat default).df = s by omega]
  exact .nil _ _ _
 | i :: w, k, _, s, e, t, .even hin hk h, k', hk' => by
  have ih := h.rev k' (by simp at hk'; omega)
  rw [List.reverse_cons]
  refine ih.app ?_
  simp at hk'
  have hp : (k' + w.reverse.length) % 2 = 1 := by rw [List.length_reverse]; omega
  refine .odd hin hp ?_
  rw [show s + (cs.getD i.toNat default).df + (0 - (cs.getD i.toNat default).df) = s by omega]
  exact .nil _ _ _
theorem Wk.par {cs : List Cr} : ∀ {w : List Int} {k : Nat} {a s e t : Int}, Wk cs k a s w e t → ∀ k' : Nat, k' % 2 = k % 2 → Wk cs k' a s w e t
 | _, _, _, _, _, _, .nil k a s, k', _ => .nil k' a s
 | _, _, _, _, _, _, .odd hin hk h, k', hk' => .odd hin (by omega) (h.par (k' + 1) (by omega))
 | _, _, _, _, _, _, .even hin hk h, k', hk' => .even hin (by omega) (h.par (k' + 1) (by omega))
theorem mcE_wk {cs : List Cr} : ∀ {w : List Int} {k : Nat} {b a s m : Int}, k ≠ 0 → (mcE cs w k b a s = (m, 0) ↔ Wk cs k a s w b m)
 | [], k, b, a, s, m, _ => by
  rw [mcE_nil]
  constructor
  ·intro h
   split at h
   ·rename_i e
    subst e
    have := congrArg Prod.fst h
    simp only at this
    subst this
    exact .nil _ _ _
   ·exact absurd (congrArg Prod.snd h) (by simp)
  ·intro h
   cases h
   rw [if_pos rfl]
 | i :: w, k, b, a, s, m, hk => by
  cases hin : inB i 0 ((cs.length : Int) - 1) with
  | false =>
   rw [mcE_out hin]
   constructor
   ·intro h; exact absurd (congrArg Prod.snd h) (by simp)
   ·intro h
    cases h with
    | odd h1 _ _ => rw [hin] at h1; cases h1
    | even h1 _ _ => rw [hin] at h1; cases h1
  | true =>
   by_cases ho : k % 2 = 1
   ·rw [mcE_o hin rfl ho]
    constructor
    ·intro h
     split at h
     ·rename_i e
      subst e
      exact .odd hin ho ((mcE_wk (by omega)).1 h)
     ·exact absurd (congrArg Prod.snd h) (by simp)
    ·intro h
     cases h with
     | odd _ _ h => rw [if_pos rfl]; exact (mcE_wk (by omega)).2 h
     | even _ h2 _ => omega
   ·rw [mcE_e hin rfl (by omega) hk]
    constructor
    ·intro h
     split at h
     ·rename_i e
      subst e
      exact .even hin (by omega) ((mcE_wk (by omega)).1 h)
     ·exact absurd (congrArg Prod.snd h) (by simp)
    ·intro h
     cases h with
     | even _ _ h => rw [if_pos rfl]; exact (mcE_wk (by omega)).2 h
     | odd _ h2 _ => omega
theorem mis_back {cs : List Cr} {w : List Int} {m : Int} (hl : w.length ≤ 16) (h : misF cs w = (m, 0)) : misF cs (w ++ w.reverse) = (0, 0) := by
 unfold misF at h
 split at h
 ·rename_i h1
  split at h
  ·cases w with
   | nil => simp at h1
   | cons i w =>
    cases hin : inB i 0 ((cs.length : Int) - 1) with
    | false => rw [mcE_out hin] at h; exact absurd (congrArg Prod.snd h) (by simp)
    | true =>
     rw [mcE_z hin rfl] at h
     have hw := (mcE_wk (by omega)).1 h
     have hall : Wk cs 2 (cs.getD i.toNat default).ln 0 (i :: w) (cs.getD i.toNat default).ln m := by
      refine .even hin rfl ?_
      have := Wk.par hw 3 rfl
      exact this
     have hr := hall.rev (1 + w.length) (by simp; omega)
     have := hw.app hr
     unfold misF
     rw [if_pos (by simp at h1 hl ⊢; omega), if_pos (by simp at hl ⊢; omega), List.cons_append, mcE_z hin rfl]
     exact (mcE_wk (by omega)).2 this
  ·exact absurd (congrArg Prod.snd h) (by simp)
 ·exact absurd (congrArg Prod.snd h) (by simp)
end Go.Proofs.YtfchdbghjeophaaGreatDoor

/- Small helpers about memory. -/
namespace Go.Proofs.YtfchdbghjeophaaGreatDoor
open Go.RowKit
set_option linter.unusedVariables false
structure Bx (p : Prop) : Prop where
 out : p
end Go.Proofs.YtfchdbghjeophaaGreatDoor

/- Contracts: the document's net with other differences. -/
namespace Go.Proofs.YtfchdbghjeophaaGreatDoor
open Go.RowKit
set_option linter.unusedVariables false
set_option linter.unusedSimpArgs false
end Go.Proofs.YtfchdbghjeophaaGreatDoor

/- Calls whose answer is frozen: what a copy hands back speaks of no memory. -/
namespace Go.Proofs.YtfchdbghjeophaaGreatDoor
open Go.RowKit
set_option linter.unusedVariables false
def frzRun (run : List MV → Option (MV × MHeap)) (args : List MV) : Option (MV × MHeap) :=
 match run args with
 | some (m, news) => match frz 0 [] news 8 m with
  | some m' => some (m', [])
  | none => none
 | none => none
theorem post_frz {E : Env} {w : World} {m m' : MV} {news : MHeap} {e : Ending} {w' : World} (hr : HRel E [] w) (hf : frz 0 [] news 8 m = some m') (hP : Post E w m news e w') : Post E w m' [] e w' := by
 obtain ⟨v, E', rfl, h1, h2, h3⟩ := hP
 obtain ⟨S0, hS0⟩ : ∃ S0 : Nat → Prop, S0 = fun b => E'.S b ∨ ∃ id, E'.K id ∧ 0 < E'.cp id ∧ E'.ρ id = b := ⟨_, rfl⟩
 have hK : ∀ id, ¬ E.K id := fun id hk => absurd (hr.klt id hk) (by simp)
 have ht : E'.top = 0 := by rw [h3.top]; exact Nat.le_zero.1 hr.top
 refine ⟨v, { E' with K := fun _ => False, S := S0 }, rfl, ?_, ?_, ?_⟩
 ·refine frz_okG (Es := { E' with K := fun _ => False, S := S0 }) h2 (fun m v hv hl => V.env (E := E'.res 0) (E2 := { E' with K := fun _ => False, S := S0 }) ⟨fun b hb => (by rw [hS0]; exact .inl hb : S0 b), fun id hk => absurd hk.2 (by omega), rfl⟩ (hv.res hl)) (fun b hb => ?_) (fun id hk _ _ hc0 => ?_) 8 _ _ _ h1 hf
  ·show S0 b
   rw [hS0]; exact .inl hb
  ·show S0 (E'.ρ id)
   rw [hS0]; exact .inr ⟨id, hk, hc0, rfl⟩
 ·refine ⟨fun _ hk => hk.elim, by rw [show ({ E' with K := fun _ => False, S := S0 } : Env).top = E'.top from rfl, ht]; exact Nat.zero_le _, fun _ hk => hk.elim, fun _ _ hk => hk.elim, fun _ hk => hk.elim, fun b hb => ?_, fun p hp => V.env (E := E'.res 0) (E2 := { E' with K := fun _ => False, S := S0 }) ⟨fun b hb => (by rw [hS0]; exact .inl hb : S0 b), fun id hk => absurd hk.2 (by omega), rfl⟩ ((h2.tab p hp).res (TABS_lt 0 p hp))⟩
  have hb : S0 b := hb
  rw [hS0] at hb
  rcases hb with hb | ⟨id, hk, hc, rfl⟩
  ·exact h2.slt b hb
  ·exact h2.lt hk hc
 ·refine ⟨h3.os, h3.tape, h3.output, h3.size, h3.keep, fun b hb => (by rw [hS0]; exact .inl (h3.S b hb) : S0 b), fun id hk => absurd hk (hK id), fun id hk => absurd hk (hK id), fun id hk => absurd hk (hK id), fun id hk => hk.elim, h3.top, fun id hk => hk.elim, h3.yl, fun b hb => ?_⟩
  have hb : S0 b := hb
  rw [hS0] at hb
  rcases hb with hb | ⟨id, hk, hc, rfl⟩
  ·exact h3.srcS b hb
  ·rcases h3.src id hk hc with ⟨q, _⟩ | q
   ·exact absurd q (hK id)
   ·exact .inr (.inr q)
end Go.Proofs.YtfchdbghjeophaaGreatDoor

/- Copies of nets that are frozen; whether a slice has a number. -/
namespace Go.Proofs.YtfchdbghjeophaaGreatDoor
open Go.RowKit
set_option linter.unusedVariables false
set_option linter.unusedSimpArgs false
theorem frz_cp (ls : List Ln) (cs : List Cr) : frz 0 [] (cpH ls cs) 8 (cpV 0 ls cs) = some (encN ⟨ls, cs⟩) := by
 cases ls with
 | nil =>
  cases cs with
  | nil => rfl
  | cons c cs => exact frzF_agg2 rfl (frzF_lt rfl) (frzF_arr (o := ⟨0, false, 6, (c :: cs).map encCr⟩) rfl rfl (by simp) (ltL_Cr 0 _) rfl)
 | cons l ls =>
  cases cs with
  | nil => exact frzF_agg2 rfl (frzF_arr (o := ⟨0, false, 2, (l :: ls).map encLn⟩) rfl rfl (by simp) (ltL_Ln 0 _) rfl) (frzF_lt rfl)
  | cons c cs => exact frzF_agg2 rfl (frzF_arr (o := ⟨0, false, 2, (l :: ls).map encLn⟩) rfl rfl (by simp) (ltL_Ln 0 _) rfl) (frzF_arr (o := ⟨0, false, 6, (c :: cs).map encCr⟩) rfl rfl (by simp) (ltL_Cr 0 _) rfl)
theorem mf_bHas : MT.mf 85 = some ⟨18, [(.tmp 4)], (.seq (.reg [gO 4 (.mv cF)]) (.seq (.seq (.reg [gO 5 (.mv (cI 0))]) (.block 0 (.loop [5, 0, 1] (.seq (.seq (.reg [gO 6 (.mv (.s 5)), gO 7 (.mv (.s 0)), gO 8 (.len (.s 7)), gO 9 (.bin .lss (.s 6) (.s 8))]) (.cond (.s 9) .skip (.exit 0))) (.seq (.block 1 (.seq (.reg [gO 12 (.mv (.s 0)), gO 13 (.mv (.s 5)), gO 14 (.ia 1 (.s 12) (.s 13)), gO 15 (.ld none (.s 14)), gO 16 (.mv (.s 1)), gO 17 (.bin .eql (.s 15) (.s 16))]) (.cond (.s 17) (.seq (.reg [gO 4 (.mv cT)]) .ret) .skip))) (.reg [gO 10 (.mv (.s 5)), gO 11 (.bin .add (.s 10) (cI 1)), gO 5 (.mv (.s 11))])))))) (.seq (.reg [gO 4 (.mv cF)]) .ret)))⟩ := by kernel_rfl
theorem bHas_z (k : Nat) (xs : List Int) (z : Int) (hx : xs.length ≤ 1000) : runZ MT (orA k) (itA k) 4000000 85 [.sl (xs.map I64), I64 z] [] = some (Bo (xs.any (· == z)), []) := by
 have hl : (MV.sl (xs.map I64)).slen = some xs.length := by simp [MV.slen]
 refine runZ_of mf_bHas (by simp) ?_
 simp only [argsL]
 repeat (first | apply ef_seq | (apply ef_mv; exact rfl; exact rfl) | apply ef_nil | apply seqQ.normal | apply ef_block)
 refine ef_loop (α := Nat) (fun i => i ≤ xs.length ∧ xs.any (· == z) = (xs.drop i).any (· == z)) (fun i => [(5, I64 (i : Int)), (0, .sl (xs.map I64)), (1, I64 z)]) (fun _ => []) (fun i => xs.length - i) 0 [5, 0, 1] (fun _ => rfl) rfl ⟨by omega, rfl⟩ (by simp; omega) (by ((repeat (refine Hold.cons (by exact rfl) ?_)); exact Hold.nil)) rfl ?_
 rintro i ⟨hi, hz⟩
 by_cases hlt : i < xs.length
 ·have e1 := at_map I64 xs i hlt
  have HS := Lib.hid (drop_at xs i hlt)
  have HZ := Lib.hid hz
  clear hz
  generalize xs[i] = y at e1 HS
  by_cases h3 : y = z
  ·repeat (first | apply ef_seq | (apply ef_mv; exact rfl; exact rfl) | (apply ef_bin; (iterate 3 exact rfl); (exact cmp_t rfl (by first | exact rfl | (simp only [cmpP]; omega)))) | (apply ef_len; exact rfl; exact rfl; (assumption)) | (apply ef_ldr; exact rfl; exact rfl; (exact rfl)) | (apply ef_ias; (iterate 3 exact rfl); (omega); assumption; exact rfl) | apply ef_nil | apply seqQ.normal | apply loopQ.ret | apply ef_ret | apply seqQ.ret | apply blockQ.ret | apply ef_block | apply ef_skip | (apply ef_condt; exact rfl; (exact (rfl : true = true))))
   (refine fin1 rfl (by exact rfl) rfl ?_)
   rw [HZ.out, HS.out, List.any_cons, h3]; simp
  ·repeat (first | apply ef_seq | (apply ef_mv; exact rfl; exact rfl) | (apply ef_bin; (iterate 3 exact rfl); (first | exact cmp_t rfl (by first | exact rfl | (simp only [cmpP]; omega)) | exact cmp_f rfl (by simp only [cmpP]; omega) | ((with_reducible refine bin_add (wrap_of ?_ ?_)) <;> omega))) | (apply ef_len; exact rfl; exact rfl; (assumption)) | (apply ef_ldr; exact rfl; exact rfl; (exact rfl)) | (apply ef_ias; (iterate 3 exact rfl); (omega); assumption; exact rfl) | apply ef_nil | apply seqQ.normal | apply blockQ.normal | apply ef_block | apply ef_skip | (apply ef_condt; exact rfl; (exact (rfl : true = true))) | (apply ef_condf; exact rfl; (exact (rfl : false = false))))
   (refine loopQ.normal _ _ ⟨i + 1, ⟨hlt, by rw [HZ.out, HS.out, List.any_cons, show (y == z) = false by simpa using h3]; rfl⟩, (by first | (simp only; omega) | omega), by ((repeat (refine Hold.cons (by exact rfl) ?_)); exact Hold.nil), .inl (Nat.le_refl _), (by first | exact List.take_length | exact rfl)⟩)
 ·repeat (first | apply ef_seq | (apply ef_mv; exact rfl; exact rfl) | (apply ef_bin; (iterate 3 exact rfl); (exact cmp_f rfl (by simp only [cmpP]; omega))) | (apply ef_len; exact rfl; exact rfl; (assumption)) | apply ef_nil | apply seqQ.normal | apply loopQ.exit | apply ef_ret | apply ef_exit | apply seqQ.exit | apply blockQ.here | (apply ef_condf; exact rfl; (exact (rfl : false = false))))
  (refine fin1 rfl (by exact rfl) rfl ?_)
  rw [hz, List.drop_eq_nil_of_le (by omega)]; rfl
theorem bHas_c (k : Nat) (xs : List Int) (z : Int) (hx : xs.length ≤ 1000) (h : MHeap) {v : MV} (hv : frz 0 [] h 8 v = some (.sl (xs.map I64))) {t : Bool} (ht : xs.any (· == z) = t) : orA (k + 1) 85 [v, I64 z] h = some (Bo t, h) :=
 callL (args' := [.sl (xs.map I64), I64 z]) (by simp [List.mapM_cons, hv, frz_lt (m := I64 z) rfl]) rfl (by rw [← ht]; exact bHas_z k xs z hx)
end Go.Proofs.YtfchdbghjeophaaGreatDoor

/- Contracts of the document: residuals and the cost; corrections of which a set of lines is moved. -/
namespace Go.Proofs.YtfchdbghjeophaaGreatDoor
open Go.RowKit
set_option linter.unusedVariables false
set_option linter.unusedSimpArgs false
structure OkB (m : Nat) (c : List Int) : Prop where
 len : c.length = m
 bd : ∀ v, -40000000000 ≤ cAt c v ∧ cAt c v ≤ 40000000000
theorem resL_bd {n : Nt} (ok : OkN n) {c : List Int} (hc : OkB n.ls.length c) (v : Int) : -1000000000000 ≤ cAt (resL n c) v ∧ cAt (resL n c) v ≤ 1000000000000 := by
 unfold cAt resL
 rw [List.getD_eq_getElem?_getD, List.getElem?_map]
 cases hh : n.cs[v.toNat]? with
 | none => simp
 | some x =>
  have hx := (ok.rg x (List.mem_of_getElem? hh)).df
  have h1 := hc.bd x.ln
  have h2 := hc.bd x.ti
  simp only [Option.map_some, Option.getD_some, resI]
  omega
theorem mf_rRes : MT.mf 19 = some ⟨38, [(.tmp 4)], (.seq (.reg [gO 2 (.box 2 (.s 0)), gO 4 (.nil0 1)]) (.seq (.reg [gO 5 (.nil0 1)]) (.seq (.seq (.reg [gO 6 (.mv (cI 0))]) (.block 0 (.loop [6, 2, 5, 1] (.seq (.seq (.reg [gO 8 (.mv (.s 6)), gO 9 (.fa 1 (.s 2)), gO 10 (.ld none (.s 9)), gO 11 (.len (.s 10)), gO 12 (.bin .lss (.s 8) (.s 11))]) (.cond (.s 12) .skip (.exit 0))) (.seq (.block 1 (.seq (.reg [gO 15 (.fa 1 (.s 2)), gO 16 (.ld none (.s 15)), gO 17 (.mv (.s 6)), gO 18 (.ia 6 (.s 16) (.s 17)), gO 19 (.ld (some 6) (.s 18)), gO 7 (.new (.agg [(.lit (.int .i64 0)), (.lit (.int .i64 0)), (.lit (.int .i64 0)), (.lit (.int .i64 0)), (.lit (.int .i64 0)), (.lit (.int .i64 0))])), ⟨none, none, .st 6 (.s 7) (.s 19)⟩]) (.reg [gO 20 (.mv (.s 5)), gO 21 (.fa 4 (.s 7)), gO 22 (.ld none (.s 21)), gO 23 (.mv (.s 1)), gO 24 (.fa 0 (.s 7)), gO 25 (.ld none (.s 24)), gO 26 (.ia 1 (.s 23) (.s 25)), gO 27 (.ld none (.s 26)), gO 28 (.bin .sub (.s 22) (.s 27)), gO 29 (.mv (.s 1)), gO 30 (.fa 1 (.s 7)), gO 31 (.ld none (.s 30)), gO 32 (.ia 1 (.s 29) (.s 31)), gO 33 (.ld none (.s 32)), gO 34 (.bin .add (.s 28) (.s 33)), gO 35 (.bsl (.lit (.int .i64 0)) 1 1 [(0, (.s 34))]), gO 36 (.app 1 (.s 20) (.s 35)), gO 5 (.mv (.s 36))]))) (.reg [gO 13 (.mv (.s 6)), gO 14 (.bin .add (.s 13) (cI 1)), gO 6 (.mv (.s 14))])))))) (.seq (.reg [gO 37 (.mv (.s 5)), gO 4 (.mv (.s 37))]) .ret))))⟩ := by kernel_rfl
set_option maxHeartbeats 1000000 in
theorem rRes_z (k : Nat) (n : Nt) (ok : OkN n) (c : List Int) (hc : OkB n.ls.length c) :
  runZ MT (orA k) (itA k) 4000000 19 [encN n, .sl (c.map I64)] [] = some (.arr 0 0 n.cs.length 0, [⟨0, decide (n.cs.length = 0), 1, (resL n c).map I64⟩]) := by
 have hs2 : (MV.sl (n.cs.map encCr)).slen = some n.cs.length := by simp [MV.slen]
 have hrl : (resL n c).length = n.cs.length := by simp [resL]
 have c16 := ok.c16
 refine runZ_of mf_rRes (by simp) ?_
 simp only [argsL]
 repeat (first | apply ef_seq | (apply ef_mv; exact rfl; exact rfl) | (apply ef_box; (iterate 4 exact rfl)) | (apply ef_nil0; exact rfl) | apply ef_nil | apply seqQ.normal | apply ef_block)
 refine ef_loopf (α := Nat) (fun i => i ≤ n.cs.length) (fun i => [(6, I64 (i : Int)), (5, .arr 2 0 i i)]) [(2, .ptr 0 0 0 0), (1, .sl (c.map I64))] (fun i => [⟨0, false, 2, [encN n]⟩, ⟨0, true, 1, []⟩, rowO (resL n c) i]) (fun i => n.cs.length - i) 0 [6, 5] (fun _ => rfl) (by ((repeat (refine Hold.cons (by exact rfl) ?_)); exact Hold.nil)) (by ((repeat (refine Hold.cons (by exact rfl) ?_)); exact Hold.nil)) rfl rfl (by omega) (by simp; omega) ?_
 intro i hi
 try simp only at hi ⊢
 by_cases hlt : i < n.cs.length
 ·have e1 := at_map encCr n.cs i hlt
  have hxx := ok.rg n.cs[i] (List.getElem_mem hlt)
  have HT := row_next (xs := resL n c) (i := i) (z := resI c n.cs[i]) (by simp [resL, hlt])
  have hri : resI c n.cs[i] = n.cs[i].df - cAt c n.cs[i].ln + cAt c n.cs[i].ti := rfl
  generalize n.cs[i] = x at e1 hxx HT hri
  have f1 := cAt_at hc.len hxx.l0 hxx.l1
  have f2 := cAt_at hc.len hxx.t0 hxx.t1
  have g1 := hc.bd x.ln
  have g2 := hc.bd x.ti
  have g3 := hxx.df
  have g4 := hxx.l0
  have g5 := hxx.t0
  have g6 := hxx.l1
  have g7 := hxx.t1
  have hcl := hc.len
  generalize cAt c x.ln = u at *
  generalize cAt c x.ti = w at *
  rw [hri] at HT
  repeat (first | apply ef_seq | (apply ef_mv; exact rfl; exact rfl) | (apply ef_bin; (iterate 3 exact rfl); (first | exact cmp_t rfl (by first | exact rfl | (simp only [cmpP]; omega)) | ((with_reducible refine bin_add (wrap_of ?_ ?_)) <;> omega) | ((with_reducible refine bin_sub (wrap_of ?_ ?_)) <;> omega))) | (apply ef_len; exact rfl; exact rfl; (assumption)) | (apply ef_ldr; exact rfl; exact rfl; (first | exact rd_6 rfl rfl rfl rfl rfl rfl | exact rfl)) | (apply ef_ldp; exact rfl; exact rfl; (exact rfl); exact rfl; (exact rfl); (exact rfl)) | (apply ef_ias; (iterate 3 exact rfl); (omega); assumption; exact rfl) | (apply ef_fap; exact rfl; exact rfl) | (apply ef_new; exact rfl) | (apply ef_bsl; exact rfl; (repeat (apply XVs.cons; exact rfl)); exact XVs.nil; exact rfl) | (apply ef_st; (iterate 6 exact rfl); (exact rfl); exact rfl) | apply ef_nil | apply seqQ.normal | apply ef_block | apply ef_skip | (apply ef_condt; exact rfl; (exact (rfl : true = true))))
  (apply ef_app; (· exact rfl); (· exact rfl); (· exact rfl); (· exact rfl); (· exact rfl); (· exact rfl); (· (simp [rowL_len (xs := resL n c) (i := i) (by omega)])); (· exact rfl); (· (simp [rowL_len (xs := resL n c) (i := i) (by omega)]; omega)); (· (simp [MV.sOk, MV.cells, MV.one, Value.oneCell'])); (· exact rfl))
  repeat (first | (apply ef_mv; exact rfl; exact rfl) | (apply ef_bin; (iterate 3 exact rfl); (((with_reducible refine bin_add (wrap_of ?_ ?_)) <;> omega))) | apply ef_nil | apply seqQ.normal | apply blockQ.normal)
  (refine loopQ.normal _ _ ⟨i + 1, hlt, (by first | (simp only; omega) | omega), ⟨by ((repeat (refine Hold.cons (by exact rfl) ?_)); exact Hold.nil), by ((repeat (refine Hold.cons (by exact rfl) ?_)); exact Hold.nil)⟩, .inr ⟨by ((repeat (refine hdl_cons rfl (by first | rfl | (simp [MV.lt, ltL, ltL_Ln, ltL_Cr, ltL_I, ltL_row, ltL_app2])) ?_)); exact hdl_nil), by (simp [hltL, ltL, MV.lt, ltL, ltL_Ln, ltL_Cr, ltL_I, ltL_row, ltL_app2])⟩, by (show _ = ([⟨0, false, 2, [encN n]⟩, ⟨0, true, 1, []⟩, (⟨i + 1, decide (i + 1 = 0), 1, rowL (resL n c) (i + 1)⟩ : MObj)] : MHeap); rw [HT]; exact rfl)⟩)
 ·obtain rfl : i = n.cs.length := by omega
  have hra := row_all (resL n c)
  rw [hrl] at hra
  repeat (first | apply ef_seq | (apply ef_mv; exact rfl; exact rfl) | (apply ef_bin; (iterate 3 exact rfl); (exact cmp_f rfl (by simp only [cmpP]; omega))) | (apply ef_len; exact rfl; exact rfl; (assumption)) | (apply ef_ldp; exact rfl; exact rfl; (exact rfl); exact rfl; (exact rfl); (exact rfl)) | (apply ef_fap; exact rfl; exact rfl) | apply ef_nil | apply seqQ.normal | apply loopQ.exit | apply ef_ret | apply ef_exit | apply seqQ.exit | apply blockQ.here | (apply ef_condf; exact rfl; (exact (rfl : false = false))))
  (apply fin_arr; (· exact rfl); (· exact rfl); (· exact rfl); (· exact rfl); (· (show 0 + n.cs.length ≤ (rowL (resL n c) n.cs.length).length; rw [hra]; simp [hrl])); (· (exact ltL_row 0 _ _)); (· (show ((rowL (resL n c) n.cs.length).drop 0).take n.cs.length = _; rw [hra, List.drop_zero, List.take_of_length_le (by simp [hrl])])); (· exact rfl); (· exact rfl); (· rfl))
theorem rRes_c (k : Nat) (n : Nt) (ok : OkN n) (c : List Int) (hc : OkB n.ls.length c) (h : MHeap) {v : MV} (hv : frz 0 [] h 8 v = some (.sl (c.map I64))) :
  orA (k + 1) 19 [encN n, v] h = some (.arr h.length 0 n.cs.length 0, h ++ [⟨0, decide (n.cs.length = 0), 1, (resL n c).map I64⟩]) := by
 have := callA (k := k) (h := h) (args := [encN n, v]) (args' := [encN n, .sl (c.map I64)]) (by simp [List.mapM_cons, hv, frz_lt (ltL_N n 0)]) rfl (rRes_z k n ok c hc) rfl (by simp [okH, ltL_I, pureL_I])
 simpa [shV, sh1] using this
end Go.Proofs.YtfchdbghjeophaaGreatDoor

/- Contracts of the document: corrections of which a set of lines is moved. -/
namespace Go.Proofs.YtfchdbghjeophaaGreatDoor
open Go.RowKit
set_option linter.unusedVariables false
set_option linter.unusedSimpArgs false
end Go.Proofs.YtfchdbghjeophaaGreatDoor

/- Contracts of the document: a set of lines that makes corrections cheaper, or as cheap and lower. -/
namespace Go.Proofs.YtfchdbghjeophaaGreatDoor
open Go.RowKit
set_option linter.unusedVariables false
set_option linter.unusedSimpArgs false
section
variable {O : Oracle} {I : Iter} {N n : Nat}
theorem runZ_ofE {α : Type} {M : Tab} {f : Nat} {rs : List MRes} {b : MC} {args : List MV} {p : α → Prop} {m : α → MV} {news : α → MHeap} (hmf : M.mf f = some ⟨n, rs, b⟩) (hn : args.length ≤ n)
  (hE : Ef O I N n (fun _ => false) b (argsL 0 args) [] (fun x A h => ∃ a, p a ∧ FinF rs (m a) (news a) x A h)) : ∃ a, p a ∧ runZ M O I N f args [] = some (m a, news a) := by
 obtain ⟨x, s', h', k1, A', k2, a, hp, hx, vs, vs', r1, r2, r3, r4⟩ := hE.run (args ++ List.replicate (n - args.length) (.lit undef)) ⟨by simp; omega, fun t v ht => by
  obtain ⟨_, h1⟩ := look_args _ _ _ _ ht
  rw [Nat.sub_zero] at h1
  have hl := (List.getElem?_eq_some_iff.1 h1).1
  rw [List.getD_eq_getElem?_getD, List.getElem?_append_left hl, h1]
  rfl⟩
 refine ⟨a, hp, ?_⟩
 unfold runZ
 rw [hmf]
 unfold runF
 have elk : (fun id => decide (id < ([] : MHeap).length)) = fun _ => false := by funext id; simp
 dsimp only
 rw [elk, k1]
 have hx' : x = .ret ∨ x = .normal := by cases x <;> simp [outX] at hx <;> simp
 dsimp only
 obtain ⟨o1, o2⟩ := r1.opn
 rw [if_pos hx', ResVs.ok k2 r1]
 simp only [List.length_nil, o1, o2, r2, if_true, r3, r4, List.nil_append]
end
end Go.Proofs.YtfchdbghjeophaaGreatDoor

/- Contracts: the numbers of a set, all crossings, whether crossings agree, the limit of a net; the program. -/
namespace Go.Proofs.YtfchdbghjeophaaGreatDoor
open Go.RowKit Go.Lib
set_option linter.unusedVariables false
set_option linter.unusedSimpArgs false
abbrev U64 (n : Int) : MV := .lit (.int .u64 n)
theorem u64_wrap {z : Int} (h0 : 0 ≤ z) (h1 : z < 18446744073709551616) : IntKind.u64.wrap z = z := by rw [IntKind.wrap_u64]; omega
theorem u64_and {a b : Nat} (ha : a < 18446744073709551616) (hb : b < 18446744073709551616) : binI .and .u64 (a : Int) (b : Int) = some (.int .u64 ((a &&& b : Nat) : Int)) := by
 have := bits_and_u64_nat a b ha hb
 have e : binI .and .u64 (a : Int) (b : Int) = some (.int .u64 (bits .and .u64 (a : Int) (b : Int))) := rfl
 rw [e, this]
theorem u64_sub {a b : Int} (h0 : 0 ≤ a - b) (h1 : a - b < 18446744073709551616) : binI .sub .u64 a b = some (.int .u64 (a - b)) := by
 have e : binI .sub .u64 a b = some (.int .u64 (IntKind.u64.wrap (a - b))) := rfl
 rw [e, u64_wrap h0 h1]
theorem u64_shl {m : Nat} (hm : m ≤ 63) : shfI .shl .u64 1 (m : Int) = some (.int .u64 ((2 ^ m : Nat) : Int)) := by
 have h2 : 2 ^ m ≤ 2 ^ 63 := Nat.pow_le_pow_right (by omega) hm
 have hq : ∀ q : Nat, q ≤ 2 ^ 63 → IntKind.u64.wrap (q : Int) = q := fun q hq => u64_wrap (by omega) (by omega)
 have e : shfI .shl .u64 1 (m : Int) = some (.int .u64 (IntKind.u64.wrap (1 * 2 ^ min m 64))) := by
  unfold shfI
  rw [if_neg (by omega)]
  rfl
 have e2 : ((2 : Int) ^ m) = ((2 ^ m : Nat) : Int) := by rw [Int.natCast_pow]; rfl
 rw [e, Nat.min_eq_left (by omega), Int.one_mul, e2, hq _ h2]
theorem tz64_c (k : Nat) (x : Nat) (hx : x < 18446744073709551616) (h : MHeap) : orA (k + 1) 125 [U64 x] h = some (I64 (ctz 64 x : Nat), h) := by
 have hT : tA 125 [U64 x] [] = some (I64 (ctz 64 x : Nat), []) := by
  unfold tA tTz
  rw [if_pos rfl, if_pos rfl]
  show (if 0 ≤ (x : Int) ∧ (x : Int) < 18446744073709551616 then _ else _) = _
  rw [if_pos (by omega)]; rfl
 have := callT (k := k) (h := h) (args := [U64 x]) (args' := [U64 x]) (frzL_lt rfl) hT (by simp [okV, ok1, MV.lt, MV.pure]) rfl
 simpa [shV, sh1] using this
theorem mf_tz : MT.mf 99 = some ⟨8, [(.tmp 2)], (.seq (.reg [gO 2 (.mv (cI 0))]) (.seq (.cond cF (.seq (.reg [gO 3 (.mv (.s 0)), gO 4 (.cv .u32 (.s 3)), gO 5 (.call 124 [.s 4]), gO 2 (.mv (.s 5))]) .ret) .skip) (.seq (.reg [gO 6 (.mv (.s 0)), gO 7 (.call 125 [.s 6]), gO 2 (.mv (.s 7))]) .ret)))⟩ := by kernel_rfl
theorem tz_c (k : Nat) (x : Nat) (hx : x < 18446744073709551616) (h : MHeap) : orA (k + 2) 99 [U64 x] h = some (I64 (ctz 64 x : Nat), h) := by
 refine callL (args' := [U64 x]) (frzL_lt rfl) rfl (runZ_of mf_tz (by simp) ?_)
 simp only [argsL]
 have w := fun h => tz64_c k x hx h
 generalize ctz 64 x = z at *
 repeat (first | apply ef_seq | (apply ef_mv; exact rfl; exact rfl) | apply ef_nil | apply seqQ.normal | apply ef_ret | apply ef_skip | (apply ef_condf; exact rfl; (exact (rfl : false = false))) | (apply ef_call; exact rfl; ((repeat (apply XVs.cons; exact rfl)); exact XVs.nil); (with_reducible exact w _)))
 (refine fin1 rfl (by exact rfl) rfl ?_)
 rfl
abbrev mbI (x : Nat) : List Int := (mbL x).map fun i : Nat => (i : Int)
theorem mf_members : MT.mf 55 = some ⟨16, [(.tmp 2)], (.seq (.reg [gO 2 (.nil0 1)]) (.seq (.reg [gO 3 (.nil0 1)]) (.seq (.block 0 (.loop [0, 3] (.seq (.seq (.reg [gO 4 (.mv (.s 0)), gO 5 (.bin .neq (.s 4) (.c (.lit (.int .u64 0))))]) (.cond (.s 5) .skip (.exit 0))) (.seq (.block 1 (.reg [gO 10 (.mv (.s 3)), gO 11 (.mv (.s 0)), gO 12 (.call 99 [.s 11]), gO 13 (.bsl (.lit (.int .i64 0)) 1 1 [(0, (.s 12))]), gO 14 (.app 1 (.s 10) (.s 13)), gO 3 (.mv (.s 14))])) (.reg [gO 6 (.mv (.s 0)), gO 7 (.mv (.s 0)), gO 8 (.bin .sub (.s 7) (.c (.lit (.int .u64 1)))), gO 9 (.bin .and (.s 6) (.s 8)), gO 0 (.mv (.s 9))]))))) (.seq (.reg [gO 15 (.mv (.s 3)), gO 2 (.mv (.s 15))]) .ret))))⟩ := by kernel_rfl
set_option maxHeartbeats 1000000 in
theorem members_z (k X : Nat) (hX : X < 18446744073709551616) :
  runZ MT (orA (k + 2)) (itA (k + 2)) 4000000 55 [U64 X] [] = some (.arr 0 0 (mbL X).length 0, [⟨0, decide ((mbL X).length = 0), 1, (mbI X).map I64⟩]) := by
 refine runZ_of mf_members (by simp) ?_
 simp only [argsL]
 repeat (first | apply ef_seq | (apply ef_nil0; exact rfl) | apply ef_nil | apply seqQ.normal | apply ef_block)
 refine ef_loopf (α := Nat × Nat × List Nat × List MV) (fun p => p.1 < 18446744073709551616 ∧ p.2.1 = p.2.2.1.length ∧ mbL X = p.2.2.1 ++ mbL p.1 ∧ p.2.2.2 = (p.2.2.1.map fun i : Nat => (i : Int)).map I64) (fun p => [(0, U64 (p.1 : Nat)), (3, .arr 1 0 p.2.1 p.2.1)]) [] (fun p => [⟨0, true, 1, []⟩, ⟨p.2.1, decide (p.2.1 = 0), 1, p.2.2.2⟩]) (fun p => (mbL p.1).length) (X, 0, [], []) [0, 3] (fun _ => rfl) (by ((repeat (refine Hold.cons (by exact rfl) ?_)); exact Hold.nil)) (by ((repeat (refine Hold.cons (by exact rfl) ?_)); exact Hold.nil)) rfl rfl ⟨hX, rfl, rfl, rfl⟩ (by show (mbL X).length < 4000000; have := mbL_len64 hX; omega) ?_
 rintro ⟨x, q, ds, rs⟩ ⟨hx, hql, hz, hrs⟩
 try simp only at hx hql hz hrs ⊢
 have hrl : rs.length = q := by rw [hrs, List.length_map, List.length_map, hql]
 have hlr : ∀ j, ltL j rs = true := fun j => by rw [hrs]; exact ltL_I j _
 have hdl : q ≤ 64 := by
  have h1 := mbL_len64 hX
  rw [hz, List.length_append] at h1
  omega
 by_cases h0 : x = 0
 ·subst h0
  rw [mbL_zero, List.append_nil] at hz
  have hmi : mbI X = ds.map fun i : Nat => (i : Int) := by unfold mbI; rw [hz]
  rw [hmi, hz, ← hql]
  repeat (first | apply ef_seq | (apply ef_mv; exact rfl; exact rfl) | (apply ef_bin; (iterate 3 exact rfl); (exact cmp_f rfl (by simp only [cmpP]; omega))) | apply ef_nil | apply seqQ.normal | apply loopQ.exit | apply ef_ret | apply ef_exit | apply seqQ.exit | apply blockQ.here | (apply ef_condf; exact rfl; (exact (rfl : false = false))))
  (apply fin_arr; (· exact rfl); (· exact rfl); (· exact rfl); (· exact rfl); (· (show 0 + _ ≤ rs.length; omega)); (· (exact hlr 0)); (· (show (rs.drop 0).take _ = _; rw [List.drop_zero, List.take_of_length_le (by omega), hrs])); (· exact rfl); (· exact rfl); (· rfl))
 ·have e1 : binI .sub .u64 (x : Int) 1 = some (.int .u64 ((x - 1 : Nat) : Int)) := by rw [u64_sub (by omega) (by omega), show (x : Int) - 1 = ((x - 1 : Nat) : Int) by omega]
  have e2 : binI .and .u64 (x : Int) ((x - 1 : Nat) : Int) = some (.int .u64 (clrB x : Nat)) := u64_and hx (by omega)
  have w1 := fun h => tz_c k x hx h
  have hl := clrB_lt h0
  have hm := mbL_pos h0
  generalize clrB x = y at *
  generalize ctz 64 x = z at *
  repeat (first | apply ef_seq | (apply ef_mv; exact rfl; exact rfl) | (apply ef_bin; (iterate 3 exact rfl); (exact cmp_t rfl (by first | exact rfl | (simp only [cmpP]; omega)))) | (apply ef_bsl; exact rfl; (repeat (apply XVs.cons; exact rfl)); exact XVs.nil; exact rfl) | apply ef_nil | apply seqQ.normal | apply ef_block | apply ef_skip | (apply ef_condt; exact rfl; (exact (rfl : true = true))) | (apply ef_call; exact rfl; ((repeat (apply XVs.cons; exact rfl)); exact XVs.nil); (with_reducible exact w1 _)))
  (apply ef_app; (· exact rfl); (· exact rfl); (· exact rfl); (· exact rfl); (· exact rfl); (· exact rfl); (· (simp [hrl])); (· exact rfl); (· (simp [hrl]; omega)); (· (exact rfl)); (· exact rfl))
  repeat (first | (apply ef_mv; exact rfl; exact rfl) | (apply ef_bin; (iterate 3 exact rfl); (assumption)) | apply ef_nil | apply seqQ.normal | apply blockQ.normal)
  (refine loopQ.normal _ _ ⟨(y, q + 1, ds ++ [z], rs ++ [I64 (z : Nat)]), ⟨by omega, by simp [hql], by rw [hz, hm, List.append_assoc]; rfl, by rw [hrs]; simp⟩, (by show (mbL y).length < (mbL x).length; rw [hm]; simp), ⟨by ((repeat (refine Hold.cons (by exact rfl) ?_)); exact Hold.nil), by ((repeat (refine Hold.cons (by exact rfl) ?_)); exact Hold.nil)⟩, .inr ⟨by ((repeat (refine hdl_cons rfl (by first | rfl | (simp [MV.lt, ltL, hlr, ltL_app2, splice, MV.cells])) ?_)); exact hdl_nil), by (simp [hltL, ltL, MV.lt, ltL, hlr, ltL_app2, splice, MV.cells])⟩, by exact rfl⟩)
theorem members_c (k X : Nat) (hX : X < 18446744073709551616) (h : MHeap) :
  orA (k + 3) 55 [U64 X] h = some (.arr h.length 0 (mbL X).length 0, h ++ [⟨0, decide ((mbL X).length = 0), 1, (mbI X).map I64⟩]) := by
 have := callA (k := k + 2) (h := h) (args := [U64 X]) (args' := [U64 X]) (frzL_lt rfl) rfl (members_z k X hX) rfl (by simp [okH, ltL_I, pureL_I, -List.map_map])
 simpa [shV, sh1] using this
theorem mf_everything : MT.mf 56 = some ⟨9, [(.tmp 2)], (.seq (.reg [gO 1 (.box 2 (.s 0)), gO 2 (.mv (.c (.lit (.int .u64 0))))]) (.seq (.reg [gO 3 (.fa 0 (.s 1)), gO 4 (.fa 1 (.s 3)), gO 5 (.ld none (.s 4)), gO 6 (.len (.s 5)), gO 7 (.shf .shl (.c (.lit (.int .u64 1))) (.s 6)), gO 8 (.bin .sub (.s 7) (.c (.lit (.int .u64 1)))), gO 2 (.mv (.s 8))]) .ret))⟩ := by kernel_rfl
theorem everything_c (k : Nat) (n : Nt) (hc : n.cs.length ≤ 16) (h : MHeap) : orA (k + 1) 56 [encN n] h = some (U64 ((2 ^ n.cs.length - 1 : Nat) : Int), h) := by
 have hs2 : (MV.sl (n.cs.map encCr)).slen = some n.cs.length := by simp [MV.slen]
 refine callL (args' := [encN n]) (frzL_lt (by simp [ltL, MV.lt, ltL_Ln, ltL_Cr])) rfl (runZ_of mf_everything (by simp) ?_)
 simp only [argsL]
 have e1 := u64_shl (m := n.cs.length) (by omega)
 have hp := Nat.two_pow_pos n.cs.length
 have h2 : 2 ^ n.cs.length ≤ 2 ^ 16 := Nat.pow_le_pow_right (by omega) hc
 have e2 : ∀ q : Nat, 0 < q → q ≤ 2 ^ 16 → IntKind.u64.wrap ((q : Int) - 1) = ((q - 1 : Nat) : Int) := fun q h1 h2 => by rw [u64_wrap (by omega) (by omega)]; omega
 repeat (first | apply ef_seq | (apply ef_mv; exact rfl; exact rfl) | (apply ef_bin; (iterate 3 exact rfl); (exact rfl)) | (apply ef_len; exact rfl; exact rfl; (assumption)) | (apply ef_ldp; exact rfl; exact rfl; (exact rfl); exact rfl; (exact rfl); (exact rfl)) | (apply ef_fap; exact rfl; exact rfl) | (apply ef_box; (iterate 4 exact rfl)) | (apply ef_shf; (iterate 3 exact rfl); (assumption)) | apply ef_nil | apply seqQ.normal | apply ef_ret)
 (refine fin1 rfl (by exact rfl) rfl ?_)
 rw [e2 _ hp h2]
theorem mbI_full {n : Nt} (hc : n.cs.length ≤ 16) : mbI (2 ^ n.cs.length - 1) = evS n := by
 unfold mbI evS
 rw [mbL_full _ (by omega)]
def agB (n : Nt) (S : List Int) (L : Int) : Bool := (lgC (agL n S L) n.ls.length (upL n.ls.length)).isEmpty
theorem agB_iff {n : Nt} (ok : OkN n) {S : List Int} (hS : ∀ i ∈ S, 0 ≤ i ∧ i < (n.cs.length : Int)) (hl : S.length ≤ 32) {L : Int} (hL : 0 ≤ L ∧ L ≤ 10000) : agB n S L = true ↔ AgN n S L := by
 unfold agB
 rw [List.isEmpty_iff]
 exact ag_iff ok hS hl hL
theorem agL_next (n : Nt) (S : List Int) (L : Int) {i : Nat} (h : i < S.length) : agL n (S.take (i + 1)) L = agL n (S.take i) L ++ agA (crI n S[i]) L := by
 unfold agL
 rw [List.take_succ_eq_append_getElem h, List.flatMap_append]; simp
theorem mf_agree : MT.mf 54 = some ⟨61, [(.tmp 6)], (.seq (.reg [gO 3 (.box 2 (.s 0)), gO 6 (.mv cF)]) (.seq (.reg [gO 7 (.nil0 5)]) (.seq (.seq (.reg [gO 13 (.mv (.s 1)), gO 14 (.len (.s 13)), gO 15 (.mv (cI 0))]) (.block 0 (.loop [15, 14, 13, 3, 7, 2] (.seq (.reg [gO 16 (.bin .lss (.s 15) (.s 14))]) (.seq (.cond (.s 16) .skip (.exit 0)) (.seq (.block 1 (.seq (.reg [gO 17 (.ia 1 (.s 13) (.s 15)), gO 18 (.ld none (.s 17)), gO 9 (.mv (.s 18))]) (.seq (.reg [gO 19 (.fa 0 (.s 3)), gO 20 (.fa 1 (.s 19)), gO 21 (.ld none (.s 20)), gO 22 (.mv (.s 9)), gO 23 (.ia 6 (.s 21) (.s 22)), gO 24 (.ld (some 6) (.s 23)), gO 10 (.new (.agg [(.lit (.int .i64 0)), (.lit (.int .i64 0)), (.lit (.int .i64 0)), (.lit (.int .i64 0)), (.lit (.int .i64 0)), (.lit (.int .i64 0))])), ⟨none, none, .st 6 (.s 10) (.s 24)⟩]) (.reg [gO 25 (.mv (.s 7)), gO 26 (.fa 1 (.s 10)), gO 27 (.ld none (.s 26)), gO 28 (.fa 0 (.s 10)), gO 29 (.ld none (.s 28)), gO 30 (.fa 4 (.s 10)), gO 31 (.ld none (.s 30)), gO 32 (.mv (.s 2)), gO 33 (.bin .sub (.s 31) (.s 32)), gO 34 (.build [(.lit (.int .i64 0)), (.lit (.int .i64 0)), (.lit (.int .i64 0)), (.lit (.int .i64 0)), (.lit (.int .i64 0))] [(0, (1, (.s 27))), (1, (1, (.s 29))), (2, (1, (.s 33)))]), gO 35 (.fa 0 (.s 10)), gO 36 (.ld none (.s 35)), gO 37 (.fa 1 (.s 10)), gO 38 (.ld none (.s 37)), gO 39 (.fa 4 (.s 10)), gO 40 (.ld none (.s 39)), gO 41 (.un .neg (.s 40)), gO 42 (.mv (.s 2)), gO 43 (.bin .sub (.s 41) (.s 42)), gO 44 (.build [(.lit (.int .i64 0)), (.lit (.int .i64 0)), (.lit (.int .i64 0)), (.lit (.int .i64 0)), (.lit (.int .i64 0))] [(0, (1, (.s 36))), (1, (1, (.s 38))), (2, (1, (.s 43)))]), gO 45 (.bsl (.agg [(.lit (.int .i64 0)), (.lit (.int .i64 0)), (.lit (.int .i64 0)), (.lit (.int .i64 0)), (.lit (.int .i64 0))]) 5 2 [(0, (.s 34)), (1, (.s 44))]), gO 46 (.app 5 (.s 25) (.s 45)), gO 7 (.mv (.s 46))])))) (.reg [gO 47 (.bin .add (.s 15) (cI 1)), gO 15 (.mv (.s 47))]))))))) (.seq (.reg [gO 49 (.fa 0 (.s 3)), gO 50 (.fa 0 (.s 49)), gO 51 (.ld none (.s 50)), gO 52 (.len (.s 51)), gO 53 (.mv (.s 7)), gO 54 (.ld (some 2) (.s 3)), gO 55 (.call 98 [.s 54]), gO 56 (.call 52 [.s 52, .s 53, .s 55]), gO 48 (.mv (.s 56)), gO 57 (.ext (.s 48) 0), gO 58 (.ext (.s 48) 1), gO 11 (.mv (.s 57)), gO 12 (.mv (.s 58))]) (.seq (.reg [gO 59 (.mv (.s 12)), gO 60 (.eqn false (.s 59)), gO 6 (.mv (.s 60))]) .ret)))))⟩ := by kernel_rfl
set_option maxHeartbeats 2000000 in
theorem agree_z (k : Nat) (n : Nt) (ok : OkN n) (S : List Int) (hS : ∀ i ∈ S, 0 ≤ i ∧ i < (n.cs.length : Int)) (hl : S.length ≤ 32) (L : Int) (hL : 0 ≤ L ∧ L ≤ 10000) :
  runZ MT (orA (k + 5)) (itA (k + 5)) 4000000 54 [encN n, .sl (S.map I64), I64 L] [] = some (Bo (agB n S L), []) := by
 have hs1 : (MV.sl (n.ls.map encLn)).slen = some n.ls.length := by simp [MV.slen]
 have hs2 : (MV.sl (S.map I64)).slen = some S.length := by simp [MV.slen]
 have l1 := ok.l1
 have l8 := ok.l8
 have hal := agL_len n L S
 have w1 := fun h => all_c (k + 4) n (by omega) h
 have w2 := fun h v w hv hw => longest_c k n.ls.length l1 l8 (agL n S L) 20000 (by omega) (by omega) (agL_ok ok hS hL) (by omega) (upL n.ls.length) (upL_mem _) (by rw [upL_len]; omega) h (v := v) (w := w) hv hw
 have HB := Bx.mk (show agB n S L = (lgC (agL n S L) n.ls.length (upL n.ls.length)).isEmpty from rfl)
 generalize agB n S L = bb at *
 have hul := upL_len n.ls.length
 refine runZ_of mf_agree (by simp) ?_
 simp only [argsL]
 repeat (first | apply ef_seq | (apply ef_mv; exact rfl; exact rfl) | (apply ef_len; exact rfl; exact rfl; (assumption)) | (apply ef_box; (iterate 4 exact rfl)) | (apply ef_nil0; exact rfl) | apply ef_nil | apply seqQ.normal | apply ef_block)
 refine ef_loopf (α := Nat × List MV) (fun p => p.1 ≤ S.length ∧ p.2 = (agL n (S.take p.1) L).map encA) (fun p => [(15, I64 (p.1 : Int)), (7, .arr 1 0 (2 * p.1) p.1)]) [(14, I64 (S.length : Int)), (13, .sl (S.map I64)), (3, .ptr 0 0 0 0), (2, I64 L)] (fun p => [⟨0, false, 2, [encN n]⟩, ⟨p.1, decide (p.1 = 0), 5, p.2⟩]) (fun p => S.length - p.1) (0, []) [15, 7] (fun _ => rfl) (by ((repeat (refine Hold.cons (by exact rfl) ?_)); exact Hold.nil)) (by ((repeat (refine Hold.cons (by exact rfl) ?_)); exact Hold.nil)) rfl rfl ⟨by omega, rfl⟩ (by show S.length - 0 < 4000000; omega) ?_
 rintro ⟨i, rs⟩ ⟨hi, hrs⟩
 try simp only at hi hrs ⊢
 have hrl : rs.length = 2 * i := by rw [hrs, List.length_map, agL_len, List.length_take]; omega
 have hlr : ∀ j, ltL j rs = true := fun j => by rw [hrs]; exact ltL_A j _
 by_cases hlt : i < S.length
 ·have e1 := at_map I64 S i hlt
  have hb := hS S[i] (List.getElem_mem hlt)
  have HN := Bx.mk (agL_next n S L hlt)
  generalize S[i] = c at e1 hb HN
  have hcl : c.toNat < n.cs.length := by omega
  have e2 : (n.cs.map encCr)[c.toNat]? = some (encCr (crI n c)) := by
   unfold crI
   rw [List.getElem?_map, List.getD_eq_getElem?_getD, List.getElem?_eq_getElem hcl]; rfl
  have hm : crI n c ∈ n.cs := by unfold crI; rw [List.getD_eq_getElem?_getD, List.getElem?_eq_getElem hcl]; exact List.getElem_mem _
  have hd := (ok.rg _ hm).df
  generalize crI n c = x at e2 HN hd
  clear hm
  repeat (first | apply ef_seq | (apply ef_mv; exact rfl; exact rfl) | (apply ef_bin; (iterate 3 exact rfl); (first | exact cmp_t rfl (by first | exact rfl | (simp only [cmpP]; omega)) | ((with_reducible refine bin_sub (wrap_of ?_ ?_)) <;> omega))) | (apply ef_ldr; exact rfl; exact rfl; (first | exact rd_6 rfl rfl rfl rfl rfl rfl | exact rfl)) | (apply ef_ldp; exact rfl; exact rfl; (exact rfl); exact rfl; (exact rfl); (exact rfl)) | (apply ef_ias; (iterate 3 exact rfl); (omega); assumption; exact rfl) | (apply ef_fap; exact rfl; exact rfl) | (apply ef_neg; exact rfl; exact rfl; exact wrap_of (by omega) (by omega)) | (apply ef_new; exact rfl) | (apply ef_build; exact rfl; (repeat (apply XVs.cons; exact rfl)); exact XVs.nil; exact rfl; exact rfl) | (apply ef_bsl; exact rfl; (repeat (apply XVs.cons; exact rfl)); exact XVs.nil; exact rfl) | (apply ef_st; (iterate 6 exact rfl); (exact rfl); exact rfl) | apply ef_nil | apply seqQ.normal | apply ef_block | apply ef_skip | (apply ef_condt; exact rfl; (exact (rfl : true = true))))
  (apply ef_app; (· exact rfl); (· exact rfl); (· exact rfl); (· exact rfl); (· exact rfl); (· exact rfl); (· (simp [hrl])); (· exact rfl); (· (simp [hrl]; omega)); (· (exact rfl)); (· exact rfl))
  repeat (first | (apply ef_mv; exact rfl; exact rfl) | (apply ef_bin; (iterate 3 exact rfl); (((with_reducible refine bin_add (wrap_of ?_ ?_)) <;> omega))) | apply ef_nil | apply seqQ.normal | apply blockQ.normal)
  (refine loopQ.normal _ _ ⟨(i + 1, rs ++ [encA ⟨x.ti, x.ln, x.df - L, 0, 0⟩, encA ⟨x.ln, x.ti, 0 - x.df - L, 0, 0⟩]), ⟨hlt, by rw [HN.out, hrs]; simp [agA]⟩, (by first | (simp only; omega) | omega), ⟨by ((repeat (refine Hold.cons (by exact rfl) ?_)); exact Hold.nil), by ((repeat (refine Hold.cons (by exact rfl) ?_)); exact Hold.nil)⟩, .inr ⟨by ((repeat (refine hdl_cons rfl (by first | rfl | (simp [MV.lt, ltL, ltL_Ln, ltL_Cr, ltL_I, hlr, ltL_app2, splice, MV.cells])) ?_)); exact hdl_nil), by (simp [hltL, ltL, MV.lt, ltL, ltL_Ln, ltL_Cr, ltL_I, hlr, ltL_app2, splice, MV.cells])⟩, by exact rfl⟩)
 ·obtain rfl : i = S.length := by omega
  rw [List.take_of_length_le (Nat.le_refl _)] at hrs
  repeat (first | apply ef_seq | (apply ef_mv; exact rfl; exact rfl) | (apply ef_bin; (iterate 3 exact rfl); (exact cmp_f rfl (by simp only [cmpP]; omega))) | (apply ef_len; exact rfl; exact rfl; (assumption)) | (apply ef_ldp; exact rfl; exact rfl; (exact rfl); exact rfl; (exact rfl); (first | exact rd_2 rfl rfl | exact rfl)) | (apply ef_fap; exact rfl; exact rfl) | apply ef_nil | apply seqQ.normal | apply loopQ.exit | apply ef_exit | apply seqQ.exit | apply blockQ.here | (apply ef_condf; exact rfl; (exact (rfl : false = false))) | (apply ef_call; exact rfl; ((repeat (apply XVs.cons; exact rfl)); exact XVs.nil); (with_reducible exact w1 _)))
  (apply ef_call; (· exact rfl); (· ((repeat (apply XVs.cons; exact rfl)); exact XVs.nil)); · exact w2 _ _ _ (frz_row (o := ⟨S.length, decide (S.length = 0), 5, rs⟩) rfl rfl (by simp [hal]) (ltL_A 0 _) hrs) (frz_row (o := ⟨0, decide (n.ls.length = 0), 1, (upL n.ls.length).map I64⟩) rfl rfl (by simp [hul]) (ltL_I 0 _) rfl))
  repeat (first | apply ef_seq | (apply ef_mv; exact rfl; exact rfl) | (apply ef_ext; (iterate 3 exact rfl)) | apply ef_nil | apply seqQ.normal)
  generalize lgC (agL n S L) n.ls.length (upL n.ls.length) = C at *
  have HE := HB.out
  cases C with
  | nil =>
   refine ef_eqna (ht := by exact rfl) (by exact rfl) (by exact rfl) (by exact rfl) (by exact Nat.le_refl _) ?_
   repeat (first | (apply ef_mv; exact rfl; exact rfl) | apply ef_nil | apply seqQ.normal | apply ef_ret)
   (refine fin1 rfl (by exact rfl) rfl ?_)
   rw [HE]; rfl
  | cons a C =>
   refine ef_eqna (ht := by exact rfl) (by exact rfl) (by exact rfl) (by exact rfl) (by show 0 + (C.length + 1) ≤ _; simp) ?_
   repeat (first | (apply ef_mv; exact rfl; exact rfl) | apply ef_nil | apply seqQ.normal | apply ef_ret)
   (refine fin1 rfl (by exact rfl) rfl ?_)
   rw [HE]; rfl
theorem agree_c (k : Nat) (n : Nt) (ok : OkN n) (S : List Int) (hS : ∀ i ∈ S, 0 ≤ i ∧ i < (n.cs.length : Int)) (hl : S.length ≤ 32) (L : Int) (hL : 0 ≤ L ∧ L ≤ 10000) (h : MHeap) {v : MV} (hv : frz 0 [] h 8 v = some (.sl (S.map I64))) :
  orA (k + 6) 54 [encN n, v, I64 L] h = some (Bo (agB n S L), h) :=
 callL (args' := [encN n, .sl (S.map I64), I64 L]) (by simp [List.mapM_cons, hv, frz_lt (ltL_N n 0), frz_lt (m := I64 L) rfl]) rfl (agree_z k n ok S hS hl L hL)
noncomputable def limV (n : Nt) : Int := if (netF n).2 = 0 then Classical.epsilon (IsLim n) else 0
theorem limV_eq {n : Nt} (hn : (netF n).2 = 0) {L : Int} (h : IsLim n L) : limV n = L := by
 unfold limV
 rw [if_pos hn]
 exact (Classical.epsilon_spec ⟨L, h⟩ : IsLim n (Classical.epsilon (IsLim n))).uniq h
theorem mf_LimitOf : MT.mf 16 = some ⟨34, [(.tmp 2), (.tmp 3)], (.seq (.reg [gO 1 (.box 2 (.s 0)), gO 2 (.mv (cI 0)), gO 3 (.mv (cI 0))]) (.seq (.reg [gO 10 (.ld (some 2) (.s 1)), gO 11 (.call 53 [.s 10]), gO 9 (.mv (.s 11)), gO 12 (.ext (.s 9) 0), gO 13 (.ext (.s 9) 1), gO 4 (.new (.agg [(.lit (.slice none 0 0)), (.lit (.slice none 0 0))])), ⟨none, none, .st 2 (.s 4) (.s 12)⟩, gO 5 (.mv (.s 13))]) (.seq (.seq (.reg [gO 14 (.mv (.s 5)), gO 15 (.bin .neq (.s 14) (cI 0))]) (.cond (.s 15) (.seq (.reg [gO 16 (.mv (.s 5)), gO 2 (.mv (cI 0)), gO 3 (.mv (.s 16))]) .ret) .skip)) (.seq (.reg [gO 6 (.mv (cI 0)), gO 7 (.mv (cI 10000))]) (.seq (.block 0 (.loop [6, 7, 4] (.seq (.seq (.reg [gO 17 (.mv (.s 6)), gO 18 (.mv (.s 7)), gO 19 (.bin .lss (.s 17) (.s 18))]) (.cond (.s 19) .skip (.exit 0))) (.block 1 (.seq (.reg [gO 20 (.mv (.s 6)), gO 21 (.mv (.s 7)), gO 22 (.bin .add (.s 20) (.s 21)), gO 23 (.bin .quo (.s 22) (cI 2)), gO 8 (.mv (.s 23))]) (.seq (.reg [gO 24 (.ld (some 2) (.s 4)), gO 25 (.ld (some 2) (.s 4)), gO 26 (.call 56 [.s 25]), gO 27 (.call 55 [.s 26]), gO 28 (.mv (.s 8)), gO 29 (.call 54 [.s 24, .s 27, .s 28])]) (.cond (.s 29) (.reg [gO 30 (.mv (.s 8)), gO 7 (.mv (.s 30))]) (.reg [gO 31 (.mv (.s 8)), gO 32 (.bin .add (.s 31) (cI 1)), gO 6 (.mv (.s 32))])))))))) (.seq (.reg [gO 33 (.mv (.s 6)), gO 2 (.mv (.s 33)), gO 3 (.mv (cI 0))]) .ret))))))⟩ := by kernel_rfl
set_option maxHeartbeats 2000000 in
theorem LimitOf_z (k : Nat) (n : Nt) (hb : BdN n) :
  (runZ MT (orA (k + 6)) (itA (k + 6)) 4000000 16 [encN n] [] = some (.tup [I64 (limV n), I64 (netF n).2], [])) ∧ ((netF n).2 = 0 → IsLim n (limV n)) := by
 have w1 := fun h => open_c k n hb h
 by_cases h0 : (netF n).2 = 0
 rotate_left
 ·refine ⟨?_, fun h => absurd h h0⟩
  have e : limV n = 0 := by unfold limV; rw [if_neg h0]
  rw [e]
  refine runZ_of mf_LimitOf (by simp) ?_
  simp only [argsL]
  generalize (netF n).2 = e at *
  repeat (first | apply ef_seq | (apply ef_mv; exact rfl; exact rfl) | (apply ef_bin; (iterate 3 exact rfl); (exact cmp_t rfl (by first | exact rfl | (simp only [cmpP]; omega)))) | (apply ef_ldp; exact rfl; exact rfl; (exact rfl); exact rfl; (exact rfl); (exact rd_2 rfl rfl)) | (apply ef_ext; (iterate 3 exact rfl)) | (apply ef_box; (iterate 4 exact rfl)) | (apply ef_new; exact rfl) | (apply ef_st; (iterate 6 exact rfl); (exact rfl); exact rfl) | apply ef_nil | apply seqQ.normal | apply ef_ret | apply seqQ.ret | (apply ef_condt; exact rfl; (exact (rfl : true = true))) | (apply ef_call; exact rfl; ((repeat (apply XVs.cons; exact rfl)); exact XVs.nil); (with_reducible exact w1 _)))
  (refine fin2 rfl (by exact rfl) (by exact rfl) ?_)
  rfl
 have ok := net_ok h0
 have c16 := ok.c16
 have hes := evS_in n
 have hel : (evS n).length = n.cs.length := by simp [evS]
 have h2 : 2 ^ n.cs.length ≤ 2 ^ 16 := Nat.pow_le_pow_right (by omega) c16
 have w2 := fun h => everything_c (k + 5) n c16 h
 have w3 := fun h => members_c (k + 3) (2 ^ n.cs.length - 1) (by omega) h
 have hmf := mbI_full c16
 have hml : (mbL (2 ^ n.cs.length - 1)).length = n.cs.length := by rw [mbL_full _ (by omega), List.length_range]
 rw [hmf, hml] at w3
 have w4 := fun h v L hL hv => agree_c k n ok (evS n) hes (by omega) L hL h (v := v) hv
 obtain ⟨L, hL, hrun⟩ : ∃ L, IsLim n L ∧ runZ MT (orA (k + 6)) (itA (k + 6)) 4000000 16 [encN n] [] = some (.tup [I64 L, I64 (netF n).2], []) := by
  rw [h0] at w1 ⊢
  refine runZ_ofE (p := IsLim n) (m := fun L => .tup [I64 L, I64 0]) (news := fun _ => []) mf_LimitOf (by simp) ?_
  simp only [argsL]
  repeat (first | apply ef_seq | (apply ef_mv; exact rfl; exact rfl) | (apply ef_bin; (iterate 3 exact rfl); (exact cmp_f rfl (by simp only [cmpP]; omega))) | (apply ef_ldp; exact rfl; exact rfl; (exact rfl); exact rfl; (exact rfl); (exact rd_2 rfl rfl)) | (apply ef_ext; (iterate 3 exact rfl)) | (apply ef_box; (iterate 4 exact rfl)) | (apply ef_new; exact rfl) | (apply ef_st; (iterate 6 exact rfl); (exact rfl); exact rfl) | apply ef_nil | apply seqQ.normal | apply ef_block | apply ef_skip | (apply ef_condf; exact rfl; (exact (rfl : false = false))) | (apply ef_call; exact rfl; ((repeat (apply XVs.cons; exact rfl)); exact XVs.nil); (with_reducible exact w1 _)))
  refine ef_loopf (α := Int × Int) (fun p => 0 ≤ p.1 ∧ p.1 ≤ p.2 ∧ p.2 ≤ 10000 ∧ AgN n (evS n) p.2 ∧ ∀ L', 0 ≤ L' → AgN n (evS n) L' → p.1 ≤ L') (fun p => [(6, I64 p.1), (7, I64 p.2)]) [(4, .ptr 1 0 0 0)] (fun _ => [⟨0, false, 2, [encN n]⟩, ⟨0, false, 2, [encN n]⟩]) (fun p => (p.2 - p.1).toNat) (0, 10000) [6, 7] (fun _ => rfl) (by ((repeat (refine Hold.cons (by exact rfl) ?_)); exact Hold.nil)) (by ((repeat (refine Hold.cons (by exact rfl) ?_)); exact Hold.nil)) rfl rfl ⟨by omega, by omega, by omega, agN_top ok hes, fun L' h _ => h⟩ (by show (10000 - 0 : Int).toNat < 4000000; omega) ?_
  rintro ⟨lo, hi⟩ ⟨q1, q2, q3, q4, q5⟩
  try simp only at q1 q2 q3 q4 q5 ⊢
  by_cases hlt : lo < hi
  ·have hq : binI .quo .i64 (lo + hi) 2 = some (.int .i64 ((lo + hi) / 2)) := by
    have e : binI .quo .i64 (lo + hi) 2 = some (.int .i64 (IntKind.i64.wrap ((lo + hi).tdiv 2))) := rfl
    rw [e, Int.tdiv_eq_ediv_of_nonneg (by omega), wrap_of (by omega) (by omega)]
   have hm1 : lo ≤ (lo + hi) / 2 ∧ (lo + hi) / 2 < hi := by omega
   have HA := Bx.mk (agB_iff (L := (lo + hi) / 2) ok hes (by omega) (by omega))
   have w5 := fun h v hv => w4 h v ((lo + hi) / 2) (by omega) hv
   generalize (lo + hi) / 2 = mid at *
   repeat (first | apply ef_seq | (apply ef_mv; exact rfl; exact rfl) | (apply ef_bin; (iterate 3 exact rfl); (first | assumption | exact cmp_t rfl (by first | exact rfl | (simp only [cmpP]; omega)) | ((with_reducible refine bin_add (wrap_of ?_ ?_)) <;> omega))) | (apply ef_ldp; exact rfl; exact rfl; (exact rfl); exact rfl; (exact rfl); (exact rd_2 rfl rfl)) | apply ef_nil | apply seqQ.normal | apply ef_block | apply ef_skip | (apply ef_condt; exact rfl; (exact (rfl : true = true))) | (apply ef_call; exact rfl; ((repeat (apply XVs.cons; exact rfl)); exact XVs.nil); (with_reducible first | exact w2 _ | exact w3 _)))
   (apply ef_call; (· exact rfl); (· ((repeat (apply XVs.cons; exact rfl)); exact XVs.nil)); · exact w5 _ _ (frz_row (o := ⟨0, decide (n.cs.length = 0), 1, (evS n).map I64⟩) rfl rfl (by simp [hel]) (ltL_I 0 _) rfl))
   have HG := HA.out
   cases hg : agB n (evS n) mid
   ·have hna : ¬ AgN n (evS n) mid := fun h => by have := HG.2 h; rw [hg] at this; cases this
    repeat (first | (apply ef_mv; exact rfl; exact rfl) | (apply ef_bin; (iterate 3 exact rfl); (((with_reducible refine bin_add (wrap_of ?_ ?_)) <;> omega))) | apply ef_nil | apply seqQ.normal | apply blockQ.normal | (apply ef_condf; exact rfl; (exact (rfl : false = false))))
    (refine loopQ.normal _ _ ⟨(mid + 1, hi), ⟨by omega, by omega, q3, q4, fun L' h1 h2 => by
     apply Classical.byContradiction
     intro hn
     exact hna (agN_mono (by omega) h2)⟩, (by show (hi - (mid + 1)).toNat < (hi - lo).toNat; omega), ⟨by ((repeat (refine Hold.cons (by exact rfl) ?_)); exact Hold.nil), by ((repeat (refine Hold.cons (by exact rfl) ?_)); exact Hold.nil)⟩, .inr ⟨by ((repeat (refine hdl_cons rfl (by first | rfl | (simp [MV.lt, ltL, ltL_Ln, ltL_Cr, ltL_I, splice, MV.cells])) ?_)); exact hdl_nil), by (simp [hltL, ltL, MV.lt, ltL, ltL_Ln, ltL_Cr, ltL_I, splice, MV.cells])⟩, by exact rfl⟩)
   ·repeat (first | (apply ef_mv; exact rfl; exact rfl) | apply ef_nil | apply seqQ.normal | apply blockQ.normal | (apply ef_condt; exact rfl; (exact (rfl : true = true))))
    (refine loopQ.normal _ _ ⟨(lo, mid), ⟨q1, by omega, by omega, HG.1 hg, q5⟩, (by show (mid - lo).toNat < (hi - lo).toNat; omega), ⟨by ((repeat (refine Hold.cons (by exact rfl) ?_)); exact Hold.nil), by ((repeat (refine Hold.cons (by exact rfl) ?_)); exact Hold.nil)⟩, .inr ⟨by ((repeat (refine hdl_cons rfl (by first | rfl | (simp [MV.lt, ltL, ltL_Ln, ltL_Cr, ltL_I, splice, MV.cells])) ?_)); exact hdl_nil), by (simp [hltL, ltL, MV.lt, ltL, ltL_Ln, ltL_Cr, ltL_I, splice, MV.cells])⟩, by exact rfl⟩)
  ·obtain rfl : lo = hi := by omega
   repeat (first | apply ef_seq | (apply ef_mv; exact rfl; exact rfl) | (apply ef_bin; (iterate 3 exact rfl); (exact cmp_f rfl (by simp only [cmpP]; omega))) | apply ef_nil | apply seqQ.normal | apply loopQ.exit | apply ef_ret | apply ef_exit | apply seqQ.exit | apply blockQ.here | (apply ef_condf; exact rfl; (exact (rfl : false = false))))
   refine ⟨lo, ⟨q1, q3, q4, q5⟩, ?_⟩
   (refine fin2 rfl (by exact rfl) (by exact rfl) ?_)
   rfl
 have e := limV_eq h0 hL
 rw [e]
 exact ⟨hrun, fun _ => hL⟩
theorem LimitOf_c (k : Nat) (n : Nt) (hb : BdN n) (h : MHeap) : orA (k + 7) 16 [encN n] h = some (.tup [I64 (limV n), I64 (netF n).2], h) :=
 callTT (args' := [encN n]) (frzL_lt (by simp [ltL, MV.lt, ltL_Ln, ltL_Cr])) rfl (LimitOf_z k n hb).1
theorem limV_is {n : Nt} (hb : BdN n) (h0 : (netF n).2 = 0) : IsLim n (limV n) := (LimitOf_z 0 n hb).2 h0
end Go.Proofs.YtfchdbghjeophaaGreatDoor

/- Contracts: nets that must be joined; the lowest best corrections; the ranges; the program. -/
namespace Go.Proofs.YtfchdbghjeophaaGreatDoor
open Go.RowKit
set_option linter.unusedVariables false
set_option linter.unusedSimpArgs false
def minU (L : List Int) : Nat → Int
 | 0 => cAt L 0
 | i + 1 => mn (minU L i) (cAt L (i + 1))
theorem minU_far {L : List Int} : ∀ i, (∀ v : Nat, v ≤ i → -1099511627776 ≤ cAt L v) → (minU L i = -1099511627776 ↔ ∃ v : Nat, v ≤ i ∧ cAt L v = -1099511627776) ∧ -1099511627776 ≤ minU L i
 | 0, h => ⟨⟨fun e => ⟨0, Nat.le_refl _, e⟩, fun ⟨v, h1, h2⟩ => (by have e : v = 0 := (by omega); subst e; exact h2)⟩, h 0 (Nat.le_refl _)⟩
 | i + 1, h => by
  obtain ⟨h1, h2⟩ := minU_far i (fun v hv => h v (by omega))
  have h3 := h (i + 1) (Nat.le_refl _)
  have e : ((i + 1 : Nat) : Int) = (i : Int) + 1 := by omega
  rw [e] at h3
  rw [minU]
  unfold mn
  refine ⟨⟨fun hm => ?_, fun ⟨v, hv, he⟩ => ?_⟩, by split <;> omega⟩
  ·split at hm
   ·exact ⟨i + 1, Nat.le_refl _, by rw [e]; exact hm⟩
   ·obtain ⟨v, hv, he⟩ := h1.1 hm
    exact ⟨v, by omega, he⟩
  ·by_cases ev : v = i + 1
   ·subst ev
    rw [e] at he
    split <;> omega
   ·have := h1.2 ⟨v, by omega, he⟩
    split <;> omega
theorem mf_Min : MT.mf 95 = some mfW_l95 := mfW_q95
theorem Min_z (k : Nat) (L : List Int) (h1 : 0 < L.length) (h8 : L.length ≤ 1000) : runZ MT (orA k) (itA k) 4000000 95 [.sl (L.map I64)] [] = some (I64 (minU L (L.length - 1)), []) := by
 have hl : (MV.sl (L.map I64)).slen = some L.length := by simp [MV.slen]
 have e0 : (L.map I64)[(0 : Int).toNat]? = some (I64 (cAt L 0)) := cAt_at rfl (by omega) (by omega)
 refine runZ_of mf_Min (by simp) ?_
 simp only [argsL]
 repeat (first | apply ef_seq | (apply ef_mv; exact rfl; exact rfl) | (apply ef_bin; (iterate 3 exact rfl); (exact cmp_f rfl (by simp only [cmpP]; omega))) | (apply ef_len; exact rfl; exact rfl; (assumption)) | (apply ef_ldr; exact rfl; exact rfl; (exact rfl)) | (apply ef_ias; (iterate 3 exact rfl); (omega); assumption; exact rfl) | apply ef_nil | apply seqQ.normal | apply ef_block | apply ef_skip | (apply ef_condf; exact rfl; (exact (rfl : false = false))))
 refine ef_loopf (α := Nat) (fun i => i < L.length) (fun i => [(4, I64 ((i : Int) + 1)), (3, I64 (minU L i))]) [(0, .sl (L.map I64))] (fun _ => []) (fun i => L.length - i) 0 [4, 3] (fun _ => rfl) (by ((repeat (refine Hold.cons (by exact rfl) ?_)); exact Hold.nil)) (by ((repeat (refine Hold.cons (by exact rfl) ?_)); exact Hold.nil)) rfl rfl h1 (by show L.length - 0 < 4000000; omega) ?_
 intro i hi
 try simp only at hi ⊢
 by_cases hlt : i + 1 < L.length
 ·have e1 : (L.map I64)[((i : Int) + 1).toNat]? = some (I64 (cAt L ((i : Int) + 1))) := cAt_at rfl (by omega) (by omega)
  have HN := Bx.mk (show minU L (i + 1) = mn (minU L i) (cAt L ((i : Int) + 1)) from rfl)
  generalize cAt L ((i : Int) + 1) = z at e1 HN
  generalize minU L i = w at *
  repeat (first | apply ef_seq | (apply ef_mv; exact rfl; exact rfl) | (apply ef_bin; (iterate 3 exact rfl); (first | exact cmp_t rfl (by first | exact rfl | (simp only [cmpP]; omega)) | ((with_reducible refine bin_add (wrap_of ?_ ?_)) <;> omega))) | (apply ef_len; exact rfl; exact rfl; (assumption)) | (apply ef_ldr; exact rfl; exact rfl; (exact rfl)) | (apply ef_ias; (iterate 3 exact rfl); (omega); assumption; exact rfl) | (apply ef_mn; (iterate 3 exact rfl)) | apply ef_nil | apply seqQ.normal | apply blockQ.normal | apply ef_block | apply ef_skip | (apply ef_condt; exact rfl; (exact (rfl : true = true))))
  refine loopQ.normal _ _ ⟨i + 1, hlt, by (show L.length - (i + 1) < L.length - i; omega), ⟨?_, by ((repeat (refine Hold.cons (by exact rfl) ?_)); exact Hold.nil)⟩, .inl (Nat.le_refl _), by exact rfl⟩
  rw [HN.out, show ((i + 1 : Nat) : Int) = (i : Int) + 1 by omega]
  ((repeat (refine Hold.cons (by exact rfl) ?_)); exact Hold.nil)
 ·have e : L.length - 1 = i := by omega
  rw [e]
  repeat (first | apply ef_seq | (apply ef_mv; exact rfl; exact rfl) | (apply ef_bin; (iterate 3 exact rfl); (exact cmp_f rfl (by simp only [cmpP]; omega))) | (apply ef_len; exact rfl; exact rfl; (assumption)) | apply ef_nil | apply seqQ.normal | apply loopQ.exit | apply ef_ret | apply ef_exit | apply seqQ.exit | apply blockQ.here | (apply ef_condf; exact rfl; (exact (rfl : false = false))))
  (refine fin1 rfl (by exact rfl) rfl ?_)
  rfl
theorem Min_c (k : Nat) (L : List Int) (h1 : 0 < L.length) (h8 : L.length ≤ 1000) (h : MHeap) {v : MV} (hv : frz 0 [] h 8 v = some (.sl (L.map I64))) : orA (k + 1) 95 [v] h = some (I64 (minU L (L.length - 1)), h) :=
 callL (args' := [.sl (L.map I64)]) (by simp [List.mapM_cons, hv]) rfl (Min_z k L h1 h8)
def wayA (x : Cr) : List Ac := [⟨x.ln, x.ti, 0, 0, 0⟩, ⟨x.ti, x.ln, 0, 0, 0⟩]
def waysU (cs : List Cr) : Nat → List Ac
 | 0 => []
 | i + 1 => waysU cs i ++ wayA (cs.getD i default)
theorem waysU_len (cs : List Cr) : ∀ i, (waysU cs i).length = 2 * i
 | 0 => rfl
 | i + 1 => by rw [waysU, List.length_append, waysU_len cs i]; simp [wayA]; omega
theorem waysU_next {cs : List Cr} {i : Nat} {x : Cr} (h : cs[i]? = some x) : waysU cs (i + 1) = waysU cs i ++ wayA x := by
 rw [waysU, List.getD_eq_getElem?_getD, h]; rfl
theorem waysU_mem {n : Nt} : ∀ i, i ≤ n.cs.length → ∀ a, a ∈ waysU n.cs i ↔ ∃ j, j < i ∧ ∃ h : j < n.cs.length, a ∈ wayA n.cs[j]
 | 0, _, a => by simp [waysU]
 | i + 1, hi, a => by
  have ih := waysU_mem (n := n) i (by omega) a
  rw [waysU_next (List.getElem?_eq_getElem (show i < n.cs.length by omega)), List.mem_append, ih]
  constructor
  ·rintro (⟨j, h1, h2, h3⟩ | h)
   ·exact ⟨j, by omega, h2, h3⟩
   ·exact ⟨i, by omega, by omega, h⟩
  ·rintro ⟨j, h1, h2, h3⟩
   by_cases e : j = i
   ·subst e; exact .inr h3
   ·exact .inl ⟨j, by omega, h2, h3⟩
theorem ways_ok {n : Nt} (ok : OkN n) : ∀ a ∈ waysU n.cs n.cs.length, OkA n.ls.length 0 a := fun a ha => by
 obtain ⟨j, -, hj, hm⟩ := (waysU_mem _ (Nat.le_refl _) a).1 ha
 have o := ok.rg _ (List.getElem_mem hj)
 have k := ok.kd _ (List.getElem_mem hj)
 have hne : n.cs[j].ln ≠ n.cs[j].ti := fun e => by rw [e] at k; rw [k.1] at k; exact absurd k.2 (by simp)
 simp only [wayA, List.mem_cons, List.not_mem_nil, or_false] at hm
 rcases hm with rfl | rfl
 ·exact ⟨o.l0, o.l1, o.t0, o.t1, by simp, by simp, hne⟩
 ·exact ⟨o.t0, o.t1, o.l0, o.l1, by simp, by simp, hne.symm⟩
abbrev lgW (n : Nt) : List Int := (lgS (waysU n.cs n.cs.length) n.ls.length [0]).1.L
theorem lgW_ok {n : Nt} (ok : OkN n) : lgC (waysU n.cs n.cs.length) n.ls.length [0] = [] ∧ LgOk (waysU n.cs n.cs.length) n.ls.length [0] (lgW n) := by
 have l1 := ok.l1
 have c16 := ok.c16
 refine lg_feas (f := fun _ => 0) (B := 0) (by omega) (by omega) ok.l8 (by rw [waysU_len]; omega) (ways_ok ok) (fun v hv => by rw [List.mem_singleton] at hv; subst hv; omega) (fun a ha => ?_)
 have o := ways_ok ok a ha
 have := o.l1
 simp only; omega
def jnB (n : Nt) : Bool := decide (minU (lgW n) (n.ls.length - 1) ≠ -1099511627776)
theorem jnB_iff {n : Nt} (ok : OkN n) : jnB n = true ↔ Jn n := by
 have l1 := ok.l1
 obtain ⟨-, hL⟩ := lgW_ok ok
 have hm := (minU_far (L := lgW n) (n.ls.length - 1) (fun v _ => hL.far v)).1
 unfold jnB
 rw [decide_eq_true_eq]
 constructor
 ·intro hne S h0 hc v v0 v1
  refine Classical.byContradiction fun hS => ?_
  have hlow := hL.low (fun v => if S v then 0 else -1099511627776) (fun a ha => by
   obtain ⟨j, -, hj, hmem⟩ := (waysU_mem _ (Nat.le_refl _) a).1 ha
   have e := hc _ (List.getElem_mem hj)
   simp only [wayA, List.mem_cons, List.not_mem_nil, or_false] at hmem
   rcases hmem with rfl | rfl
   ·simp only; rw [e]; omega
   ·simp only; rw [e]; omega) (fun u u0 u1 => by
   rw [srcL_one (by omega) (by omega) u0]
   split
   ·rename_i e; subst e; simp [h0]
   ·(repeat' split) <;> omega) v v0 v1
  try simp only at hlow
  rw [if_neg hS] at hlow
  have := hL.far v
  refine hne (hm.2 ⟨v.toNat, by omega, ?_⟩)
  rw [show ((v.toNat : Nat) : Int) = v by omega]
  omega
 ·intro hj he
  obtain ⟨v, hv, hf⟩ := hm.1 he
  have := hj (fun v => decide (cAt (lgW n) v > -549755813888)) (by have := hL.src 0 (by simp); simp only [decide_eq_true_eq]; omega) (fun x hx => by
   obtain ⟨j, hj2, rfl⟩ := List.getElem_of_mem hx
   have m1 := (waysU_mem (n := n) _ (Nat.le_refl _) ⟨n.cs[j].ln, n.cs[j].ti, 0, 0, 0⟩).2 ⟨j, hj2, hj2, by simp [wayA]⟩
   have m2 := (waysU_mem (n := n) _ (Nat.le_refl _) ⟨n.cs[j].ti, n.cs[j].ln, 0, 0, 0⟩).2 ⟨j, hj2, hj2, by simp [wayA]⟩
   have s1 := hL.sat _ m1
   have s2 := hL.sat _ m2
   simp only at s1 s2
   by_cases c1 : cAt (lgW n) n.cs[j].ln > -549755813888
   ·have := s1 c1
    rw [decide_eq_true c1, decide_eq_true (by omega)]
   ·by_cases c2 : cAt (lgW n) n.cs[j].ti > -549755813888
    ·have := s2 c2; omega
    ·rw [decide_eq_false c1, decide_eq_false c2]) v (by omega) (by omega)
  simp only [decide_eq_true_eq] at this
  omega
end Go.Proofs.YtfchdbghjeophaaGreatDoor

/- Contracts: nets that must be joined; the lowest best corrections; the program. -/
namespace Go.Proofs.YtfchdbghjeophaaGreatDoor
open Go.RowKit
set_option linter.unusedVariables false
set_option linter.unusedSimpArgs false
def joE (n : Nt) : Int := if (netF n).2 = 0 then (if jnB n then 0 else 21) else (netF n).2
theorem joE_ok {n : Nt} (h : joE n = 0) : (netF n).2 = 0 ∧ OkN n ∧ Jn n := by
 unfold joE at h
 split at h
 ·rename_i h0
  split at h
  ·rename_i hj; exact ⟨h0, net_ok h0, (jnB_iff (net_ok h0)).1 hj⟩
  ·cases h
 ·rename_i h0; exact absurd h h0
abbrev opH (n : Nt) (i : Nat) (rs : List MV) : MHeap := [⟨0, false, 2, [encN n]⟩, ⟨0, false, 2, [.agg [.lit (.slice none 0 0), .lit (.slice none 0 0)]]⟩, ⟨0, true, 5, []⟩, ⟨0, false, 2, [encN n]⟩, ⟨i, decide (i = 0), 5, rs⟩]
theorem fin_op {x : MX2} {A : Sl} {h : MHeap} {r : MRes} {t u w id k g : Nat} {o : MObj} {es : List MV} {nl : Bool} {sz : Nat} {m : MV} {a b : Value} (hx : outX x = true) (hr : ResV A h r m) (hm : m.lt 0 = true) (hna : impIds 0 [m] = []) (hv : look A t = some (.arr id 0 k g)) (ha : look A u = some (.lit a)) (hb : look A w = some (.lit b)) (ho : h[id]? = some o) (hg : o.g = g) (hk : k = es.length) (hl : ltL 0 es = true) (he : o.es = es) (hz : o.sz = sz) (hn : o.nl = nl) (hex : expL 0 [id] h [m, .arr id 0 k g, .lit a, .lit b] 0 = some ([m, .arr 0 0 k 0, .lit a, .lit b], [⟨0, nl, sz, es⟩])) (hi : impIds 0 [m, .arr id 0 k g, .lit a, .lit b] = [id]) :
  FinF [r, .tmp t, .tmp u, .tmp w] (.tup [m, .arr 0 0 k 0, .lit a, .lit b]) [⟨0, nl, sz, es⟩] x A h := by
 refine ⟨hx, [m, .arr id 0 k g, .lit a, .lit b], [m, .arr 0 0 k 0, .lit a, .lit b], ⟨_, _, rfl, hr, _, _, rfl, hv, _, _, rfl, ha, _, [], rfl, hb, rfl⟩, ?_, ?_, rfl⟩
 ·rw [hi]; simp
 ·rw [hi]; exact hex
theorem fin_opN {x : MX2} {A : Sl} {h : MHeap} {r : MRes} {t u w id k g : Nat} {o : MObj} {es : List MV} {nl : Bool} {sz : Nat} {n : Nt} {a b : Value} (hx : outX x = true) (hr : ResV A h r (encN n)) (hv : look A t = some (.arr id 0 k g)) (ha : look A u = some (.lit a)) (hb : look A w = some (.lit b)) (ho : h[id]? = some o) (hg : o.g = g) (hk : k = es.length) (hl : ltL 0 es = true) (he : o.es = es) (hz : o.sz = sz) (hn : o.nl = nl) :
  FinF [r, .tmp t, .tmp u, .tmp w] (.tup [encN n, .arr 0 0 k 0, .lit a, .lit b]) [⟨0, nl, sz, es⟩] x A h := by
 subst hz hn he hk
 refine fin_op hx hr (ltL_N n 0) (by simp [impIds]) hv ha hb ho hg rfl hl rfl rfl rfl ?_ (by simp [impIds])
 simp [expL, ho, hg, hl, frz, MV.lt, ltL, ltL_Ln, ltL_Cr]
theorem mf_openJoined : MT.mf 51 = some mfW_l51 := mfW_q51
set_option maxHeartbeats 4000000 in
theorem openJoined_z (k : Nat) (n : Nt) (hb : BdN n) (h0 : (netF n).2 = 0) :
  runZ MT (orA (k + 6)) (itA (k + 6)) 4000000 51 [encN n] [] = some (if jnB n then (.tup [encN n, .arr 0 0 (arZ n).length 0, I64 (minC n), I64 0], [⟨0, decide ((arZ n).length = 0), 5, (arZ n).map encA⟩]) else (.tup [encN n, .arr 0 0 0 0, I64 0, I64 21], [⟨0, true, 5, []⟩])) := by
 have ok := net_ok h0
 have c16 := ok.c16
 have l1 := ok.l1
 have l8 := ok.l8
 have hs1 : (MV.sl (n.ls.map encLn)).slen = some n.ls.length := by simp [MV.slen]
 have hs2 : (MV.sl (n.cs.map encCr)).slen = some n.cs.length := by simp [MV.slen]
 have w1 := fun h => open_c k n hb h
 rw [h0] at w1
 have w2 := fun h v w hv hw => longest_c (k + 1) n.ls.length l1 l8 (waysU n.cs n.cs.length) 0 (by omega) (by omega) (ways_ok ok) (by rw [waysU_len]; omega) [0] (fun v hv => by rw [List.mem_singleton] at hv; subst hv; omega) (by simp) h (v := v) (w := w) hv hw
 have w4 := fun h => flow_c k n ok h
 have hz := (flZ_ok ok).1
 have w5 := fun h v hv => arcs_c (k + 5) n ok (flZ n) hz.len h (v := v) hv
 have w6 := fun h v hv => value_c (k + 5) n ok (flZ n) hz.len (hz.bd10 ok) h (v := v) hv
 obtain ⟨hgC, hgL⟩ := lgW_ok ok
 have w3 := fun h v hv => Min_c (k + 5) (lgW n) (by rw [hgL.len]; omega) (by rw [hgL.len]; omega) h (v := v) hv
 rw [hgC] at w2
 rw [hgL.len] at w3
 have hwl := hgL.len
 have HJ := Bx.mk (show jnB n = decide (minU (lgW n) (n.ls.length - 1) ≠ -1099511627776) from rfl)
 have hzl := hz.len
 have hwy := waysU_len n.cs n.cs.length
 unfold minC
 refine runZ_of mf_openJoined (by simp) ?_
 simp only [argsL]
 repeat (first | apply ef_seq | (apply ef_mv; exact rfl; exact rfl) | (apply ef_bin; (iterate 3 exact rfl); (exact cmp_f rfl (by simp only [cmpP]; omega))) | (apply ef_len; exact rfl; exact rfl; (assumption)) | (apply ef_ldp; exact rfl; exact rfl; (exact rfl); exact rfl; (exact rfl); (first | exact rd_2 rfl rfl | exact rfl)) | (apply ef_fap; exact rfl; exact rfl) | (apply ef_ext; (iterate 3 exact rfl)) | (apply ef_box; (iterate 4 exact rfl)) | (apply ef_new; exact rfl) | (apply ef_nil0; exact rfl) | (apply ef_st; (iterate 6 exact rfl); (exact rfl); exact rfl) | apply ef_nil | apply seqQ.normal | apply ef_block | apply ef_skip | (apply ef_condf; exact rfl; (exact (rfl : false = false))) | (apply ef_call; exact rfl; ((repeat (apply XVs.cons; exact rfl)); exact XVs.nil); (with_reducible exact w1 _)))
 refine ef_loopf (α := Nat × List MV) (fun p => p.1 ≤ n.cs.length ∧ p.2 = (waysU n.cs p.1).map encA) (fun p => [(26, I64 (p.1 : Int)), (8, .arr 4 0 (2 * p.1) p.1)]) [(25, I64 (n.cs.length : Int)), (24, .sl (n.cs.map encCr)), (1, .ptr 0 0 0 0), (6, .ptr 3 0 0 0), (2, .ptr 1 0 0 0)] (fun p => opH n p.1 p.2) (fun p => n.cs.length - p.1) (0, []) [26, 8] (fun _ => rfl) (by ((repeat (refine Hold.cons (by exact rfl) ?_)); exact Hold.nil)) (by ((repeat (refine Hold.cons (by exact rfl) ?_)); exact Hold.nil)) rfl rfl ⟨by omega, rfl⟩ (by show n.cs.length - 0 < 4000000; omega) ?_
 rintro ⟨i, rs⟩ ⟨hi, hrs⟩
 try simp only at hi hrs ⊢
 have hrl : rs.length = 2 * i := by rw [hrs, List.length_map, waysU_len]
 have hlr : ∀ j, ltL j rs = true := fun j => by rw [hrs]; exact ltL_A j _
 by_cases hlt : i < n.cs.length
 ·have e1 := at_map encCr n.cs i hlt
  have hat : n.cs[i]? = some n.cs[i] := List.getElem?_eq_getElem hlt
  have HN := Bx.mk (waysU_next hat)
  generalize n.cs[i] = x at e1 HN
  clear hat
  repeat (first | apply ef_seq | (apply ef_mv; exact rfl; exact rfl) | (apply ef_bin; (iterate 3 exact rfl); (exact cmp_t rfl (by first | exact rfl | (simp only [cmpP]; omega)))) | (apply ef_ldr; exact rfl; exact rfl; (exact rd_6 rfl rfl rfl rfl rfl rfl)) | (apply ef_ldp; exact rfl; exact rfl; (exact rfl); exact rfl; (exact rfl); (exact rfl)) | (apply ef_ias; (iterate 3 exact rfl); (omega); assumption; exact rfl) | (apply ef_fap; exact rfl; exact rfl) | (apply ef_new; exact rfl) | (apply ef_build; exact rfl; (repeat (apply XVs.cons; exact rfl)); exact XVs.nil; exact rfl; exact rfl) | (apply ef_bsl; exact rfl; (repeat (apply XVs.cons; exact rfl)); exact XVs.nil; exact rfl) | (apply ef_st; (iterate 6 exact rfl); (exact rfl); exact rfl) | apply ef_nil | apply seqQ.normal | apply ef_block | apply ef_skip | (apply ef_condt; exact rfl; (exact (rfl : true = true))))
  (apply ef_app; (· exact rfl); (· exact rfl); (· exact rfl); (· exact rfl); (· exact rfl); (· exact rfl); (· (simp [hrl])); (· exact rfl); (· (simp [hrl]; omega)); (· (exact rfl)); (· exact rfl))
  repeat (first | (apply ef_mv; exact rfl; exact rfl) | (apply ef_bin; (iterate 3 exact rfl); (((with_reducible refine bin_add (wrap_of ?_ ?_)) <;> omega))) | apply ef_nil | apply seqQ.normal | apply blockQ.normal)
  (refine loopQ.normal _ _ ⟨(i + 1, rs ++ [encA ⟨x.ln, x.ti, 0, 0, 0⟩, encA ⟨x.ti, x.ln, 0, 0, 0⟩]), ⟨hlt, by rw [HN.out, hrs]; simp [wayA]⟩, (by first | (simp only; omega) | omega), ⟨by ((repeat (refine Hold.cons (by exact rfl) ?_)); exact Hold.nil), by ((repeat (refine Hold.cons (by exact rfl) ?_)); exact Hold.nil)⟩, .inr ⟨by ((repeat (refine hdl_cons rfl (by first | rfl | (simp [MV.lt, ltL, ltL_Ln, ltL_Cr, ltL_I, hlr, ltL_app2, splice, MV.cells])) ?_)); exact hdl_nil), by (simp [hltL, ltL, MV.lt, ltL, ltL_Ln, ltL_Cr, ltL_I, hlr, ltL_app2, splice, MV.cells])⟩, by exact rfl⟩)
 ·obtain rfl : i = n.cs.length := by omega
  repeat (first | apply ef_seq | (apply ef_mv; exact rfl; exact rfl) | (apply ef_bin; (iterate 3 exact rfl); (exact cmp_f rfl (by simp only [cmpP]; omega))) | (apply ef_len; exact rfl; exact rfl; (assumption)) | (apply ef_ldp; exact rfl; exact rfl; (exact rfl); exact rfl; (exact rfl); (exact rfl)) | (apply ef_fap; exact rfl; exact rfl) | (apply ef_bsl; exact rfl; (repeat (apply XVs.cons; exact rfl)); exact XVs.nil; exact rfl) | apply ef_nil | apply seqQ.normal | apply loopQ.exit | apply ef_exit | apply seqQ.exit | apply blockQ.here | (apply ef_condf; exact rfl; (exact (rfl : false = false))))
  (apply ef_call; (· exact rfl); (· ((repeat (apply XVs.cons; exact rfl)); exact XVs.nil)); · exact w2 _ _ _ (frz_row (o := ⟨n.cs.length, decide (n.cs.length = 0), 5, rs⟩) rfl rfl (by simp [hwy]) (ltL_A 0 _) hrs) (frz_row (o := ⟨0, false, 1, [I64 0]⟩) rfl rfl rfl rfl rfl))
  repeat (first | apply ef_seq | (apply ef_mv; exact rfl; exact rfl) | (apply ef_ext; (iterate 3 exact rfl)) | apply ef_nil | apply seqQ.normal)
  (apply ef_call; (· exact rfl); (· ((repeat (apply XVs.cons; exact rfl)); exact XVs.nil)); · exact w3 _ _ (frz_row (o := ⟨0, false, 1, (lgW n).map I64⟩) rfl rfl (by simp [hwl]) (ltL_I 0 _) rfl))
  cases hj : jnB n
  ·have hmf : minU (lgW n) (n.ls.length - 1) = -1099511627776 := by rw [HJ.out] at hj; simpa using hj
   rw [hmf]
   repeat (first | apply ef_seq | (apply ef_mv; exact rfl; exact rfl) | (apply ef_bin; (iterate 3 exact rfl); (exact cmp_t rfl (by first | exact rfl | (simp only [cmpP]; omega)))) | (apply ef_ldp; exact rfl; exact rfl; (exact rfl); exact rfl; (exact rfl); (exact rd_2 rfl rfl)) | (apply ef_nil0; exact rfl) | (apply ef_st; (iterate 6 exact rfl); (exact rfl); exact rfl) | apply ef_nil | apply seqQ.normal | apply ef_ret | apply seqQ.ret | (apply ef_condt; exact rfl; (exact (rfl : true = true))))
   show FinF _ (.tup [encN n, .arr 0 0 0 0, I64 0, I64 21]) [⟨0, true, 5, []⟩] _ _ _
   (apply fin_opN; (· exact rfl); (· exact ⟨1, 0, 0, 0, _, _, by exact rfl, by exact rfl, rfl, rfl, rd_2 rfl rfl⟩); (· exact rfl); (· exact rfl); (· exact rfl); (· exact rfl); (· exact rfl); (· exact rfl); (· exact rfl); (· exact rfl); (· exact rfl); (· exact rfl))
  ·have hmf : (minU (lgW n) (n.ls.length - 1) == -1099511627776) = false := by rw [HJ.out] at hj; simpa using hj
   generalize minU (lgW n) (n.ls.length - 1) = mm at *
   clear HJ
   repeat (first | apply ef_seq | (apply ef_mv; exact rfl; exact rfl) | (apply ef_bin; (iterate 3 exact rfl); (exact rfl)) | (apply ef_ldp; exact rfl; exact rfl; (exact rfl); exact rfl; (exact rfl); (exact rd_2 rfl rfl)) | apply ef_nil | apply seqQ.normal | apply ef_skip | (apply ef_condf; exact rfl; (assumption)) | (apply ef_call; exact rfl; ((repeat (apply XVs.cons; exact rfl)); exact XVs.nil); (with_reducible exact w4 _)))
   (apply ef_call; (· exact rfl); (· ((repeat (apply XVs.cons; exact rfl)); exact XVs.nil)); · exact w5 _ _ (frz_row (o := ⟨0, false, 1, (flZ n).map I64⟩) rfl rfl (by simp [hzl]) (ltL_I 0 _) rfl))
   repeat (first | (apply ef_mv; exact rfl; exact rfl) | (apply ef_ldp; exact rfl; exact rfl; (exact rfl); exact rfl; (exact rfl); (exact rd_2 rfl rfl)))
   (apply ef_call; (· exact rfl); (· ((repeat (apply XVs.cons; exact rfl)); exact XVs.nil)); · exact w6 _ _ (frz_row (o := ⟨0, false, 1, (flZ n).map I64⟩) rfl rfl (by simp [hzl]) (ltL_I 0 _) rfl))
   repeat (first | (apply ef_mv; exact rfl; exact rfl) | (apply ef_st; (iterate 6 exact rfl); (exact rfl); exact rfl) | apply ef_nil | apply seqQ.normal | apply ef_ret)
   show FinF _ (.tup [encN n, .arr 0 0 (arZ n).length 0, I64 (valU n.cs (flZ n) n.cs.length), I64 0]) [⟨0, decide ((arZ n).length = 0), 5, (arZ n).map encA⟩] _ _ _
   (apply fin_opN; (· exact rfl); (· exact ⟨1, 0, 0, 0, _, _, by exact rfl, by exact rfl, rfl, rfl, rd_2 rfl rfl⟩); (· exact rfl); (· exact rfl); (· exact rfl); (· exact rfl); (· exact rfl); (· simp); (· exact ltL_A 0 _); (· exact rfl); (· exact rfl); (· exact rfl))
theorem openJoined_c (k : Nat) (n : Nt) (hb : BdN n) (h0 : joE n = 0) (h : MHeap) :
  orA (k + 7) 51 [encN n] h = some (.tup [encN n, .arr h.length 0 (arZ n).length 0, I64 (minC n), I64 0], h ++ [⟨0, decide ((arZ n).length = 0), 5, (arZ n).map encA⟩]) := by
 obtain ⟨hn, ok, hj⟩ := joE_ok h0
 have hz := openJoined_z k n hb hn
 rw [if_pos ((jnB_iff ok).2 hj)] at hz
 have := callA (k := k + 6) (h := h) (args := [encN n]) (args' := [encN n]) (frzL_lt (by simp [ltL, MV.lt, ltL_Ln, ltL_Cr])) rfl hz (by simp [okV, ok1, MV.lt, ltL, ltL_Ln, ltL_Cr, MV.pure]) (by simp [okH, ltL_A, pureL_A])
 simpa [shV, sh1] using this
theorem fin_all {x : MX2} {A : Sl} {h : MHeap} {t u w id k g : Nat} {o : MObj} {es : List MV} {sz : Nat} {nl : Bool} {a b : Value} (hx : outX x = true) (hv : look A t = some (.arr id 0 k g)) (ha : look A u = some (.lit a)) (hb : look A w = some (.lit b)) (ho : h[id]? = some o) (hg : o.g = g) (hk : k = es.length) (hl : ltL 0 es = true) (he : o.es = es) (hz : o.sz = sz) (hn : o.nl = nl) :
  FinF [.tmp t, .tmp u, .tmp w] (.tup [.arr 0 0 k 0, .lit a, .lit b]) [⟨0, nl, sz, es⟩] x A h := by
 subst hz hn he hk
 refine ⟨hx, [.arr id 0 o.es.length g, .lit a, .lit b], [.arr 0 0 o.es.length 0, .lit a, .lit b], ⟨_, _, rfl, hv, _, _, rfl, ha, _, [], rfl, hb, rfl⟩, ?_, ?_, rfl⟩
 ·simp [impIds]
 ·simp [impIds, expL, ho, hg, hl, frz, MV.lt]
theorem mf_BestOf : MT.mf 15 = some mfW_l15 := mfW_q15
theorem BestOf_c (k : Nat) (n : Nt) (hb : BdN n) (h0 : joE n = 0) (h : MHeap) :
  orA (k + 8) 15 [encN n] h = some (.tup [.arr h.length 0 n.ls.length 0, I64 (minC n), I64 0], h ++ [⟨0, false, 1, (lgZ n 0).map I64⟩]) := by
 obtain ⟨hn, ok, hj⟩ := joE_ok h0
 have l1 := ok.l1
 have l8 := ok.l8
 have hs1 : (MV.sl (n.ls.map encLn)).slen = some n.ls.length := by simp [MV.slen]
 have w1 := fun h => openJoined_c k n hb h0 h
 have w2 := fun h v w hv hw => longest_c (k + 2) n.ls.length l1 l8 (arZ n) 10000 (by omega) (by omega) (arZ_ok ok) (arcsU_len16 ok _) [0] (fun v hv => by rw [List.mem_singleton] at hv; subst hv; omega) (by simp) h (v := v) (w := w) hv hw
 obtain ⟨hgC, hgL⟩ := lgZ_ok ok (s := 0) (by omega) (by omega)
 rw [hgC] at w2
 have hwl := hgL.len
 have hz : runZ MT (orA (k + 7)) (itA (k + 7)) 4000000 15 [encN n] [] = some (.tup [.arr 0 0 n.ls.length 0, I64 (minC n), I64 0], [⟨0, false, 1, (lgZ n 0).map I64⟩]) := by
  refine runZ_of mf_BestOf (by simp) ?_
  simp only [argsL]
  generalize minC n = mc at *
  repeat (first | apply ef_seq | (apply ef_mv; exact rfl; exact rfl) | (apply ef_bin; (iterate 3 exact rfl); (exact cmp_f rfl (by simp only [cmpP]; omega))) | (apply ef_len; exact rfl; exact rfl; (assumption)) | (apply ef_ldp; exact rfl; exact rfl; (exact rfl); exact rfl; (exact rfl); (first | exact rd_2 rfl rfl | exact rfl)) | (apply ef_fap; exact rfl; exact rfl) | (apply ef_ext; (iterate 3 exact rfl)) | (apply ef_box; (iterate 4 exact rfl)) | (apply ef_new; exact rfl) | (apply ef_nil0; exact rfl) | (apply ef_bsl; exact rfl; (repeat (apply XVs.cons; exact rfl)); exact XVs.nil; exact rfl) | (apply ef_st; (iterate 6 exact rfl); (exact rfl); exact rfl) | apply ef_nil | apply seqQ.normal | apply ef_skip | (apply ef_condf; exact rfl; (exact (rfl : false = false))) | (apply ef_call; exact rfl; ((repeat (apply XVs.cons; exact rfl)); exact XVs.nil); (with_reducible exact w1 _)))
  (apply ef_call; (· exact rfl); (· ((repeat (apply XVs.cons; exact rfl)); exact XVs.nil)); · exact w2 _ _ _ (frz_row (o := ⟨0, decide ((arZ n).length = 0), 5, (arZ n).map encA⟩) rfl rfl (by simp) (ltL_A 0 _) rfl) (frz_row (o := ⟨0, false, 1, [I64 0]⟩) rfl rfl rfl rfl rfl))
  repeat (first | apply ef_seq | (apply ef_mv; exact rfl; exact rfl) | (apply ef_ext; (iterate 3 exact rfl)) | apply ef_nil | apply seqQ.normal | apply ef_ret)
  (apply fin_all; (· exact rfl); (· exact rfl); (· exact rfl); (· exact rfl); (· exact rfl); (· exact rfl); (· simp [hwl]); (· exact ltL_I 0 _); (· exact rfl); (· exact rfl); (· exact rfl))
 have := callA (k := k + 7) (h := h) (args := [encN n]) (args' := [encN n]) (frzL_lt (by simp [ltL, MV.lt, ltL_Ln, ltL_Cr])) rfl hz (by simp [okV, ok1, MV.lt, MV.pure]) (by simp [okH, ltL_I, pureL_I])
 simpa [shV, sh1] using this
end Go.Proofs.YtfchdbghjeophaaGreatDoor

/- Contracts of the document: whether a net is joined. -/
namespace Go.Proofs.YtfchdbghjeophaaGreatDoor
open Go.RowKit
set_option linter.unusedVariables false
set_option linter.unusedSimpArgs false
structure JI (n : Nt) (R : List Int) : Prop where
 nd : R.Nodup
 rg : ∀ v ∈ R, 0 ≤ v ∧ v < (n.ls.length : Int)
 z : (0 : Int) ∈ R
 cl : ∀ S : Int → Bool, S 0 = true → (∀ x ∈ n.cs, S x.ln = S x.ti) → ∀ v ∈ R, S v = true
theorem nodup_le {m : Nat} {R : List Int} (nd : R.Nodup) (rg : ∀ v ∈ R, 0 ≤ v ∧ v < (m : Int)) : R.length ≤ m := by
 refine Classical.byContradiction fun h => ?_
 obtain ⟨i, j, hij, hj, e⟩ := pigeon m (fun i => R.getD i 0) (fun i hi => by
  have : i < R.length := by omega
  simp only [List.getD_eq_getElem?_getD, List.getElem?_eq_getElem this, Option.getD_some]
  exact rg _ (List.getElem_mem _))
 have h1 : i < R.length := by omega
 have h2 : j < R.length := by omega
 simp only [List.getD_eq_getElem?_getD, List.getElem?_eq_getElem h1, List.getElem?_eq_getElem h2, Option.getD_some] at e
 exact List.pairwise_iff_getElem.1 nd i j h1 h2 hij e
theorem JI.len {n : Nt} {R : List Int} (h : JI n R) : R.length ≤ n.ls.length := nodup_le h.nd h.rg
theorem JI.start {n : Nt} (h : 0 < n.ls.length) : JI n [0] := ⟨by simp, fun v hv => by rw [List.mem_singleton] at hv; subst hv; omega, by simp, fun S h0 _ v hv => by rw [List.mem_singleton] at hv; subst hv; exact h0⟩
theorem JI.add {n : Nt} (ok : OkN n) {R : List Int} (h : JI n R) {x : Cr} (hx : x ∈ n.cs) {a b : Int} (hab : (a = x.ln ∧ b = x.ti) ∨ (a = x.ti ∧ b = x.ln)) (ha : a ∈ R) (hb : ¬ b ∈ R) : JI n (R ++ [b]) := by
 have o := ok.rg x hx
 refine ⟨?_, fun v hv => ?_, by simp [h.z], fun S h0 hc v hv => ?_⟩
 ·rw [List.nodup_append]
  exact ⟨h.nd, by simp, fun u hu w hw => by rw [List.mem_singleton] at hw; subst hw; exact fun e => hb (e ▸ hu)⟩
 ·rcases List.mem_append.1 hv with hv | hv
  ·exact h.rg v hv
  ·rw [List.mem_singleton] at hv
   subst hv
   rcases hab with ⟨-, rfl⟩ | ⟨-, rfl⟩
   ·exact ⟨o.t0, o.t1⟩
   ·exact ⟨o.l0, o.l1⟩
 ·rcases List.mem_append.1 hv with hv | hv
  ·exact h.cl S h0 hc v hv
  ·rw [List.mem_singleton] at hv
   subst hv
   have h1 := h.cl S h0 hc a ha
   have h2 := hc x hx
   rcases hab with ⟨rfl, rfl⟩ | ⟨rfl, rfl⟩
   ·rw [← h2]; exact h1
   ·rw [h2]; exact h1
theorem JI.done {n : Nt} (ok : OkN n) {R : List Int} (h : JI n R) (hc : ∀ (j : Nat) (hj : j < n.cs.length), n.cs[j].ln ∈ R ↔ n.cs[j].ti ∈ R) : decide (R.length = n.ls.length) = jnB n := by
 have hl := h.len
 rw [Bool.eq_iff_iff, decide_eq_true_eq, jnB_iff ok]
 constructor
 ·intro he S h0 hcl v v0 v1
  refine h.cl S h0 hcl v (Classical.byContradiction fun hv => ?_)
  have := nodup_le (m := n.ls.length) (R := v :: R) (List.nodup_cons.2 ⟨hv, h.nd⟩) (fun u hu => by
   rcases List.mem_cons.1 hu with rfl | hu
   ·exact ⟨v0, v1⟩
   ·exact h.rg u hu)
  simp at this; omega
 ·intro hj
  have hall : ∀ v : Int, 0 ≤ v → v < (n.ls.length : Int) → v ∈ R := fun v v0 v1 => by
   have := hj (fun v => decide (v ∈ R)) (by simp [h.z]) (fun x hx => by
    obtain ⟨j, hj2, rfl⟩ := List.getElem_of_mem hx
    have := hc j hj2
    simp only [decide_eq_decide]
    exact this) v v0 v1
   simpa using this
  refine Classical.byContradiction fun hne => ?_
  have hlt : R.length < n.ls.length := by omega
  obtain ⟨i, j, hij, hj2, e⟩ := pigeon R.length (fun i => ((R.idxOf (i : Int) : Nat) : Int)) (fun i hi => by
   have := List.idxOf_lt_length_iff.2 (hall (i : Int) (by omega) (by omega))
   exact ⟨by omega, by omega⟩)
  have h1 := List.idxOf_lt_length_iff.2 (hall (i : Int) (by omega) (by omega))
  have h2 := List.idxOf_lt_length_iff.2 (hall (j : Int) (by omega) (by omega))
  have e1 := List.getElem_idxOf h1
  have e2 := List.getElem_idxOf h2
  have e3 : R.idxOf (i : Int) = R.idxOf (j : Int) := by omega
  have : (i : Int) = (j : Int) := by rw [← e1, ← e2]; simp only [e3]
  omega
end Go.Proofs.YtfchdbghjeophaaGreatDoor

/- Contracts of the document: whether a net is joined (walk). -/
namespace Go.Proofs.YtfchdbghjeophaaGreatDoor
open Go.RowKit
set_option linter.unusedVariables false
set_option linter.unusedSimpArgs false
abbrev ijH (n : Nt) (rs : List MV) (g : Nat) : MHeap := [⟨0, false, 2, [encN n]⟩, ⟨g, false, 1, rs⟩]
def clI (n : Nt) (R : List Int) (i : Nat) : Prop := ∀ (j : Nat) (hj : j < n.cs.length), j < i → (n.cs[j].ln ∈ R ↔ n.cs[j].ti ∈ R)
structure IJ (n : Nt) (m : Nat) (p : Nat × List Int × Nat × Bool) : Prop where
 i : p.1 ≤ n.cs.length
 ji : JI n p.2.1
 le : m ≤ p.2.1.length
 fl : p.2.2.2 = true → m < p.2.1.length
 cl : p.2.2.2 = false → clI n p.2.1 p.1
theorem IJ.skip {n : Nt} {m i g : Nat} {R : List Int} {f : Bool} (h : IJ n m (i, R, g, f)) (hlt : i < n.cs.length) (he : n.cs[i].ln ∈ R ↔ n.cs[i].ti ∈ R) : IJ n m (i + 1, R, g, f) :=
 ⟨hlt, h.ji, h.le, h.fl, fun hf j hj hji => by
  by_cases e : j = i
  ·subst e; exact he
  ·exact h.cl hf j hj (by show j < i; omega)⟩
theorem IJ.add {n : Nt} (ok : OkN n) {m i g : Nat} {R : List Int} {f : Bool} (h : IJ n m (i, R, g, f)) (hlt : i < n.cs.length) {a b : Int} (hab : (a = n.cs[i].ln ∧ b = n.cs[i].ti) ∨ (a = n.cs[i].ti ∧ b = n.cs[i].ln)) (ha : a ∈ R) (hb : ¬ b ∈ R) (g' : Nat) : IJ n m (i + 1, R ++ [b], g', true) := by
 have h1 := h.ji.add ok (List.getElem_mem hlt) hab ha hb
 have h2 := h.le
 exact ⟨hlt, h1, by simp at h2 ⊢; omega, fun _ => by simp at h2 ⊢; omega, fun hf => by cases hf⟩
theorem mf_IsJoined : MT.mf 42 = some ⟨61, [(.tmp 2)], (.seq (.reg [gO 1 (.box 2 (.s 0)), gO 2 (.mv cF)]) (.seq (.reg [gO 8 (.bsl (.lit (.int .i64 0)) 1 1 [(0, (cI 0))]), gO 3 (.mv (.s 8))]) (.seq (.seq (.reg [gO 4 (.mv cT)]) (.block 0 (.loop [4, 1, 3] (.seq (.seq (.reg [gO 9 (.mv (.s 4))]) (.cond (.s 9) .skip (.exit 0))) (.block 1 (.seq (.reg [gO 4 (.mv cF)]) (.seq (.reg [gO 5 (.mv (cI 0))]) (.block 2 (.loop [5, 1, 3, 4] (.seq (.seq (.reg [gO 10 (.mv (.s 5)), gO 11 (.fa 1 (.s 1)), gO 12 (.ld none (.s 11)), gO 13 (.len (.s 12)), gO 14 (.bin .lss (.s 10) (.s 13))]) (.cond (.s 14) .skip (.exit 2))) (.seq (.block 3 (.seq (.reg [gO 17 (.fa 1 (.s 1)), gO 18 (.ld none (.s 17)), gO 19 (.mv (.s 5)), gO 20 (.ia 6 (.s 18) (.s 19)), gO 21 (.fa 0 (.s 20)), gO 22 (.ld none (.s 21)), gO 23 (.fa 1 (.s 1)), gO 24 (.ld none (.s 23)), gO 25 (.mv (.s 5)), gO 26 (.ia 6 (.s 24) (.s 25)), gO 27 (.fa 1 (.s 26)), gO 28 (.ld none (.s 27)), gO 6 (.mv (.s 22)), gO 7 (.mv (.s 28))]) (.seq (.seq (.reg [gO 29 (.mv (.s 3)), gO 30 (.mv (.s 6)), gO 31 (.call 85 [.s 29, .s 30]), gO 32 (.mv (.s 31)), ⟨some (32, true), some 33, .mv (.s 3)⟩, ⟨some (32, true), some 34, .mv (.s 7)⟩, ⟨some (32, true), some 35, .call 85 [.s 33, .s 34]⟩, ⟨some (32, true), some 36, .un .not (.s 35)⟩, gO 37 (.pick (.s 32) (.s 36) cF)]) (.cond (.s 37) (.reg [gO 38 (.mv (.s 3)), gO 39 (.mv (.s 7)), gO 40 (.bsl (.lit (.int .i64 0)) 1 1 [(0, (.s 39))]), gO 41 (.app 1 (.s 38) (.s 40)), gO 3 (.mv (.s 41)), gO 4 (.mv cT)]) .skip)) (.seq (.reg [gO 42 (.mv (.s 3)), gO 43 (.mv (.s 7)), gO 44 (.call 85 [.s 42, .s 43]), gO 45 (.mv (.s 44)), ⟨some (45, true), some 46, .mv (.s 3)⟩, ⟨some (45, true), some 47, .mv (.s 6)⟩, ⟨some (45, true), some 48, .call 85 [.s 46, .s 47]⟩, ⟨some (45, true), some 49, .un .not (.s 48)⟩, gO 50 (.pick (.s 45) (.s 49) cF)]) (.cond (.s 50) (.reg [gO 51 (.mv (.s 3)), gO 52 (.mv (.s 6)), gO 53 (.bsl (.lit (.int .i64 0)) 1 1 [(0, (.s 52))]), gO 54 (.app 1 (.s 51) (.s 53)), gO 3 (.mv (.s 54)), gO 4 (.mv cT)]) .skip))))) (.reg [gO 15 (.mv (.s 5)), gO 16 (.bin .add (.s 15) (cI 1)), gO 5 (.mv (.s 16))])))))))))))) (.seq (.reg [gO 55 (.mv (.s 3)), gO 56 (.len (.s 55)), gO 57 (.fa 0 (.s 1)), gO 58 (.ld none (.s 57)), gO 59 (.len (.s 58)), gO 60 (.bin .eql (.s 56) (.s 59)), gO 2 (.mv (.s 60))]) .ret))))⟩ := by kernel_rfl
set_option maxHeartbeats 4000000 in
theorem IsJoined_z (k : Nat) (n : Nt) (ok : OkN n) : runZ MT (orA (k + 1)) (itA (k + 1)) 4000000 42 [encN n] [] = some (Bo (jnB n), []) := by
 have l1 := ok.l1
 have l8 := ok.l8
 have c16 := ok.c16
 have hs1 : (MV.sl (n.ls.map encLn)).slen = some n.ls.length := by simp [MV.slen]
 have hs2 : (MV.sl (n.cs.map encCr)).slen = some n.cs.length := by simp [MV.slen]
 refine runZ_of mf_IsJoined (by simp) ?_
 simp only [argsL]
 repeat (first | apply ef_seq | (apply ef_mv; exact rfl; exact rfl) | (apply ef_box; (iterate 4 exact rfl)) | (apply ef_bsl; exact rfl; (repeat (apply XVs.cons; exact rfl)); exact XVs.nil; exact rfl) | apply ef_nil | apply seqQ.normal | apply ef_block)
 refine ef_loopf (α := (List Int × Nat × List MV) × Nat × Bool) (fun p => (JI n p.1.1 ∧ (p.2.2 = false → clI n p.1.1 n.cs.length)) ∧ p.1.2.1 = p.1.1.length ∧ p.1.2.2 = p.1.1.map I64) (fun p => [(4, Bo p.2.2), (3, .arr 1 0 p.1.2.1 p.2.1)]) [(1, .ptr 0 0 0 0)] (fun p => ijH n p.1.2.2 p.2.1) (fun p => 2 * (n.ls.length - p.1.2.1) + (if p.2.2 then 1 else 0)) (([0], 1, [I64 0]), 0, true) [4, 3] (fun _ => rfl) (by ((repeat (refine Hold.cons (by exact rfl) ?_)); exact Hold.nil)) (by ((repeat (refine Hold.cons (by exact rfl) ?_)); exact Hold.nil)) rfl rfl ⟨⟨.start l1, fun h => by cases h⟩, rfl, rfl⟩ (by show 2 * (n.ls.length - 1) + 1 < 4000000; omega) ?_
 rintro ⟨⟨R, K, rs⟩, g, f⟩ ⟨⟨hji, hcl⟩, hK, hrs⟩
 try simp only at hji hcl hK hrs ⊢
 have hle := hji.len
 have HJ := Bx.mk hji
 have HC := Bx.mk hcl
 clear hji hcl
 cases f
 ·repeat (first | apply ef_seq | (apply ef_mv; exact rfl; exact rfl) | (apply ef_bin; (iterate 3 exact rfl); (exact rfl)) | (apply ef_len; exact rfl; exact rfl; (first | assumption | exact rfl)) | (apply ef_ldp; exact rfl; exact rfl; (exact rfl); exact rfl; (exact rfl); (exact rfl)) | (apply ef_fap; exact rfl; exact rfl) | apply ef_nil | apply seqQ.normal | apply loopQ.exit | apply ef_ret | apply ef_exit | apply seqQ.exit | apply blockQ.here | (apply ef_condf; exact rfl; (exact (rfl : false = false))))
  (refine fin1 rfl (by exact rfl) rfl ?_)
  rw [← HJ.out.done ok (fun j hj => HC.out rfl j hj hj)]
  rw [hK]; congr 2; rw [Bool.eq_iff_iff]; simp; omega
 ·repeat (first | apply ef_seq | (apply ef_mv; exact rfl; exact rfl) | apply ef_nil | apply seqQ.normal | apply ef_block | apply ef_skip | (apply ef_condt; exact rfl; (exact (rfl : true = true))))
  refine ef_loopf (α := Nat × (List Int × Nat × List MV) × Nat × Bool) (fun p => IJ n K (p.1, p.2.1.1, p.2.2) ∧ p.2.1.2.1 = p.2.1.1.length ∧ p.2.1.2.2 = p.2.1.1.map I64) (fun p => [(5, I64 (p.1 : Int)), (4, Bo p.2.2.2), (3, .arr 1 0 p.2.1.2.1 p.2.2.1)]) [(1, .ptr 0 0 0 0)] (fun p => ijH n p.2.1.2.2 p.2.2.1) (fun p => n.cs.length - p.1) (0, (R, K, rs), g, false) [5, 4, 3] (fun _ => rfl) (by ((repeat (refine Hold.cons (by exact rfl) ?_)); exact Hold.nil)) (by ((repeat (refine Hold.cons (by exact rfl) ?_)); exact Hold.nil)) rfl rfl ⟨⟨by simp, HJ.out, by rw [hK]; exact Nat.le_refl _, (fun h => by cases h), (fun _ j hj hj0 => by cases hj0)⟩, hK, hrs⟩ (by show n.cs.length - 0 < 4000000; omega) ?_
  rintro ⟨i, ⟨Q, L, qs⟩, q, f⟩ ⟨hI, hL, hqs⟩
  try simp only at hI hL hqs
  have hQl := hI.ji.len
  have hi := hI.i
  have hQ0 := hI.le
  have hf1 := hI.fl
  have HI := Bx.mk hI
  clear hI
  try simp only at hQl hi hQ0 hf1 ⊢
  have hlr : ∀ j, ltL j qs = true := fun j => by rw [hqs]; exact ltL_I j _
  have hql : qs.length = L := by rw [hqs, hL]; simp
  by_cases hlt : i < n.cs.length
  ·have e1 := at_map encCr n.cs i hlt
   have HA := Bx.mk (fun {a b : Int} (hab : (a = n.cs[i].ln ∧ b = n.cs[i].ti) ∨ (a = n.cs[i].ti ∧ b = n.cs[i].ln)) (ha : a ∈ Q) (hb : ¬ b ∈ Q) (g' : Nat) => HI.out.add ok hlt hab ha hb g')
   have HS := Bx.mk (fun (he : n.cs[i].ln ∈ Q ↔ n.cs[i].ti ∈ Q) => HI.out.skip hlt he)
   generalize n.cs[i] = x at e1 HA HS
   have wq := fun (z : Int) (t : Bool) (ht : Q.any (· == z) = t) h v hv => bHas_c k Q z (by omega) h (v := v) hv ht
   have hany : ∀ z : Int, z ∈ Q → Q.any (· == z) = true := fun z hz => by simp [hz]
   have hnan : ∀ z : Int, ¬ z ∈ Q → Q.any (· == z) = false := fun z hz => by
    cases h : Q.any (· == z)
    ·rfl
    ·exact absurd (by simpa using h) hz
   by_cases ha : x.ln ∈ Q
   ·have wa := wq _ _ (hany _ ha)
    by_cases hb : x.ti ∈ Q
    ·have wb := wq _ _ (hany _ hb)
     repeat (first | apply ef_seq | (apply ef_mv; exact rfl; exact rfl) | (apply ef_bin; (iterate 3 exact rfl); (exact cmp_t rfl (by first | exact rfl | (simp only [cmpP]; omega)))) | (apply ef_len; exact rfl; exact rfl; (assumption)) | (apply ef_ldr; exact rfl; exact rfl; (exact rfl)) | (apply ef_ldp; exact rfl; exact rfl; (exact rfl); exact rfl; (exact rfl); (exact rfl)) | (apply ef_ias; (iterate 3 exact rfl); (omega); assumption; exact rfl) | (apply ef_fap; exact rfl; exact rfl) | (apply ef_far; exact rfl; exact rfl) | apply ef_nil | apply seqQ.normal | apply ef_block | apply ef_skip | (apply ef_condt; exact rfl; (exact (rfl : true = true))))
     (apply ef_call; (· exact rfl); (· ((repeat (apply XVs.cons; exact rfl)); exact XVs.nil)); · exact wa _ _ (frz_row (o := ⟨q, false, 1, qs⟩) rfl rfl (by simp [hL]) (ltL_I 0 _) hqs))
     repeat (first | (apply ef_mv; exact rfl; exact rfl) | (apply ef_gy; exact rfl; (exact (rfl : true = true))))
     (apply ef_call; (· exact rfl); (· ((repeat (apply XVs.cons; exact rfl)); exact XVs.nil)); · exact wb _ _ (frz_row (o := ⟨q, false, 1, qs⟩) rfl rfl (by simp [hL]) (ltL_I 0 _) hqs))
     repeat (first | apply ef_seq | (apply ef_mv; exact rfl; exact rfl) | (apply ef_gy; exact rfl; (exact (rfl : true = true))) | (apply ef_pick; (iterate 3 exact rfl)) | (apply ef_notT; exact rfl; exact rfl) | apply ef_nil | apply seqQ.normal | apply ef_skip | (apply ef_condf; exact rfl; (exact (rfl : false = false))))
     (apply ef_call; (· exact rfl); (· ((repeat (apply XVs.cons; exact rfl)); exact XVs.nil)); · exact wb _ _ (frz_row (o := ⟨q, false, 1, qs⟩) rfl rfl (by simp [hL]) (ltL_I 0 _) hqs))
     repeat (first | (apply ef_mv; exact rfl; exact rfl) | (apply ef_gy; exact rfl; (exact (rfl : true = true))))
     (apply ef_call; (· exact rfl); (· ((repeat (apply XVs.cons; exact rfl)); exact XVs.nil)); · exact wa _ _ (frz_row (o := ⟨q, false, 1, qs⟩) rfl rfl (by simp [hL]) (ltL_I 0 _) hqs))
     repeat (first | (apply ef_mv; exact rfl; exact rfl) | (apply ef_bin; (iterate 3 exact rfl); (((with_reducible refine bin_add (wrap_of ?_ ?_)) <;> omega))) | (apply ef_gy; exact rfl; (exact (rfl : true = true))) | (apply ef_pick; (iterate 3 exact rfl)) | (apply ef_notT; exact rfl; exact rfl) | apply ef_nil | apply seqQ.normal | apply blockQ.normal | apply ef_skip | (apply ef_condf; exact rfl; (exact (rfl : false = false))))
     (refine loopQ.normal _ _ ⟨(i + 1, (Q, L, qs), q, f), ⟨HS.out ⟨fun _ => hb, fun _ => ha⟩, hL, hqs⟩, (by first | (simp only; omega) | omega), ⟨by ((repeat (refine Hold.cons (by exact rfl) ?_)); exact Hold.nil), by ((repeat (refine Hold.cons (by exact rfl) ?_)); exact Hold.nil)⟩, .inr ⟨by ((repeat (refine hdl_cons rfl (by first | rfl | (simp [MV.lt, ltL, ltL_Ln, ltL_Cr, ltL_I, hlr])) ?_)); exact hdl_nil), by first | rfl | (simp [hltL, ltL, MV.lt, ltL, ltL_Ln, ltL_Cr, ltL_I, hlr])⟩, by first | exact rfl | (simp only [List.map_append, List.map_set]; exact rfl)⟩)
    ·have wb := wq _ _ (hnan _ hb)
     have wc := fun (z : Int) (t : Bool) (ht : (Q ++ [x.ti]).any (· == z) = t) h v hv => bHas_c k (Q ++ [x.ti]) z (by simp; omega) h (v := v) hv ht
     have wca := wc x.ln true (by simp [ha])
     have wcb := wc x.ti true (by simp)
     repeat (first | apply ef_seq | (apply ef_mv; exact rfl; exact rfl) | (apply ef_bin; (iterate 3 exact rfl); (exact cmp_t rfl (by first | exact rfl | (simp only [cmpP]; omega)))) | (apply ef_len; exact rfl; exact rfl; (assumption)) | (apply ef_ldr; exact rfl; exact rfl; (exact rfl)) | (apply ef_ldp; exact rfl; exact rfl; (exact rfl); exact rfl; (exact rfl); (exact rfl)) | (apply ef_ias; (iterate 3 exact rfl); (omega); assumption; exact rfl) | (apply ef_fap; exact rfl; exact rfl) | (apply ef_far; exact rfl; exact rfl) | apply ef_nil | apply seqQ.normal | apply ef_block | apply ef_skip | (apply ef_condt; exact rfl; (exact (rfl : true = true))))
     (apply ef_call; (· exact rfl); (· ((repeat (apply XVs.cons; exact rfl)); exact XVs.nil)); · exact wa _ _ (frz_row (o := ⟨q, false, 1, qs⟩) rfl rfl (by simp [hL]) (ltL_I 0 _) hqs))
     repeat (first | (apply ef_mv; exact rfl; exact rfl) | (apply ef_gy; exact rfl; (exact (rfl : true = true))))
     (apply ef_call; (· exact rfl); (· ((repeat (apply XVs.cons; exact rfl)); exact XVs.nil)); · exact wb _ _ (frz_row (o := ⟨q, false, 1, qs⟩) rfl rfl (by simp [hL]) (ltL_I 0 _) hqs))
     repeat (first | (apply ef_mv; exact rfl; exact rfl) | (apply ef_gy; exact rfl; (exact (rfl : true = true))) | (apply ef_pick; (iterate 3 exact rfl)) | (apply ef_notF; exact rfl; exact rfl) | (apply ef_bsl; exact rfl; (repeat (apply XVs.cons; exact rfl)); exact XVs.nil; exact rfl) | apply ef_nil | apply seqQ.normal | (apply ef_condt; exact rfl; (exact (rfl : true = true))))
     (apply ef_app; (· exact rfl); (· exact rfl); (· exact rfl); (· exact rfl); (· exact rfl); (· exact rfl); (· (simp [hql])); (· exact rfl); (· (simp [hql]; omega)); (· (exact rfl)); (· exact rfl))
     repeat (first | apply ef_seq | (apply ef_mv; exact rfl; exact rfl) | apply ef_nil | apply seqQ.normal)
     (apply ef_call; (· exact rfl); (· ((repeat (apply XVs.cons; exact rfl)); exact XVs.nil)); · exact wcb _ _ (frz_row (o := ⟨q + 1, false, 1, qs ++ [I64 x.ti]⟩) rfl rfl (by simp [hL]) (ltL_I 0 _) (by simp [hqs])))
     repeat (first | (apply ef_mv; exact rfl; exact rfl) | (apply ef_gy; exact rfl; (exact (rfl : true = true))))
     (apply ef_call; (· exact rfl); (· ((repeat (apply XVs.cons; exact rfl)); exact XVs.nil)); · exact wca _ _ (frz_row (o := ⟨q + 1, false, 1, qs ++ [I64 x.ti]⟩) rfl rfl (by simp [hL]) (ltL_I 0 _) (by simp [hqs])))
     repeat (first | (apply ef_mv; exact rfl; exact rfl) | (apply ef_bin; (iterate 3 exact rfl); (((with_reducible refine bin_add (wrap_of ?_ ?_)) <;> omega))) | (apply ef_gy; exact rfl; (exact (rfl : true = true))) | (apply ef_pick; (iterate 3 exact rfl)) | (apply ef_notT; exact rfl; exact rfl) | apply ef_nil | apply seqQ.normal | apply blockQ.normal | apply ef_skip | (apply ef_condf; exact rfl; (exact (rfl : false = false))))
     (refine loopQ.normal _ _ ⟨(i + 1, (Q ++ [x.ti], L + 1, qs ++ [I64 x.ti]), q + 1, true), ⟨HA.out (.inl ⟨rfl, rfl⟩) ha hb _, (by simp [hL]), (by simp [hqs])⟩, (by first | (simp only; omega) | omega), ⟨by ((repeat (refine Hold.cons (by exact rfl) ?_)); exact Hold.nil), by ((repeat (refine Hold.cons (by exact rfl) ?_)); exact Hold.nil)⟩, .inr ⟨by ((repeat (refine hdl_cons rfl (by first | rfl | (simp [MV.lt, ltL, ltL_Ln, ltL_Cr, ltL_I, hlr, ltL_app2, splice, MV.cells])) ?_)); exact hdl_nil), by (simp [hltL, ltL, MV.lt, ltL, ltL_Ln, ltL_Cr, ltL_I, hlr, ltL_app2, splice, MV.cells])⟩, by exact rfl⟩)
   ·have wa := wq _ _ (hnan _ ha)
    by_cases hb : x.ti ∈ Q
    ·have wb := wq _ _ (hany _ hb)
     repeat (first | apply ef_seq | (apply ef_mv; exact rfl; exact rfl) | (apply ef_bin; (iterate 3 exact rfl); (exact cmp_t rfl (by first | exact rfl | (simp only [cmpP]; omega)))) | (apply ef_len; exact rfl; exact rfl; (assumption)) | (apply ef_ldr; exact rfl; exact rfl; (exact rfl)) | (apply ef_ldp; exact rfl; exact rfl; (exact rfl); exact rfl; (exact rfl); (exact rfl)) | (apply ef_ias; (iterate 3 exact rfl); (omega); assumption; exact rfl) | (apply ef_fap; exact rfl; exact rfl) | (apply ef_far; exact rfl; exact rfl) | apply ef_nil | apply seqQ.normal | apply ef_block | apply ef_skip | (apply ef_condt; exact rfl; (exact (rfl : true = true))))
     (apply ef_call; (· exact rfl); (· ((repeat (apply XVs.cons; exact rfl)); exact XVs.nil)); · exact wa _ _ (frz_row (o := ⟨q, false, 1, qs⟩) rfl rfl (by simp [hL]) (ltL_I 0 _) hqs))
     repeat (first | apply ef_seq | (apply ef_mv; exact rfl; exact rfl) | (apply ef_gn; exact rfl; (exact (rfl : false = false)); exact rfl) | (apply ef_pick; (iterate 3 exact rfl)) | apply ef_nil | apply seqQ.normal | apply ef_skip | (apply ef_condf; exact rfl; (exact (rfl : false = false))))
     (apply ef_call; (· exact rfl); (· ((repeat (apply XVs.cons; exact rfl)); exact XVs.nil)); · exact wb _ _ (frz_row (o := ⟨q, false, 1, qs⟩) rfl rfl (by simp [hL]) (ltL_I 0 _) hqs))
     repeat (first | (apply ef_mv; exact rfl; exact rfl) | (apply ef_gy; exact rfl; (exact (rfl : true = true))))
     (apply ef_call; (· exact rfl); (· ((repeat (apply XVs.cons; exact rfl)); exact XVs.nil)); · exact wa _ _ (frz_row (o := ⟨q, false, 1, qs⟩) rfl rfl (by simp [hL]) (ltL_I 0 _) hqs))
     repeat (first | (apply ef_mv; exact rfl; exact rfl) | (apply ef_gy; exact rfl; (exact (rfl : true = true))) | (apply ef_pick; (iterate 3 exact rfl)) | (apply ef_notF; exact rfl; exact rfl) | (apply ef_bsl; exact rfl; (repeat (apply XVs.cons; exact rfl)); exact XVs.nil; exact rfl) | apply ef_nil | apply seqQ.normal | (apply ef_condt; exact rfl; (exact (rfl : true = true))))
     (apply ef_app; (· exact rfl); (· exact rfl); (· exact rfl); (· exact rfl); (· exact rfl); (· exact rfl); (· (simp [hql])); (· exact rfl); (· (simp [hql]; omega)); (· (exact rfl)); (· exact rfl))
     repeat (first | (apply ef_mv; exact rfl; exact rfl) | (apply ef_bin; (iterate 3 exact rfl); (((with_reducible refine bin_add (wrap_of ?_ ?_)) <;> omega))) | apply ef_nil | apply seqQ.normal | apply blockQ.normal)
     (refine loopQ.normal _ _ ⟨(i + 1, (Q ++ [x.ln], L + 1, qs ++ [I64 x.ln]), q + 1, true), ⟨HA.out (.inr ⟨rfl, rfl⟩) hb ha _, (by simp [hL]), (by simp [hqs])⟩, (by first | (simp only; omega) | omega), ⟨by ((repeat (refine Hold.cons (by exact rfl) ?_)); exact Hold.nil), by ((repeat (refine Hold.cons (by exact rfl) ?_)); exact Hold.nil)⟩, .inr ⟨by ((repeat (refine hdl_cons rfl (by first | rfl | (simp [MV.lt, ltL, ltL_Ln, ltL_Cr, ltL_I, hlr, ltL_app2, splice, MV.cells])) ?_)); exact hdl_nil), by (simp [hltL, ltL, MV.lt, ltL, ltL_Ln, ltL_Cr, ltL_I, hlr, ltL_app2, splice, MV.cells])⟩, by exact rfl⟩)
    ·have wb := wq _ _ (hnan _ hb)
     repeat (first | apply ef_seq | (apply ef_mv; exact rfl; exact rfl) | (apply ef_bin; (iterate 3 exact rfl); (exact cmp_t rfl (by first | exact rfl | (simp only [cmpP]; omega)))) | (apply ef_len; exact rfl; exact rfl; (assumption)) | (apply ef_ldr; exact rfl; exact rfl; (exact rfl)) | (apply ef_ldp; exact rfl; exact rfl; (exact rfl); exact rfl; (exact rfl); (exact rfl)) | (apply ef_ias; (iterate 3 exact rfl); (omega); assumption; exact rfl) | (apply ef_fap; exact rfl; exact rfl) | (apply ef_far; exact rfl; exact rfl) | apply ef_nil | apply seqQ.normal | apply ef_block | apply ef_skip | (apply ef_condt; exact rfl; (exact (rfl : true = true))))
     (apply ef_call; (· exact rfl); (· ((repeat (apply XVs.cons; exact rfl)); exact XVs.nil)); · exact wa _ _ (frz_row (o := ⟨q, false, 1, qs⟩) rfl rfl (by simp [hL]) (ltL_I 0 _) hqs))
     repeat (first | apply ef_seq | (apply ef_mv; exact rfl; exact rfl) | (apply ef_gn; exact rfl; (exact (rfl : false = false)); exact rfl) | (apply ef_pick; (iterate 3 exact rfl)) | apply ef_nil | apply seqQ.normal | apply ef_skip | (apply ef_condf; exact rfl; (exact (rfl : false = false))))
     (apply ef_call; (· exact rfl); (· ((repeat (apply XVs.cons; exact rfl)); exact XVs.nil)); · exact wb _ _ (frz_row (o := ⟨q, false, 1, qs⟩) rfl rfl (by simp [hL]) (ltL_I 0 _) hqs))
     repeat (first | (apply ef_mv; exact rfl; exact rfl) | (apply ef_bin; (iterate 3 exact rfl); (((with_reducible refine bin_add (wrap_of ?_ ?_)) <;> omega))) | (apply ef_gn; exact rfl; (exact (rfl : false = false)); exact rfl) | (apply ef_pick; (iterate 3 exact rfl)) | apply ef_nil | apply seqQ.normal | apply blockQ.normal | apply ef_skip | (apply ef_condf; exact rfl; (exact (rfl : false = false))))
     (refine loopQ.normal _ _ ⟨(i + 1, (Q, L, qs), q, f), ⟨HS.out ⟨fun h => absurd h ha, fun h => absurd h hb⟩, hL, hqs⟩, (by first | (simp only; omega) | omega), ⟨by ((repeat (refine Hold.cons (by exact rfl) ?_)); exact Hold.nil), by ((repeat (refine Hold.cons (by exact rfl) ?_)); exact Hold.nil)⟩, .inr ⟨by ((repeat (refine hdl_cons rfl (by first | rfl | (simp [MV.lt, ltL, ltL_Ln, ltL_Cr, ltL_I, hlr])) ?_)); exact hdl_nil), by first | rfl | (simp [hltL, ltL, MV.lt, ltL, ltL_Ln, ltL_Cr, ltL_I, hlr])⟩, by first | exact rfl | (simp only [List.map_append, List.map_set]; exact rfl)⟩)
  ·obtain rfl : i = n.cs.length := by omega
   repeat (first | apply ef_seq | (apply ef_mv; exact rfl; exact rfl) | (apply ef_bin; (iterate 3 exact rfl); (exact cmp_f rfl (by simp only [cmpP]; omega))) | (apply ef_len; exact rfl; exact rfl; (assumption)) | (apply ef_ldp; exact rfl; exact rfl; (exact rfl); exact rfl; (exact rfl); (exact rfl)) | (apply ef_fap; exact rfl; exact rfl) | apply ef_nil | apply seqQ.normal | apply loopQ.exit | apply ef_exit | apply seqQ.exit | apply blockQ.normal | apply blockQ.here | (apply ef_condf; exact rfl; (exact (rfl : false = false))))
   (refine loopQ.normal _ _ ⟨((Q, L, qs), q, f), ⟨⟨HI.out.ji, HI.out.cl⟩, hL, hqs⟩, (by cases f <;> simp at hf1 ⊢ <;> omega), ⟨by ((repeat (refine Hold.cons (by exact rfl) ?_)); exact Hold.nil), by ((repeat (refine Hold.cons (by exact rfl) ?_)); exact Hold.nil)⟩, .inr ⟨by ((repeat (refine hdl_cons rfl (by first | rfl | (simp [MV.lt, ltL, ltL_Ln, ltL_Cr, ltL_I, hlr])) ?_)); exact hdl_nil), by first | rfl | (simp [hltL, ltL, MV.lt, ltL, ltL_Ln, ltL_Cr, ltL_I, hlr])⟩, by first | exact rfl | (simp only [List.map_append, List.map_set]; exact rfl)⟩)
theorem IsJoined_c (k : Nat) (n : Nt) (ok : OkN n) (h : MHeap) : orA (k + 2) 42 [encN n] h = some (Bo (jnB n), h) :=
 callL (args' := [encN n]) (frzL_lt (by simp [ltL, MV.lt, ltL_Ln, ltL_Cr])) rfl (IsJoined_z k n ok)
theorem mf_JoinedErr : MT.mf 8 = some ⟨12, [(.tmp 2)], (.seq (.reg [gO 1 (.box 2 (.s 0)), gO 2 (.mv (cI 0))]) (.seq (.seq (.reg [gO 4 (.ld (some 2) (.s 1)), gO 5 (.call 14 [.s 4]), gO 3 (.mv (.s 5))]) (.seq (.reg [gO 6 (.mv (.s 3)), gO 7 (.bin .neq (.s 6) (cI 0))]) (.cond (.s 7) (.seq (.reg [gO 8 (.mv (.s 3)), gO 2 (.mv (.s 8))]) .ret) .skip))) (.seq (.seq (.reg [gO 9 (.ld (some 2) (.s 1)), gO 10 (.call 42 [.s 9]), gO 11 (.un .not (.s 10))]) (.cond (.s 11) (.seq (.reg [gO 2 (.mv (cI 21))]) .ret) .skip)) (.seq (.reg [gO 2 (.mv (cI 0))]) .ret))))⟩ := by kernel_rfl
theorem JoinedErr_c (k : Nat) (n : Nt) (hb : BdN n) (h : MHeap) : orA (k + 5) 8 [encN n] h = some (I64 (joE n), h) := by
 refine callL (args' := [encN n]) (frzL_lt (by simp [ltL, MV.lt, ltL_Ln, ltL_Cr])) rfl (runZ_of mf_JoinedErr (by simp) ?_)
 simp only [argsL]
 have w1 := fun h => NetErr_c k n hb h
 by_cases h0 : (netF n).2 = 0
 ·have w2 := fun h => IsJoined_c (k + 2) n (net_ok h0) h
  have HJ := Bx.mk (show joE n = (if jnB n then 0 else 21) by unfold joE; rw [if_pos h0])
  rw [h0] at w1
  cases hj : jnB n
  all_goals rw [hj] at w2 HJ
  all_goals repeat (first | apply ef_seq | (apply ef_mv; exact rfl; exact rfl) | (apply ef_bin; (iterate 3 exact rfl); (exact cmp_f rfl (by simp only [cmpP]; omega))) | (apply ef_ldp; exact rfl; exact rfl; (exact rfl); exact rfl; (exact rfl); (exact rd_2 rfl rfl)) | (apply ef_notT; exact rfl; exact rfl) | (apply ef_notF; exact rfl; exact rfl) | (apply ef_box; (iterate 4 exact rfl)) | apply ef_nil | apply seqQ.normal | apply ef_ret | apply seqQ.ret | apply ef_skip | (apply ef_condt; exact rfl; (exact (rfl : true = true))) | (apply ef_condf; exact rfl; (exact (rfl : false = false))) | (apply ef_call; exact rfl; ((repeat (apply XVs.cons; exact rfl)); exact XVs.nil); (with_reducible first | exact w1 _ | exact w2 _)))
  all_goals (refine fin1 rfl (by exact rfl) rfl ?_)
  all_goals (rw [HJ.out]; rfl)
 ·have HJ := Bx.mk (show joE n = (netF n).2 by unfold joE; rw [if_neg h0])
  generalize (netF n).2 = e at *
  repeat (first | apply ef_seq | (apply ef_mv; exact rfl; exact rfl) | (apply ef_bin; (iterate 3 exact rfl); (exact cmp_t rfl (by first | exact rfl | (simp only [cmpP]; omega)))) | (apply ef_ldp; exact rfl; exact rfl; (exact rfl); exact rfl; (exact rfl); (exact rd_2 rfl rfl)) | (apply ef_box; (iterate 4 exact rfl)) | apply ef_nil | apply seqQ.normal | apply ef_ret | apply seqQ.ret | (apply ef_condt; exact rfl; (exact (rfl : true = true))) | (apply ef_call; exact rfl; ((repeat (apply XVs.cons; exact rfl)); exact XVs.nil); (with_reducible exact w1 _)))
  (refine fin1 rfl (by exact rfl) rfl ?_)
  rw [HJ.out]
end Go.Proofs.YtfchdbghjeophaaGreatDoor

/- A slice of the call's own is given up. -/
namespace Go.Proofs.YtfchdbghjeophaaGreatDoor
open Go.RowKit
set_option linter.unusedVariables false
theorem giveV_arr {lk : Nat → Bool} {h : MHeap} {id k sz : Nat} {nl : Bool} {es : List MV} (ho : h[id]? = some ⟨0, nl, sz, es⟩) (hk : k = es.length) (hl : ltL 0 es = true) (h1 : lk id = false) : giveV lk h (.arr id 0 k 0) = some (.sl es, h.set id ⟨1, nl, sz, []⟩) := by
 have hids : MV.ids h 6 (.arr id 0 k 0) = [id] := by
  have e2 : MV.ids h 6 (.arr id 0 k 0) = id :: (match h[id]? with | some o => o.es.flatMap (MV.ids h 5) | none => []) := rfl
  rw [ho] at e2
  dsimp only at e2
  rw [idsL_lt0 hl] at e2
  exact e2
 have hmap : (h.mapIdx fun i p => if ([id] : List Nat).contains i then (⟨p.g + 1, p.nl, p.sz, []⟩ : MObj) else p) = h.set id ⟨1, nl, sz, []⟩ := by
  apply List.ext_getElem?
  intro j
  rw [List.getElem?_mapIdx, List.getElem?_set]
  by_cases e : j = id
  ·subst e
   rw [if_pos rfl, if_pos (List.getElem?_eq_some_iff.1 ho).1, ho]
   simp
  ·rw [if_neg (by omega)]
   cases h[j]? <;> simp [e]
 have himp : ((List.range h.length).filter fun i => !([id] : List Nat).contains i).contains id = false := by
  rw [Bool.eq_false_iff]
  intro hc
  simp only [List.contains_iff_mem, List.mem_filter] at hc
  simpa using hc.2
 have hfr : frz 0 ((List.range h.length).filter fun i => !([id] : List Nat).contains i) h 8 (.arr id 0 k 0) = some (.sl es) := by
  have h3 : es.take k = es := List.take_of_length_le (by omega)
  simp only [frz, MV.lt, Nat.not_lt_zero, decide_false, Bool.false_eq_true, if_false, himp, ho]
  simp only [hl, if_true, List.drop_zero, h3]
  simp; omega
 unfold giveV
 rw [hids, hfr]
 simp only [hmap]
 simp [h1]
end Go.Proofs.YtfchdbghjeophaaGreatDoor

/- Contracts: residuals, the cost and the corrected net; the program, and the document; equal nets. -/
namespace Go.Proofs.YtfchdbghjeophaaGreatDoor
open Go.RowKit
set_option linter.unusedVariables false
set_option linter.unusedSimpArgs false
theorem OkC.okB {m : Nat} {c : List Int} (h : OkC m c) : OkB m c := ⟨h.len, fun v => by have := h.at v; omega⟩
theorem bothE_ok {n : Nt} {c : List Int} (h : bothE n c = 0) : (netF n).2 = 0 ∧ OkN n ∧ OkC n.ls.length c := by
 obtain ⟨h1, h2, h3⟩ := both_ok h
 exact ⟨h3, h1, h2⟩
abbrev nilN : MV := .agg [.lit (.slice none 0 0), .lit (.slice none 0 0)]
theorem mf_cor1 : MT.mf 47 = some mfW_l84 := by kernel_rfl
theorem cor1_c (k : Nat) (z : Int) (h : MHeap) : orA (k + 3) 47 [I64 z] h = some (Bo (anB z), h) := by
 refine callL (args' := [I64 z]) (frzL_lt rfl) rfl (runZ_of mf_cor1 (by simp) ?_)
 simp only [argsL]
 have hw := fun h => isSized_c k z 10000 h (by omega) (by omega) rfl
 unfold anB
 have e : inB z (-10000) 10000 = inB z (-(10000 : Int)) 10000 := rfl
 rw [e]
 generalize inB z (-(10000 : Int)) 10000 = b at hw
 repeat (first | apply ef_seq | (apply ef_mv; exact rfl; exact rfl) | (apply ef_not; (iterate 3 exact rfl)) | apply ef_nil | apply seqQ.normal | apply ef_ret | (apply ef_call; exact rfl; ((repeat (apply XVs.cons; exact rfl)); exact XVs.nil); (with_reducible exact hw _)))
 (refine fin1 rfl (by exact rfl) rfl ?_)
 rfl
def corE (n : Nt) (c : List Int) : Int := if bothE n c = 0 then (if (resL n c).any anB then 8 else 0) else bothE n c
def corV (n : Nt) (c : List Int) : MV := if corE n c = 0 then encN (nW n (resL n c)) else nilN
theorem mf_Corrected : MT.mf 11 = some ⟨29, [(.cell 4 (some 2)), (.tmp 5)], (.seq (.reg [gO 2 (.box 2 (.s 0)), gO 4 (.new (.agg [(.lit (.slice none 0 0)), (.lit (.slice none 0 0))])), gO 5 (.mv (cI 0))]) (.seq (.reg [gO 10 (.ld (some 2) (.s 2)), gO 11 (.mv (.s 1)), gO 12 (.call 44 [.s 10, .s 11]), gO 9 (.mv (.s 12)), gO 13 (.ext (.s 9) 0), gO 14 (.ext (.s 9) 1), gO 6 (.new (.agg [(.lit (.slice none 0 0)), (.lit (.slice none 0 0))])), ⟨none, none, .st 2 (.s 6) (.s 13)⟩, gO 7 (.mv (.s 14))]) (.seq (.seq (.reg [gO 15 (.mv (.s 7)), gO 16 (.bin .neq (.s 15) (cI 0))]) (.cond (.s 16) (.seq (.reg [gO 17 (.build [(.lit (.slice none 0 0)), (.lit (.slice none 0 0))] []), gO 18 (.mv (.s 7)), ⟨none, none, .st 2 (.s 4) (.s 17)⟩, gO 5 (.mv (.s 18))]) .ret) .skip)) (.seq (.reg [gO 19 (.ld (some 2) (.s 6)), gO 20 (.mv (.s 1)), gO 21 (.call 45 [.s 19, .s 20]), gO 8 (.mv (.s 21))]) (.seq (.seq (.reg [gO 22 (.mv (.s 8)), gO 23 (.call 46 [.s 22, (.c (.fn 47 0 []))])]) (.cond (.s 23) (.seq (.reg [gO 24 (.build [(.lit (.slice none 0 0)), (.lit (.slice none 0 0))] []), ⟨none, none, .st 2 (.s 4) (.s 24)⟩, gO 5 (.mv (cI 8))]) .ret) .skip)) (.seq (.give 8 (.reg [gO 25 (.ld (some 2) (.s 6)), gO 26 (.mv (.s 8)), gO 27 (.call 49 [.s 25, .s 26]), gO 28 (.fd 0 (some 2) (.s 27)), ⟨none, none, .st 2 (.s 4) (.s 28)⟩, gO 5 (.mv (cI 0))])) .ret))))))⟩ := by kernel_rfl
theorem Corrected_c (k : Nat) (n : Nt) (hb : BdN n) (c : List Int) (hc : c.length ≤ 1000) (h : MHeap) (hh : ltL 0 [encN n, .sl (c.map I64)] = true) :
  orA (k + 8) 11 [encN n, .sl (c.map I64)] h = some (.tup [corV n c, I64 (corE n c)], h) := by
 have hz : runZ MT (orA (k + 7)) (itA (k + 7)) 4000000 11 [encN n, .sl (c.map I64)] [] = some (.tup [corV n c, I64 (corE n c)], []) := by
  have w1 := fun h => openCorr_c k n hb c hc h
  refine runZ_of mf_Corrected (by simp) ?_
  simp only [argsL]
  have HV := Bx.mk (show corV n c = if corE n c = 0 then encN (nW n (resL n c)) else nilN from rfl)
  have HE := Bx.mk (show corE n c = if bothE n c = 0 then (if (resL n c).any anB then 8 else 0) else bothE n c from rfl)
  by_cases h0 : bothE n c = 0
  ·obtain ⟨hn, ok, okc⟩ := bothE_ok h0
   have hrl : (resL n c).length = n.cs.length := by simp [resL]
   have c16 := ok.c16
   have l8 := ok.l8
   have w2 := fun h => residuals_c (k + 6) n c (by omega) ok.rg okc (by omega) h
   have w3 := fun h b v hv ht => ContainsFuncI_c (k + 5) 47 [] anB (resL n c) h (v := v) (fv := .fn 47 0 []) (t := b) (by omega) (fun z _ h => cor1_c (k + 2) z h) rfl hv rfl ht
   have w4 := fun h => withN_c (k + 5) n ok.l1 (by omega) (by omega) (resL n c) hrl h
   rw [h0] at w1
   cases hab : (resL n c).any anB
   ·have e1 : corE n c = 0 := by rw [HE.out, if_pos h0, hab]; rfl
    have e2 : corV n c = encN (nW n (resL n c)) := by rw [HV.out, if_pos e1]
    rw [e2, e1]
    clear e1 e2
    repeat (first | apply ef_seq | (apply ef_mv; exact rfl; exact rfl) | (apply ef_bin; (iterate 3 exact rfl); (exact cmp_f rfl (by simp only [cmpP]; omega))) | (apply ef_ldp; exact rfl; exact rfl; (exact rfl); exact rfl; (exact rfl); (exact rd_2 rfl rfl)) | (apply ef_ext; (iterate 3 exact rfl)) | (apply ef_box; (iterate 4 exact rfl)) | (apply ef_new; exact rfl) | (apply ef_st; (iterate 6 exact rfl); (exact rfl); exact rfl) | apply ef_nil | apply seqQ.normal | apply ef_skip | (apply ef_condf; exact rfl; (exact (rfl : false = false))) | (apply ef_call; exact rfl; ((repeat (apply XVs.cons; exact rfl)); exact XVs.nil); (with_reducible first | exact w1 _ | exact w2 _)))
    (apply ef_call; (· exact rfl); (· ((repeat (apply XVs.cons; exact rfl)); exact XVs.nil)); · exact w3 _ false _ (frz_row (o := ⟨0, decide (n.cs.length = 0), 1, (resL n c).map I64⟩) rfl rfl (by simp [hrl]) (ltL_I 0 _) rfl) hab)
    repeat (first | apply ef_seq | apply ef_nil | apply seqQ.normal | apply ef_skip | (apply ef_condf; exact rfl; (exact (rfl : false = false))))
    refine ef_givev rfl (by exact rfl) (giveV_arr (es := (resL n c).map I64) rfl (by simp [hrl]) (ltL_I 0 _) rfl) ?_
    repeat (first | (apply ef_mv; exact rfl; exact rfl) | (apply ef_ldp; exact rfl; exact rfl; (exact rfl); exact rfl; (exact rfl); (exact rd_2 rfl rfl)) | (apply ef_fd; exact rfl; exact rfl; (exact rd_2 rfl rfl)) | (apply ef_st; (iterate 6 exact rfl); (exact rfl); exact rfl) | apply ef_nil | apply seqQ.normal | apply ef_ret | (apply ef_call; exact rfl; ((repeat (apply XVs.cons; exact rfl)); exact XVs.nil); (with_reducible exact w4 _)))
    (apply fin_res2; (· exact rfl); (· exact ⟨1, 0, 0, 0, _, _, by exact rfl, by exact rfl, rfl, rfl, rd_2 rfl rfl⟩); (· exact rfl); (· exact ltL_N _ 0); (· rfl))
   ·have e1 : corE n c = 8 := by rw [HE.out, if_pos h0, hab]; rfl
    have e2 : corV n c = nilN := by rw [HV.out, if_neg (by rw [e1]; decide)]
    rw [e2, e1]
    clear e1 e2
    repeat (first | apply ef_seq | (apply ef_mv; exact rfl; exact rfl) | (apply ef_bin; (iterate 3 exact rfl); (exact cmp_f rfl (by simp only [cmpP]; omega))) | (apply ef_ldp; exact rfl; exact rfl; (exact rfl); exact rfl; (exact rfl); (exact rd_2 rfl rfl)) | (apply ef_ext; (iterate 3 exact rfl)) | (apply ef_box; (iterate 4 exact rfl)) | (apply ef_new; exact rfl) | (apply ef_st; (iterate 6 exact rfl); (exact rfl); exact rfl) | apply ef_nil | apply seqQ.normal | apply ef_skip | (apply ef_condf; exact rfl; (exact (rfl : false = false))) | (apply ef_call; exact rfl; ((repeat (apply XVs.cons; exact rfl)); exact XVs.nil); (with_reducible first | exact w1 _ | exact w2 _)))
    (apply ef_call; (· exact rfl); (· ((repeat (apply XVs.cons; exact rfl)); exact XVs.nil)); · exact w3 _ true _ (frz_row (o := ⟨0, decide (n.cs.length = 0), 1, (resL n c).map I64⟩) rfl rfl (by simp [hrl]) (ltL_I 0 _) rfl) hab)
    repeat (first | apply ef_seq | (apply ef_mv; exact rfl; exact rfl) | (apply ef_build; exact rfl; (repeat (apply XVs.cons; exact rfl)); exact XVs.nil; exact rfl; exact rfl) | (apply ef_st; (iterate 6 exact rfl); (exact rfl); exact rfl) | apply ef_nil | apply seqQ.normal | apply ef_ret | apply seqQ.ret | (apply ef_condt; exact rfl; (exact (rfl : true = true))))
    (apply fin_res2; (· exact rfl); (· exact ⟨1, 0, 0, 0, _, _, by exact rfl, by exact rfl, rfl, rfl, rd_2 rfl rfl⟩); (· exact rfl); (· exact rfl); (· rfl))
  ·have e1 : corE n c = bothE n c := by rw [HE.out, if_neg h0]
   have e2 : corV n c = nilN := by rw [HV.out, if_neg (by rw [e1]; exact h0)]
   rw [e2, e1]
   clear e1 e2
   generalize bothE n c = e at *
   repeat (first | apply ef_seq | (apply ef_mv; exact rfl; exact rfl) | (apply ef_bin; (iterate 3 exact rfl); (exact cmp_t rfl (by first | exact rfl | (simp only [cmpP]; omega)))) | (apply ef_ldp; exact rfl; exact rfl; (exact rfl); exact rfl; (exact rfl); (exact rd_2 rfl rfl)) | (apply ef_ext; (iterate 3 exact rfl)) | (apply ef_box; (iterate 4 exact rfl)) | (apply ef_new; exact rfl) | (apply ef_build; exact rfl; (repeat (apply XVs.cons; exact rfl)); exact XVs.nil; exact rfl; exact rfl) | (apply ef_st; (iterate 6 exact rfl); (exact rfl); exact rfl) | apply ef_nil | apply seqQ.normal | apply ef_ret | apply seqQ.ret | (apply ef_condt; exact rfl; (exact (rfl : true = true))) | (apply ef_call; exact rfl; ((repeat (apply XVs.cons; exact rfl)); exact XVs.nil); (with_reducible exact w1 _)))
   (apply fin_res2; (· exact rfl); (· exact ⟨1, 0, 0, 0, _, _, by exact rfl, by exact rfl, rfl, rfl, rd_2 rfl rfl⟩); (· exact rfl); (· exact rfl); (· rfl))
 have := callA (k := k + 7) (h := h) (frzL_lt (ms := [encN n, .sl (c.map I64)]) hh) rfl hz (by unfold corV; split <;> simp [okV, ok1, MV.lt, ltL, ltL_Ln, ltL_Cr, ltL_I]) rfl
 by_cases e : corE n c = 0
 ·have e2 : corV n c = encN (nW n (resL n c)) := by unfold corV; rw [if_pos e]
  rw [e2] at this ⊢
  simpa [shV, sh1] using this
 ·have e2 : corV n c = nilN := by unfold corV; rw [if_neg e]
  rw [e2] at this ⊢
  simpa [shV, sh1] using this
end Go.Proofs.YtfchdbghjeophaaGreatDoor

/- Calls whose answer is frozen, as the memory of the caller says. -/
namespace Go.Proofs.YtfchdbghjeophaaGreatDoor
open Go.RowKit
set_option linter.unusedVariables false
noncomputable def orP (L : Nat → MHeap → Bool) (k : Nat) : Oracle := fun f args h =>
 if L f h then frzCall (frzRun (tabZ MT tA (orA k) (itA k) 4000000 f)) args h else orA (k + 1) f args h
theorem orP_ok (L : Nat → MHeap → Bool) (k : Nat) : SoundO Tryz.prog (orP L k) ∧ AppO (orP L k) := by
 have hz := fun k => orZ_ok (N := 4000000) (P := Tryz.prog) (by kernel_rfl) (tabOf_ok Tryz.prog) tA_ok tI_ok k
 have hI : SoundI Tryz.prog (itA k) := orI_ok (by kernel_rfl) (tabOf_ok Tryz.prog) tI_ok (hz k).1 (hz k).2
 have hrun : ∀ f args' m news, frzRun (tabZ MT tA (orA k) (itA k) 4000000 f) args' = some (m, news) → hasBody Tryz.prog f = true ∧ ∀ E w vs, HRel E [] w → Vs E w args' vs → Calls Tryz.prog f vs.toArray w (Post E w m news) := fun f args' m news he => by
  unfold frzRun at he
  split at he
  case h_2 => cases he
  rename_i m0 n0 h0
  split at he
  case h_2 => cases he
  rename_i m1 h1
  cases he
  obtain ⟨hb, hc⟩ := tabZ_ok (by kernel_rfl) (tabOf_ok Tryz.prog) tA_ok (hz k).1 (hz k).2 hI h0
  exact ⟨hb, fun E w vs hr hv => (hc E w vs hr hv).mono fun e w' hP => post_frz hr h1 hP⟩
 refine ⟨⟨fun f args h m h' he => ?_, tA_ok.2⟩, fun f args h m h' he => ?_⟩
 ·unfold orP at he
  split at he
  ·have hb : hasBody Tryz.prog f = true := by
    unfold frzCall at he
    split at he
    case h_2 => cases he
    split at he
    case h_2 => cases he
    rename_i hr
    exact (hrun _ _ _ _ hr).1
   exact ⟨hb, fun E w vs hr hv => frzCall_ok (fun args' m news hq => (hrun f args' m news hq).2) he hr hv⟩
  ·exact (hz (k + 1)).1.1 f args h m h' he
 ·unfold orP at he
  split at he
  ·exact frzCall_app he
  ·exact (hz (k + 1)).2 f args h m h' he
theorem orP_of {L : Nat → MHeap → Bool} {k f : Nat} {args : List MV} {h : MHeap} {r : MV × MHeap} (hf : L f h = false) (h1 : orA (k + 1) f args h = some r) : orP L k f args h = some r := by
 unfold orP
 rw [hf]
 exact h1
theorem orP_frz {L : Nat → MHeap → Bool} {k f : Nat} {args args' : List MV} {h : MHeap} {m m' : MV} {news : MHeap} (hf : L f h = true) (h1 : args.mapM (frz 0 [] h 8) = some args') (hT : tA f args' [] = none) (h2 : runZ MT (orA k) (itA k) 4000000 f args' [] = some (m, news))
  (h3 : frz 0 [] news 8 m = some m') (h4 : okV (ltL 0 args) m' = true) (h5 : shV h.length m' = m') : orP L k f args h = some (m', h) := by
 unfold orP
 rw [hf]
 have e : tabZ MT tA (orA k) (itA k) 4000000 f args' = some (m, news) := by unfold tabZ; rw [hT]; exact h2
 simp only [if_true, frzCall, h1, frzRun, e, h3, h4, okH, List.all_nil, Bool.and_self, h5, List.append_nil]
end Go.Proofs.YtfchdbghjeophaaGreatDoor

/- LevelClosed: the walk. -/
namespace Go.Proofs.YtfchdbghjeophaaGreatDoor
open Go.RowKit
set_option linter.unusedVariables false
set_option linter.unusedSimpArgs false
theorem anB_bd {xs : List Int} (h : xs.any anB = false) (v : Int) : -10000 ≤ cAt xs v ∧ cAt xs v ≤ 10000 := by
 unfold cAt
 rw [List.getD_eq_getElem?_getD]
 cases hh : xs[v.toNat]? with
 | none => simp
 | some z =>
  have := List.any_eq_false.1 h z (List.mem_of_getElem? hh)
  unfold anB at this
  simp only [Bool.not_eq_true, Bool.not_eq_false'] at this
  simpa [inB_iff] using this
theorem BdN_nW {n : Nt} (hb : BdN n) (ds : List Int) : BdN (nW n ds) := by
 obtain ⟨a, b, c⟩ := hb
 exact ⟨a, by rw [show (nW n ds).cs.length = n.cs.length from wiU_len _ _ _]; exact b, c⟩
theorem closed_facts {n : Nt} (hb : BdN n) (h0 : joE n = 0) {c : List Int} (h1 : corE n c = 0) : BdN (nW n (resL n c)) ∧ joE (nW n (resL n c)) = 0 ∧ (netF (nW n (resL n c))).2 = 0 ∧ minC (nW n (resL n c)) = minC n ∧ limV (nW n (resL n c)) = limV n ∧ (∀ w, msF (nW n (resL n c)) w = msF n w) := by
 obtain ⟨hn, ok, hj⟩ := joE_ok h0
 have hbo : bothE n c = 0 := by
  unfold corE at h1
  split at h1
  ·assumption
  ·exact h1
 have han : (resL n c).any anB = false := by
  unfold corE at h1
  rw [if_pos hbo] at h1
  cases h : (resL n c).any anB
  ·rfl
  ·rw [h] at h1; cases h1
 have hbd := anB_bd han
 have hN := nW_net hn hbd
 have okN := nW_ok ok hbd
 have H := shf_res n c
 have hB : BdN (nW n (resL n c)) := BdN_nW hb _
 have hJ : joE (nW n (resL n c)) = 0 := by
  unfold joE
  rw [if_pos hN, (jnB_iff okN).2 (jn_shf H rfl hj)]; rfl
 refine ⟨hB, hJ, hN, minC_shf H ok okN, limV_eq hN (isLim_shf H (limV_is hb hn)), fun w => ?_⟩
 unfold msF
 rw [hN, hn, if_pos rfl, if_pos rfl, misF_shf H w]
def LP (f : Nat) (h : MHeap) : Bool := f == 12 || (f == 13 && h.length == 1)
theorem Copy_cp (k : Nat) (n : Nt) (hb : BdN n) (h : MHeap) : orP LP k 12 [encN n] h = some (encN n, h) :=
 orP_frz (args' := [encN n]) rfl (frzL_lt (by simp [ltL, MV.lt, ltL_Ln, ltL_Cr])) rfl (Copy_z k n hb) (frz_cp n.ls n.cs) (by simp [okV, ok1, MV.lt, ltL, ltL_Ln, ltL_Cr]) rfl
theorem CopyInts_cp (k : Nat) (c : List Int) (hc : c.length ≤ 1000000) (h : MHeap) (hl : h.length = 1) : orP LP k 13 [.sl (c.map I64)] h = some (.sl (c.map I64), h) :=
 orP_frz (args' := [.sl (c.map I64)]) (by unfold LP; rw [hl]; rfl) (frzL_lt (by simp [ltL, MV.lt, ltL_I])) rfl (bCopyInts_z k c hc) (frz_row (o := ⟨0, false, 1, c.map I64⟩) rfl rfl (by simp) (ltL_I 0 c) rfl) (by simp [okV, ok1, MV.lt, ltL, ltL_I]) rfl
theorem mf_LevelClosed : MT.mf 3 = some ⟨230, [(.tmp 6)], (.seq (.reg [gO 3 (.box 2 (.s 0)), gO 6 (.mv cF)]) (.seq (.seq (.reg [gO 30 (.call 6 []), gO 31 (.un .not (.s 30))]) (.cond (.s 31) (.seq (.reg [gO 6 (.mv cF)]) .ret) .skip)) (.seq (.seq (.reg [gO 32 (.ld (some 2) (.s 3)), gO 33 (.call 7 [.s 32]), gO 34 (.un .not (.s 33)), gO 35 (.mv (.s 34)), ⟨some (35, false), some 36, .ld (some 2) (.s 3)⟩, ⟨some (35, false), some 37, .call 8 [.s 36]⟩, ⟨some (35, false), some 38, .bin .neq (.s 37) (cI 0)⟩, gO 39 (.pick (.s 35) cT (.s 38)), gO 40 (.mv (.s 39)), ⟨some (40, false), some 41, .mv (.s 1)⟩, ⟨some (40, false), some 42, .call 9 [.s 41]⟩, ⟨some (40, false), some 43, .un .not (.s 42)⟩, gO 44 (.pick (.s 40) cT (.s 43)), gO 45 (.mv (.s 44)), ⟨some (45, false), some 46, .ld (some 2) (.s 3)⟩, ⟨some (45, false), some 47, .mv (.s 1)⟩, ⟨some (45, false), some 48, .call 10 [.s 46, .s 47]⟩, ⟨some (45, false), some 49, .bin .neq (.s 48) (cI 0)⟩, gO 50 (.pick (.s 45) cT (.s 49)), gO 51 (.mv (.s 50)), ⟨some (51, false), some 52, .mv (.s 2)⟩, ⟨some (51, false), some 53, .len (.s 52)⟩, ⟨some (51, false), some 54, .bin .gtr (.s 53) (cI 16)⟩, gO 55 (.pick (.s 51) cT (.s 54))]) (.cond (.s 55) (.seq (.reg [gO 6 (.mv cT)]) .ret) .skip)) (.seq (.reg [gO 57 (.ld (some 2) (.s 3)), gO 58 (.call 12 [.s 57]), gO 59 (.mv (.s 1)), gO 60 (.call 13 [.s 59]), gO 61 (.call 11 [.s 58, .s 60]), gO 56 (.mv (.s 61)), gO 62 (.ext (.s 56) 0), gO 63 (.ext (.s 56) 1), gO 7 (.new (.agg [(.lit (.slice none 0 0)), (.lit (.slice none 0 0))])), ⟨none, none, .st 2 (.s 7) (.s 62)⟩, gO 8 (.mv (.s 63))]) (.seq (.seq (.reg [gO 64 (.mv (.s 8)), gO 65 (.bin .neq (.s 64) (cI 0))]) (.cond (.s 65) (.seq (.reg [gO 66 (.mv (.s 8)), gO 67 (.bin .eql (.s 66) (cI 8)), gO 6 (.mv (.s 67))]) .ret) .skip)) (.seq (.seq (.reg [gO 68 (.ld (some 2) (.s 7)), gO 69 (.call 14 [.s 68]), gO 70 (.bin .neq (.s 69) (cI 0)), gO 71 (.mv (.s 70)), ⟨some (71, false), some 72, .fa 1 (.s 7)⟩, ⟨some (71, false), some 73, .ld none (.s 72)⟩, ⟨some (71, false), some 74, .len (.s 73)⟩, ⟨some (71, false), some 75, .fa 1 (.s 3)⟩, ⟨some (71, false), some 76, .ld none (.s 75)⟩, ⟨some (71, false), some 77, .len (.s 76)⟩, ⟨some (71, false), some 78, .bin .neq (.s 74) (.s 77)⟩, gO 79 (.pick (.s 71) cT (.s 78)), gO 80 (.mv (.s 79)), ⟨some (80, false), some 81, .fa 0 (.s 7)⟩, ⟨some (80, false), some 82, .ld none (.s 81)⟩, ⟨some (80, false), some 83, .len (.s 82)⟩, ⟨some (80, false), some 84, .fa 0 (.s 3)⟩, ⟨some (80, false), some 85, .ld none (.s 84)⟩, ⟨some (80, false), some 86, .len (.s 85)⟩, ⟨some (80, false), some 87, .bin .neq (.s 83) (.s 86)⟩, gO 88 (.pick (.s 80) cT (.s 87))]) (.cond (.s 88) (.seq (.reg [gO 6 (.mv cF)]) .ret) .skip)) (.seq (.reg [gO 90 (.ld (some 2) (.s 3)), gO 91 (.call 12 [.s 90]), gO 92 (.call 15 [.s 91]), gO 89 (.mv (.s 92)), gO 93 (.ext (.s 89) 0), gO 94 (.ext (.s 89) 1), gO 95 (.ext (.s 89) 2), gO 9 (.mv (.s 93)), gO 10 (.mv (.s 94)), gO 11 (.mv (.s 95))]) (.seq (.reg [gO 97 (.ld (some 2) (.s 7)), gO 98 (.call 12 [.s 97]), gO 99 (.call 15 [.s 98]), gO 96 (.mv (.s 99)), gO 100 (.ext (.s 96) 0), gO 101 (.ext (.s 96) 1), gO 102 (.ext (.s 96) 2), gO 12 (.mv (.s 100)), gO 13 (.mv (.s 101)), gO 14 (.mv (.s 102))]) (.seq (.reg [gO 104 (.ld (some 2) (.s 3)), gO 105 (.call 12 [.s 104]), gO 106 (.call 16 [.s 105]), gO 103 (.mv (.s 106)), gO 107 (.ext (.s 103) 0), gO 108 (.ext (.s 103) 1), gO 15 (.mv (.s 107)), gO 16 (.mv (.s 108))]) (.seq (.reg [gO 110 (.ld (some 2) (.s 7)), gO 111 (.call 12 [.s 110]), gO 112 (.call 16 [.s 111]), gO 109 (.mv (.s 112)), gO 113 (.ext (.s 109) 0), gO 114 (.ext (.s 109) 1), gO 17 (.mv (.s 113)), gO 18 (.mv (.s 114))]) (.seq (.seq (.reg [gO 115 (.mv (.s 11)), gO 116 (.bin .neq (.s 115) (cI 0)), gO 117 (.mv (.s 116)), ⟨some (117, false), some 118, .mv (.s 14)⟩, ⟨some (117, false), some 119, .bin .neq (.s 118) (cI 0)⟩, gO 120 (.pick (.s 117) cT (.s 119)), gO 121 (.mv (.s 120)), ⟨some (121, false), some 122, .mv (.s 10)⟩, ⟨some (121, false), some 123, .mv (.s 13)⟩, ⟨some (121, false), some 124, .bin .neq (.s 122) (.s 123)⟩, gO 125 (.pick (.s 121) cT (.s 124)), gO 126 (.mv (.s 125)), ⟨some (126, false), some 127, .mv (.s 16)⟩, ⟨some (126, false), some 128, .bin .neq (.s 127) (cI 0)⟩, gO 129 (.pick (.s 126) cT (.s 128)), gO 130 (.mv (.s 129)), ⟨some (130, false), some 131, .mv (.s 18)⟩, ⟨some (130, false), some 132, .bin .neq (.s 131) (cI 0)⟩, gO 133 (.pick (.s 130) cT (.s 132)), gO 134 (.mv (.s 133)), ⟨some (134, false), some 135, .mv (.s 15)⟩, ⟨some (134, false), some 136, .mv (.s 17)⟩, ⟨some (134, false), some 137, .bin .neq (.s 135) (.s 136)⟩, gO 138 (.pick (.s 134) cT (.s 137)), gO 139 (.mv (.s 138)), ⟨some (139, false), some 140, .mv (.s 15)⟩, ⟨some (139, false), some 141, .call 17 [.s 140, (cI 0), (cI 10000)]⟩, ⟨some (139, false), some 142, .un .not (.s 141)⟩, gO 143 (.pick (.s 139) cT (.s 142))]) (.cond (.s 143) (.seq (.reg [gO 6 (.mv cF)]) .ret) .skip)) (.seq (.reg [gO 145 (.ld (some 2) (.s 3)), gO 146 (.call 12 [.s 145]), gO 147 (.mv (.s 2)), gO 148 (.call 13 [.s 147]), gO 149 (.call 18 [.s 146, .s 148]), gO 144 (.mv (.s 149)), gO 150 (.ext (.s 144) 0), gO 151 (.ext (.s 144) 1), gO 19 (.mv (.s 150)), gO 20 (.mv (.s 151))]) (.seq (.reg [gO 153 (.ld (some 2) (.s 7)), gO 154 (.call 12 [.s 153]), gO 155 (.mv (.s 2)), gO 156 (.call 13 [.s 155]), gO 157 (.call 18 [.s 154, .s 156]), gO 152 (.mv (.s 157)), gO 158 (.ext (.s 152) 0), gO 159 (.ext (.s 152) 1), gO 21 (.mv (.s 158)), gO 22 (.mv (.s 159))]) (.seq (.seq (.reg [gO 160 (.mv (.s 20)), gO 161 (.mv (.s 22)), gO 162 (.bin .neq (.s 160) (.s 161)), gO 163 (.mv (.s 162)), ⟨some (163, false), some 164, .mv (.s 19)⟩, ⟨some (163, false), some 165, .mv (.s 21)⟩, ⟨some (163, false), some 166, .bin .neq (.s 164) (.s 165)⟩, gO 167 (.pick (.s 163) cT (.s 166))]) (.cond (.s 167) (.seq (.reg [gO 6 (.mv cF)]) .ret) .skip)) (.seq (.seq (.reg [gO 168 (.mv (.s 20)), gO 169 (.bin .neq (.s 168) (cI 0))]) (.cond (.s 169) (.seq (.reg [gO 6 (.mv cT)]) .ret) .skip)) (.seq (.reg [gO 23 (.mv (cI 0))]) (.seq (.reg [gO 170 (.ld (some 2) (.s 3)), gO 171 (.mv (.s 1)), gO 172 (.call 19 [.s 170, .s 171]), gO 24 (.mv (.s 172))]) (.seq (.seq (.reg [gO 25 (.mv (cI 0))]) (.block 0 (.loop [25, 24, 23, 19, 15, 2, 3] (.seq (.seq (.reg [gO 173 (.mv (.s 25)), gO 174 (.mv (.s 24)), gO 175 (.len (.s 174)), gO 176 (.bin .lss (.s 173) (.s 175))]) (.cond (.s 176) .skip (.exit 0))) (.seq (.block 1 (.reg [gO 179 (.mv (.s 23)), gO 180 (.mv (.s 24)), gO 181 (.mv (.s 25)), gO 182 (.ia 1 (.s 180) (.s 181)), gO 183 (.ld none (.s 182)), gO 184 (.call 20 [.s 183]), gO 185 (.mx (.s 179) (.s 184)), gO 23 (.mv (.s 185))])) (.reg [gO 177 (.mv (.s 25)), gO 178 (.bin .add (.s 177) (cI 1)), gO 25 (.mv (.s 178))])))))) (.seq (.seq (.reg [gO 186 (.mv (.s 19)), gO 187 (.call 20 [.s 186]), gO 188 (.mv (.s 15)), gO 189 (.mv (.s 2)), gO 190 (.len (.s 189)), gO 191 (.bin .mul (.s 188) (.s 190)), gO 192 (.bin .gtr (.s 187) (.s 191)), gO 193 (.mv (.s 192)), ⟨some (193, false), some 194, .mv (.s 19)⟩, ⟨some (193, false), some 195, .call 20 [.s 194]⟩, ⟨some (193, false), some 196, .mv (.s 23)⟩, ⟨some (193, false), some 197, .mv (.s 2)⟩, ⟨some (193, false), some 198, .len (.s 197)⟩, ⟨some (193, false), some 199, .bin .mul (.s 196) (.s 198)⟩, ⟨some (193, false), some 200, .bin .gtr (.s 195) (.s 199)⟩, gO 201 (.pick (.s 193) cT (.s 200))]) (.cond (.s 201) (.seq (.reg [gO 6 (.mv cF)]) .ret) .skip)) (.seq (.reg [gO 202 (.mv (.s 2)), gO 203 (.call 13 [.s 202]), gO 26 (.mv (.s 203))]) (.seq (.seq (.reg [gO 204 (.mv (.s 2)), gO 205 (.len (.s 204)), gO 206 (.bin .sub (.s 205) (cI 1)), gO 27 (.mv (.s 206))]) (.block 2 (.loop [27, 26, 2, 3] (.seq (.seq (.reg [gO 207 (.mv (.s 27)), gO 208 (.bin .geq (.s 207) (cI 0))]) (.cond (.s 208) .skip (.exit 2))) (.seq (.block 3 (.reg [gO 211 (.mv (.s 26)), gO 212 (.mv (.s 2)), gO 213 (.mv (.s 27)), gO 214 (.ia 1 (.s 212) (.s 213)), gO 215 (.ld none (.s 214)), gO 216 (.bsl (.lit (.int .i64 0)) 1 1 [(0, (.s 215))]), gO 217 (.app 1 (.s 211) (.s 216)), gO 26 (.mv (.s 217))])) (.reg [gO 209 (.mv (.s 27)), gO 210 (.bin .sub (.s 209) (cI 1)), gO 27 (.mv (.s 210))])))))) (.seq (.reg [gO 219 (.ld (some 2) (.s 3)), gO 220 (.mv (.s 26)), gO 221 (.call 18 [.s 219, .s 220]), gO 218 (.mv (.s 221)), gO 222 (.ext (.s 218) 0), gO 223 (.ext (.s 218) 1), gO 28 (.mv (.s 222)), gO 29 (.mv (.s 223))]) (.seq (.reg [gO 224 (.mv (.s 29)), gO 225 (.bin .eql (.s 224) (cI 0)), gO 226 (.mv (.s 225)), ⟨some (226, true), some 227, .mv (.s 28)⟩, ⟨some (226, true), some 228, .bin .eql (.s 227) (cI 0)⟩, gO 229 (.pick (.s 226) (.s 228) cF), gO 6 (.mv (.s 229))]) .ret)))))))))))))))))))))))⟩ := by kernel_rfl
abbrev wcH (n Y : Nt) (c w : List Int) : MHeap := [⟨0, false, 2, [encN n]⟩, ⟨0, false, 2, [encN Y]⟩, ⟨0, false, 1, (lgZ n 0).map I64⟩, ⟨0, false, 1, (lgZ Y 0).map I64⟩, ⟨0, false, 1, w.map I64⟩, ⟨0, false, 1, w.map I64⟩, ⟨0, decide (n.cs.length = 0), 1, (resL n c).map I64⟩]
set_option maxRecDepth 20000 in
set_option maxHeartbeats 8000000 in
theorem LevelClosed_z (n : Nt) (c w : List Int) (m1 : n.ls.length ≤ 9223372036854775807) (m2 : n.cs.length ≤ 9223372036854775807) (m3 : c.length ≤ 9223372036854775807) (m4 : w.length ≤ 9223372036854775807) :
  runZ MT (orP LP 13) (itA 14) 4000000 3 [encN n, .sl (c.map I64), .sl (w.map I64)] [] = some (Bo true, []) := by
 have hsw : (MV.sl (w.map I64)).slen = some w.length := by simp [MV.slen]
 have hs1 : (MV.sl (n.ls.map encLn)).slen = some n.ls.length := by simp [MV.slen]
 have hs2 : (MV.sl (n.cs.map encCr)).slen = some n.cs.length := by simp [MV.slen]
 refine runZ_of mf_LevelClosed (by simp) ?_
 simp only [argsL]
 have w0 : ∀ h, orP LP 13 6 [] h = some (Bo true, h) := fun h => orP_of rfl (awake_c h)
 have w1 : ∀ h, orP LP 13 7 [encN n] h = _ := fun h => orP_of rfl (Few_c 13 n m1 m2 h)
 cases hf : fewNt n
 ·rw [hf] at w1
  repeat (first | apply ef_seq | (apply ef_mv; exact rfl; exact rfl) | (apply ef_gn; exact rfl; (exact (rfl : true = true)); exact rfl) | (apply ef_pick; (iterate 3 exact rfl)) | (apply ef_ldp; exact rfl; exact rfl; (exact rfl); exact rfl; (exact rfl); (exact rd_2 rfl rfl)) | (apply ef_notT; exact rfl; exact rfl) | (apply ef_notF; exact rfl; exact rfl) | (apply ef_box; (iterate 4 exact rfl)) | apply ef_nil | apply seqQ.normal | apply ef_ret | apply seqQ.ret | apply ef_skip | (apply ef_condt; exact rfl; (exact (rfl : true = true))) | (apply ef_condf; exact rfl; (exact (rfl : false = false))) | (apply ef_call; exact rfl; ((repeat (apply XVs.cons; exact rfl)); exact XVs.nil); (with_reducible first | exact w0 _ | exact w1 _)))
  (refine fin1 rfl (by exact rfl) rfl ?_)
  rfl
 obtain ⟨hb, n10, n18⟩ := fewNt_bd hf
 rw [hf] at w1
 have w2 : ∀ h, orP LP 13 8 [encN n] h = _ := fun h => orP_of rfl (JoinedErr_c 9 n hb h)
 by_cases h0 : joE n = 0
 rotate_left
 ·generalize joE n = e at *
  repeat (first | apply ef_seq | (apply ef_mv; exact rfl; exact rfl) | (apply ef_bin; (iterate 3 exact rfl); (exact cmp_t rfl (by first | exact rfl | (simp only [cmpP]; omega)))) | (apply ef_gy; exact rfl; (exact (rfl : false = false))) | (apply ef_gn; exact rfl; (exact (rfl : true = true)); exact rfl) | (apply ef_pick; (iterate 3 exact rfl)) | (apply ef_ldp; exact rfl; exact rfl; (exact rfl); exact rfl; (exact rfl); (exact rd_2 rfl rfl)) | (apply ef_notT; exact rfl; exact rfl) | (apply ef_box; (iterate 4 exact rfl)) | apply ef_nil | apply seqQ.normal | apply ef_ret | apply seqQ.ret | apply ef_skip | (apply ef_condt; exact rfl; (exact (rfl : true = true))) | (apply ef_condf; exact rfl; (exact (rfl : false = false))) | (apply ef_call; exact rfl; ((repeat (apply XVs.cons; exact rfl)); exact XVs.nil); (with_reducible first | exact w0 _ | exact w1 _ | exact w2 _)))
  (refine fin1 rfl (by exact rfl) rfl ?_)
  rfl
 obtain ⟨hn, ok, hj⟩ := joE_ok h0
 have l1 := ok.l1
 have l8 := ok.l8
 have c16 := ok.c16
 have w3 : ∀ h, orP LP 13 9 [.sl (c.map I64)] h = _ := fun h => orP_of rfl (fewNumbers_c 13 c m3 h)
 by_cases hd1 : c.length ≤ 40
 rotate_left
 ·rw [decide_eq_false hd1] at w3
  rw [h0] at w2
  repeat (first | apply ef_seq | (apply ef_mv; exact rfl; exact rfl) | (apply ef_bin; (iterate 3 exact rfl); (exact cmp_f rfl (by simp only [cmpP]; omega))) | (apply ef_gy; exact rfl; (exact (rfl : false = false))) | (apply ef_gn; exact rfl; (exact (rfl : true = true)); exact rfl) | (apply ef_pick; (iterate 3 exact rfl)) | (apply ef_ldp; exact rfl; exact rfl; (exact rfl); exact rfl; (exact rfl); (exact rd_2 rfl rfl)) | (apply ef_notT; exact rfl; exact rfl) | (apply ef_notF; exact rfl; exact rfl) | (apply ef_box; (iterate 4 exact rfl)) | apply ef_nil | apply seqQ.normal | apply ef_ret | apply seqQ.ret | apply ef_skip | (apply ef_condt; exact rfl; (exact (rfl : true = true))) | (apply ef_condf; exact rfl; (exact (rfl : false = false))) | (apply ef_call; exact rfl; ((repeat (apply XVs.cons; exact rfl)); exact XVs.nil); (with_reducible first | exact w0 _ | exact w1 _ | exact w2 _ | exact w3 _)))
  (refine fin1 rfl (by exact rfl) rfl ?_)
  rfl
 rw [decide_eq_true hd1] at w3
 have w4 : ∀ h, orP LP 13 10 [encN n, .sl (c.map I64)] h = _ := fun h => orP_of rfl (rCorr_c 11 n c l1 (by omega) (by omega) h (frz_sl (ltL_I 0 c)))
 by_cases hce : corrE n.ls.length c = 0
 rotate_left
 ·rw [h0] at w2
  generalize corrE n.ls.length c = e at *
  repeat (first | apply ef_seq | (apply ef_mv; exact rfl; exact rfl) | (apply ef_bin; (iterate 3 exact rfl); (first | exact cmp_t rfl (by first | exact rfl | (simp only [cmpP]; omega)) | exact cmp_f rfl (by simp only [cmpP]; omega))) | (apply ef_gy; exact rfl; (exact (rfl : false = false))) | (apply ef_gn; exact rfl; (exact (rfl : true = true)); exact rfl) | (apply ef_pick; (iterate 3 exact rfl)) | (apply ef_ldp; exact rfl; exact rfl; (exact rfl); exact rfl; (exact rfl); (exact rd_2 rfl rfl)) | (apply ef_notT; exact rfl; exact rfl) | (apply ef_box; (iterate 4 exact rfl)) | apply ef_nil | apply seqQ.normal | apply ef_ret | apply seqQ.ret | apply ef_skip | (apply ef_condt; exact rfl; (exact (rfl : true = true))) | (apply ef_condf; exact rfl; (exact (rfl : false = false))) | (apply ef_call; exact rfl; ((repeat (apply XVs.cons; exact rfl)); exact XVs.nil); (with_reducible first | exact w0 _ | exact w1 _ | exact w2 _ | exact w3 _ | exact w4 _)))
  (refine fin1 rfl (by exact rfl) rfl ?_)
  rfl
 have hbo : bothE n c = 0 := by unfold bothE; rw [if_pos hn]; exact hce
 rw [hce] at w4
 by_cases hw : w.length ≤ 16
 rotate_left
 ·rw [h0] at w2
  repeat (first | apply ef_seq | (apply ef_mv; exact rfl; exact rfl) | (apply ef_bin; (iterate 3 exact rfl); (first | exact cmp_t rfl (by first | exact rfl | (simp only [cmpP]; omega)) | exact cmp_f rfl (by simp only [cmpP]; omega))) | (apply ef_gy; exact rfl; (exact (rfl : false = false))) | (apply ef_pick; (iterate 3 exact rfl)) | (apply ef_len; exact rfl; exact rfl; (assumption)) | (apply ef_ldp; exact rfl; exact rfl; (exact rfl); exact rfl; (exact rfl); (exact rd_2 rfl rfl)) | (apply ef_notT; exact rfl; exact rfl) | (apply ef_box; (iterate 4 exact rfl)) | apply ef_nil | apply seqQ.normal | apply ef_ret | apply seqQ.ret | apply ef_skip | (apply ef_condt; exact rfl; (exact (rfl : true = true))) | (apply ef_condf; exact rfl; (exact (rfl : false = false))) | (apply ef_call; exact rfl; ((repeat (apply XVs.cons; exact rfl)); exact XVs.nil); (with_reducible first | exact w0 _ | exact w1 _ | exact w2 _ | exact w3 _ | exact w4 _)))
  (refine fin1 rfl (by exact rfl) rfl ?_)
  rfl
 have w5 := fun h => Copy_cp 13 n hb h
 have w6 := fun h hl => CopyInts_cp 13 c (by omega) h hl
 have w7 : ∀ h, orP LP 13 11 [encN n, .sl (c.map I64)] h = _ := fun h => orP_of rfl (Corrected_c 6 n hb c (by omega) h (by simp [ltL, MV.lt, ltL_Ln, ltL_Cr, ltL_I]))
 rw [h0] at w2
 by_cases he : corE n c = 0
 rotate_left
 ·have e2 : corV n c = nilN := by unfold corV; rw [if_neg he]
  have e8 : corE n c = 8 := by
   unfold corE at he ⊢
   rw [if_pos hbo] at he ⊢
   split
   ·rfl
   ·rename_i hx; rw [if_neg hx] at he; exact absurd rfl he
  rw [e2, e8] at w7
  repeat (first | apply ef_seq | (apply ef_mv; exact rfl; exact rfl) | (apply ef_bin; (iterate 3 exact rfl); (first | exact cmp_t rfl (by first | exact rfl | (simp only [cmpP]; omega)) | exact cmp_f rfl (by simp only [cmpP]; omega))) | (apply ef_gy; exact rfl; (exact (rfl : false = false))) | (apply ef_pick; (iterate 3 exact rfl)) | (apply ef_len; exact rfl; exact rfl; (assumption)) | (apply ef_ldp; exact rfl; exact rfl; (exact rfl); exact rfl; (exact rfl); (exact rd_2 rfl rfl)) | (apply ef_notT; exact rfl; exact rfl) | (apply ef_ext; (iterate 3 exact rfl)) | (apply ef_box; (iterate 4 exact rfl)) | (apply ef_new; exact rfl) | (apply ef_st; (iterate 6 exact rfl); (exact rfl); exact rfl) | apply ef_nil | apply seqQ.normal | apply ef_ret | apply seqQ.ret | apply ef_skip | (apply ef_condt; exact rfl; (exact (rfl : true = true))) | (apply ef_condf; exact rfl; (exact (rfl : false = false))) | (apply ef_call; exact rfl; ((repeat (apply XVs.cons; exact rfl)); exact XVs.nil); (with_reducible first | exact w0 _ | exact w1 _ | exact w2 _ | exact w3 _ | exact w4 _ | exact w5 _ | exact w6 _ rfl | exact w7 _)))
  (refine fin1 rfl (by exact rfl) rfl ?_)
  rfl
 have e2 : corV n c = encN (nW n (resL n c)) := by unfold corV; rw [if_pos he]
 rw [e2, he] at w7
 obtain ⟨hB, hJ, hN, hmn, hlm, hms⟩ := closed_facts hb h0 he
 obtain ⟨-, -, okc⟩ := bothE_ok hbo
 have hrl : (resL n c).length = n.cs.length := by simp [resL]
 have hyl : (nW n (resL n c)).cs.length = n.cs.length := wiU_len _ _ _
 have hs3 : (MV.sl ((nW n (resL n c)).ls.map encLn)).slen = some n.ls.length := hs1
 have hs4 : (MV.sl ((nW n (resL n c)).cs.map encCr)).slen = some n.cs.length := by simp [MV.slen, hyl]
 have w8 : ∀ h, orP LP 13 14 [encN (nW n (resL n c))] h = _ := fun h => orP_of rfl (NetErr_c 10 _ hB h)
 rw [hN] at w8
 have w9 := fun h => Copy_cp 13 _ hB h
 have w10 : ∀ h, orP LP 13 15 [encN n] h = _ := fun h => orP_of rfl (BestOf_c 6 n hb h0 h)
 have w11 : ∀ h, orP LP 13 15 [encN (nW n (resL n c))] h = _ := fun h => orP_of rfl (BestOf_c 6 _ hB hJ h)
 rw [hmn] at w11
 have w12 : ∀ h, orP LP 13 16 [encN n] h = _ := fun h => orP_of rfl (LimitOf_c 7 n hb h)
 have w13 : ∀ h, orP LP 13 16 [encN (nW n (resL n c))] h = _ := fun h => orP_of rfl (LimitOf_c 7 _ hB h)
 rw [hN, hlm] at w13
 rw [hn] at w12
 have hL := limV_is hb hn
 have hL0 := hL.lo
 have hL1 := hL.hi
 have w14 : ∀ h, orP LP 13 17 [I64 (limV n), I64 0, I64 10000] h = some (Bo true, h) := fun h => orP_of rfl (Within_c 13 _ _ _ h (inB_iff.2 ⟨hL0, hL1⟩))
 have w15 : ∀ h (hl : (h.length == 1) = false), orP LP 13 13 [.sl (w.map I64)] h = _ := fun h hl => orP_of (by unfold LP; rw [hl]; rfl) (bCopyInts_c 13 w h (v := .sl (w.map I64)) (by omega) (frz_sl (ltL_I 0 w)))
 have w16 : ∀ h v (hv : frz 0 [] h 8 v = some (.sl (w.map I64))), orP LP 13 18 [encN n, v] h = _ := fun h v hv => orP_of rfl (Mis_c 7 n hb w (by omega) h hv)
 have w17 : ∀ h v (hv : frz 0 [] h 8 v = some (.sl (w.map I64))), orP LP 13 18 [encN (nW n (resL n c)), v] h = _ := fun h v hv => orP_of rfl (Mis_c 7 _ hB w (by omega) h hv)
 rw [hms] at w17
 have hse : msF n w = misF n.cs w := by unfold msF; rw [if_pos hn]
 rw [hse] at w16 w17
 have w18 : ∀ h, orP LP 13 19 [encN n, .sl (c.map I64)] h = _ := fun h => orP_of rfl (rRes_c 13 n ok c okc.okB h (frz_sl (ltL_I 0 c)))
 have HRb := Bx.mk (resL_bd ok okc.okB)
 have hrI : ∀ z ∈ resL n c, -2010000 ≤ z ∧ z ≤ 2010000 := fun z hz => by
  obtain ⟨x, hx, rfl⟩ := List.mem_map.1 hz
  exact resI_bd okc (ok.rg x hx)
 have w19 : ∀ z (h1 : -1000000000000 ≤ z) (h2 : z ≤ 1000000000000) h, orP LP 13 20 [I64 z] h = some (I64 (absI z), h) := fun z h1 h2 h => orP_of rfl (bSize_c 13 z h1 h2 h)
 have w20 : ∀ (xs : List Int) (hx : xs.length ≤ 1000) h v (hv : frz 0 [] h 8 v = some (.sl (xs.map I64))), orP LP 13 18 [encN n, v] h = _ := fun xs hx h v hv => orP_of rfl (Mis_c 7 n hb xs hx h hv)
 have HM := Bx.mk (show ∀ m, misF n.cs w = (m, 0) → absI m ≤ limV n * (w.length : Int) ∧ ∀ L, 0 ≤ L → (∀ j : Nat, j < n.cs.length → absI (cAt (resL n c) j) ≤ L) → absI m ≤ L * (w.length : Int) from fun m hm => by
  refine ⟨?_, fun L hL0 hLr => mis_lim hL0 (shf_res n c) (fun i hi => ?_) hm⟩
  ·obtain ⟨p, hp⟩ := hL.ag
   obtain ⟨cs', H⟩ := shf_pot n p
   exact mis_lim hL0 H hp hm
  ·have hi' := evS_in n i hi
   have h1 := hLr i.toNat (by omega)
   have h2 : resP (crI n i) (cAt c) = cAt (resL n c) (i.toNat : Nat) := by
    unfold cAt resL
    rw [Int.toNat_natCast, List.getD_eq_getElem?_getD, List.getElem?_map, List.getElem?_eq_getElem (by omega)]
    unfold crI
    rw [List.getD_eq_getElem?_getD, List.getElem?_eq_getElem (by omega)]
    rfl
   rw [h2]
   unfold absI at h1
   split at h1 <;> omega)
 have HK := Bx.mk (fun m (hm : misF n.cs w = (m, 0)) => mis_back hw hm)
 have HE := Bx.mk (show msF n (w ++ w.reverse) = misF n.cs (w ++ w.reverse) by unfold msF; rw [if_pos hn])
 generalize hY : nW n (resL n c) = Y at *
 generalize limV n = L at *
 generalize minC n = mc at *
 generalize hml : misF n.cs w = ml at *
 obtain ⟨v, e⟩ := ml
 clear hL
 have W15 := Bx.mk w15
 have W18 := Bx.mk w18
 have W19 := Bx.mk w19
 have W20 := Bx.mk w20
 clear w15 w18 w19 w20 hms
 by_cases hez : e = 0
 all_goals repeat (first | apply ef_seq | (apply ef_mv; exact rfl; exact rfl) | (apply ef_bin; (iterate 3 exact rfl); (exact cmp_f rfl (by simp only [cmpP]; omega))) | (apply ef_gy; exact rfl; (exact (rfl : false = false))) | (apply ef_pick; (iterate 3 exact rfl)) | (apply ef_len; exact rfl; exact rfl; (assumption)) | (apply ef_ldp; exact rfl; exact rfl; (exact rfl); exact rfl; (exact rfl); (exact rd_2 rfl rfl)) | (apply ef_notT; exact rfl; exact rfl) | (apply ef_box; (iterate 4 exact rfl)) | apply ef_nil | apply seqQ.normal | apply ef_skip | (apply ef_condf; exact rfl; (exact (rfl : false = false))) | (apply ef_call; exact rfl; ((repeat (apply XVs.cons; exact rfl)); exact XVs.nil); (with_reducible first | exact w0 _ | exact w1 _ | exact w2 _ | exact w3 _ | exact w4 _ | exact w5 _)))
 all_goals (apply ef_call; (· exact rfl); (· ((repeat (apply XVs.cons; exact rfl)); exact XVs.nil)); · exact w6 _ rfl)
 all_goals repeat (first | apply ef_seq | (apply ef_mv; exact rfl; exact rfl) | (apply ef_bin; (iterate 3 exact rfl); (exact cmp_f rfl (by simp only [cmpP]; omega))) | (apply ef_gy; exact rfl; (exact (rfl : false = false))) | (apply ef_pick; (iterate 3 exact rfl)) | (apply ef_len; exact rfl; exact rfl; (assumption)) | (apply ef_ldp; exact rfl; exact rfl; (exact rfl); exact rfl; (exact rfl); (first | exact rd_2 rfl rfl | exact rfl)) | (apply ef_fap; exact rfl; exact rfl) | (apply ef_notT; exact rfl; exact rfl) | (apply ef_ext; (iterate 3 exact rfl)) | (apply ef_new; exact rfl) | (apply ef_st; (iterate 6 exact rfl); (exact rfl); exact rfl) | apply ef_nil | apply seqQ.normal | apply ef_skip | (apply ef_condf; exact rfl; (exact (rfl : false = false))) | (apply ef_call; exact rfl; ((repeat (apply XVs.cons; exact rfl)); exact XVs.nil); (with_reducible first | exact w7 _ | exact w8 _ | exact w5 _ | exact w9 _ | exact w10 _ | exact w11 _ | exact w12 _ | exact w13 _ | exact w14 _)))
 all_goals (apply ef_call; (· exact rfl); (· ((repeat (apply XVs.cons; exact rfl)); exact XVs.nil)); · exact W15.out _ rfl)
 all_goals repeat (fail)
 all_goals (apply ef_call; (· exact rfl); (· ((repeat (apply XVs.cons; exact rfl)); exact XVs.nil)); · exact w16 _ _ (frz_row (o := ⟨0, false, 1, w.map I64⟩) rfl rfl (by simp) (ltL_I 0 _) rfl))
 all_goals repeat (first | apply ef_seq | (apply ef_mv; exact rfl; exact rfl) | (apply ef_ldp; exact rfl; exact rfl; (exact rfl); exact rfl; (exact rfl); (exact rd_2 rfl rfl)) | (apply ef_ext; (iterate 3 exact rfl)) | apply ef_nil | apply seqQ.normal | (apply ef_call; exact rfl; ((repeat (apply XVs.cons; exact rfl)); exact XVs.nil); (with_reducible exact w9 _)))
 all_goals (apply ef_call; (· exact rfl); (· ((repeat (apply XVs.cons; exact rfl)); exact XVs.nil)); · exact W15.out _ rfl)
 all_goals repeat (fail)
 all_goals (apply ef_call; (· exact rfl); (· ((repeat (apply XVs.cons; exact rfl)); exact XVs.nil)); · exact w17 _ _ (frz_row (o := ⟨0, false, 1, w.map I64⟩) rfl rfl (by simp) (ltL_I 0 _) rfl))
 all_goals clear w0 w1 w2 w3 w4 w6 w7 w8 w10 w11 w12 w13 w14 w16 w17
 rotate_left
 ·repeat (first | apply ef_seq | (apply ef_mv; exact rfl; exact rfl) | (apply ef_bin; (iterate 3 exact rfl); (first | exact cmp_t rfl (by first | exact rfl | (simp only [cmpP]; omega)) | exact cmp_f rfl (by simp only [cmpP]; omega))) | (apply ef_gy; exact rfl; (exact (rfl : false = false))) | (apply ef_pick; (iterate 3 exact rfl)) | (apply ef_ext; (iterate 3 exact rfl)) | apply ef_nil | apply seqQ.normal | apply ef_ret | apply seqQ.ret | apply ef_skip | (apply ef_condt; exact rfl; (exact (rfl : true = true))) | (apply ef_condf; exact rfl; (exact (rfl : false = false))))
  (refine fin1 rfl (by exact rfl) rfl ?_)
  rfl
 subst hez
 obtain ⟨b1, b2⟩ := HM.out v rfl
 have m1 := mul_w (a := L) (b := (w.length : Int)) 10000 16 (by omega) (by omega) (by omega) (by omega) (by omega)
 have m2 := mul_bd (a := L) (b := (w.length : Int)) (A := 10000) (B := 16) (by omega) (by omega) (by omega) (by omega)
 have hva : -160000 ≤ v ∧ v ≤ 160000 := by unfold absI at b1; split at b1 <;> omega
 have HB2 := Bx.mk b2
 have hback := HK.out v rfl
 have HE2 := HE.out
 rw [hback] at HE2
 have HBK := Bx.mk HE2
 clear HM HK HE b2 hback HE2
 repeat (first | apply ef_seq | (apply ef_mv; exact rfl; exact rfl) | (apply ef_bin; (iterate 3 exact rfl); (exact cmp_f rfl (by simp only [cmpP]; omega))) | (apply ef_gy; exact rfl; (exact (rfl : false = false))) | (apply ef_pick; (iterate 3 exact rfl)) | (apply ef_ldp; exact rfl; exact rfl; (exact rfl); exact rfl; (exact rfl); (exact rd_2 rfl rfl)) | (apply ef_ext; (iterate 3 exact rfl)) | apply ef_nil | apply seqQ.normal | apply ef_block | apply ef_skip | (apply ef_condf; exact rfl; (exact (rfl : false = false))) | (apply ef_call; exact rfl; ((repeat (apply XVs.cons; exact rfl)); exact XVs.nil); (with_reducible exact W18.out _)))
 refine ef_loopf (α := Nat × Int) (fun p => p.1 ≤ n.cs.length ∧ 0 ≤ p.2 ∧ p.2 ≤ 2010000 ∧ ∀ j : Nat, j < p.1 → absI (cAt (resL n c) j) ≤ p.2) (fun p => [(25, I64 (p.1 : Int)), (23, I64 p.2)]) [(24, .arr 6 0 n.cs.length 0), (19, I64 v), (15, I64 L), (2, .sl (w.map I64)), (3, .ptr 0 0 0 0)] (fun _ => wcH n Y c w) (fun p => n.cs.length - p.1) (0, 0) [25, 23] (fun _ => rfl) (by ((repeat (refine Hold.cons (by exact rfl) ?_)); exact Hold.nil)) (by ((repeat (refine Hold.cons (by exact rfl) ?_)); exact Hold.nil)) rfl rfl ⟨by omega, by omega, by omega, fun j hj => absurd hj (by omega)⟩ (by show n.cs.length - 0 < 4000000; omega) ?_
 rintro ⟨i, m⟩ ⟨hi, hm0, hm1, hmj⟩
 try simp only at hi hm0 hm1 hmj ⊢
 by_cases hlt : i < n.cs.length
 ·have e1 : ((resL n c).map I64)[0 + ((i : Nat) : Int).toNat]? = some (I64 (cAt (resL n c) (i : Nat))) := by rw [Nat.zero_add]; exact cAt_at hrl (by omega) (by omega)
  have hz : -2010000 ≤ cAt (resL n c) (i : Nat) ∧ cAt (resL n c) (i : Nat) ≤ 2010000 := by
   unfold cAt
   rw [List.getD_eq_getElem?_getD, Int.toNat_natCast, List.getElem?_eq_getElem (by omega)]
   exact hrI _ (List.getElem_mem _)
  have HJ2 := Bx.mk hmj
  clear hmj
  generalize hcz : cAt (resL n c) (i : Nat) = z at *
  have w19 := W19.out z (by omega) (by omega)
  have hab : 0 ≤ absI z ∧ absI z ≤ 2010000 := by unfold absI; split <;> omega
  generalize hza : absI z = za at *
  repeat (first | apply ef_seq | (apply ef_mv; exact rfl; exact rfl) | (apply ef_bin; (iterate 3 exact rfl); (first | exact cmp_t rfl (by first | exact rfl | (simp only [cmpP]; omega)) | ((with_reducible refine bin_add (wrap_of ?_ ?_)) <;> omega))) | (apply ef_len; exact rfl; exact rfl; (exact rfl)) | (apply ef_ldp; exact rfl; exact rfl; (exact rfl); exact rfl; (assumption); (exact rfl)) | (apply ef_iaa; (iterate 3 exact rfl); (omega); (omega); (exact rfl)) | (apply ef_mx; (iterate 3 exact rfl)) | apply ef_nil | apply seqQ.normal | apply blockQ.normal | apply ef_block | apply ef_skip | (apply ef_condt; exact rfl; (exact (rfl : true = true))) | (apply ef_call; exact rfl; ((repeat (apply XVs.cons; exact rfl)); exact XVs.nil); (with_reducible exact w19 _)))
  (refine loopQ.normal _ _ ⟨(i + 1, if za > m then za else m), ⟨hlt, by split <;> omega, by split <;> omega, fun j hj => by
   rcases Nat.lt_or_ge j i with h | h
   ·have := HJ2.out j h; split <;> omega
   ·obtain rfl : j = i := by omega
    rw [hcz, hza]; split <;> omega⟩, (by first | (simp only; omega) | omega), ⟨by ((repeat (refine Hold.cons (by exact rfl) ?_)); exact Hold.nil), by ((repeat (refine Hold.cons (by exact rfl) ?_)); exact Hold.nil)⟩, .inl (Nat.le_refl _), (by first | exact List.take_length | exact rfl | exact takeF rfl rfl)⟩)
 ·obtain rfl : i = n.cs.length := by omega
  have b3 := HB2.out m hm0 hmj
  clear HB2 hmj
  have m3 := mul_w (a := m) (b := (w.length : Int)) 2010000 16 (by omega) (by omega) (by omega) (by omega) (by omega)
  have w19 := W19.out v (by omega) (by omega)
  generalize absI v = va at *
  repeat (first | apply ef_seq | (apply ef_mv; exact rfl; exact rfl) | (apply ef_bin; (iterate 3 exact rfl); (first | exact cmp_f rfl (by simp only [cmpP]; omega) | ((with_reducible refine bin_mul (wrap_of ?_ ?_)) <;> omega) | with_reducible exact bin_mul (by assumption))) | (apply ef_gy; exact rfl; (exact (rfl : false = false))) | (apply ef_pick; (iterate 3 exact rfl)) | (apply ef_len; exact rfl; exact rfl; (first | assumption | exact rfl)) | apply ef_nil | apply seqQ.normal | apply loopQ.exit | apply ef_exit | apply seqQ.exit | apply blockQ.here | apply ef_skip | (apply ef_condf; exact rfl; (exact (rfl : false = false))) | (apply ef_call; exact rfl; ((repeat (apply XVs.cons; exact rfl)); exact XVs.nil); (with_reducible exact w19 _)))
  (apply ef_call; (· exact rfl); (· ((repeat (apply XVs.cons; exact rfl)); exact XVs.nil)); · exact W15.out _ rfl)
  repeat (first | apply ef_seq | (apply ef_mv; exact rfl; exact rfl) | (apply ef_bin; (iterate 3 exact rfl); (((with_reducible refine bin_sub (wrap_of ?_ ?_)) <;> omega))) | (apply ef_len; exact rfl; exact rfl; (assumption)) | apply ef_nil | apply seqQ.normal | apply ef_block)
  refine ef_loopf (α := Nat × Int × List MV) (fun p => p.1 ≤ w.length ∧ p.2.1 = (w.length : Int) - 1 - (p.1 : Int) ∧ p.2.2 = (w ++ w.reverse.take p.1).map I64) (fun p => [(27, I64 p.2.1), (26, .arr 7 0 (w.length + p.1) p.1)]) [(2, .sl (w.map I64)), (3, .ptr 0 0 0 0)] (fun p => wcH n Y c w ++ [⟨p.1, false, 1, p.2.2⟩]) (fun p => w.length - p.1) (0, (w.length : Int) - 1, w.map I64) [27, 26] (fun _ => rfl) (by ((repeat (refine Hold.cons (by exact rfl) ?_)); exact Hold.nil)) (by ((repeat (refine Hold.cons (by exact rfl) ?_)); exact Hold.nil)) rfl rfl ⟨by omega, by simp, by simp⟩ (by show w.length - 0 < 4000000; omega) ?_
  rintro ⟨i, t, rs⟩ ⟨hi, ht, hrs⟩
  try simp only at hi ht hrs ⊢
  have hrl2 : rs.length = w.length + i := by rw [hrs, List.length_map, List.length_append, List.length_take, List.length_reverse]; omega
  have hlr : ∀ j, ltL j rs = true := fun j => by rw [hrs]; exact ltL_I j _
  by_cases hlt : i < w.length
  ·have hti : t.toNat < w.length := by omega
   have e1 : (w.map I64)[t.toNat]? = some (I64 w[t.toNat]) := by rw [List.getElem?_map, List.getElem?_eq_getElem hti]; rfl
   have HN := Bx.mk (show w.reverse.take (i + 1) = w.reverse.take i ++ [w[t.toNat]] by
    rw [List.take_succ_eq_append_getElem (by rw [List.length_reverse]; exact hlt), List.getElem_reverse]
    congr 2
    simp only [show w.length - 1 - i = t.toNat by omega])
   generalize w[t.toNat] = z at e1 HN
   repeat (first | apply ef_seq | (apply ef_mv; exact rfl; exact rfl) | (apply ef_bin; (iterate 3 exact rfl); (exact cmp_t rfl (by first | exact rfl | (simp only [cmpP]; omega)))) | (apply ef_ldr; exact rfl; exact rfl; (exact rfl)) | (apply ef_ias; (iterate 3 exact rfl); (omega); assumption; exact rfl) | (apply ef_bsl; exact rfl; (repeat (apply XVs.cons; exact rfl)); exact XVs.nil; exact rfl) | apply ef_nil | apply seqQ.normal | apply ef_block | apply ef_skip | (apply ef_condt; exact rfl; (exact (rfl : true = true))))
   (apply ef_app; (· exact rfl); (· exact rfl); (· exact rfl); (· exact rfl); (· exact rfl); (· exact rfl); (· (simp [hrl2])); (· exact rfl); (· (simp [hrl2]; omega)); (· (exact rfl)); (· exact rfl))
   repeat (first | (apply ef_mv; exact rfl; exact rfl) | (apply ef_bin; (iterate 3 exact rfl); (((with_reducible refine bin_sub (wrap_of ?_ ?_)) <;> omega))) | apply ef_nil | apply seqQ.normal | apply blockQ.normal)
   (refine loopQ.normal _ _ ⟨(i + 1, t - 1, rs ++ [I64 z]), ⟨hlt, (by show t - 1 = (w.length : Int) - 1 - ((i + 1 : Nat) : Int); omega), by rw [HN.out, hrs]; simp⟩, (by first | (simp only; omega) | omega), ⟨by ((repeat (refine Hold.cons (by exact rfl) ?_)); exact Hold.nil), by ((repeat (refine Hold.cons (by exact rfl) ?_)); exact Hold.nil)⟩, .inr ⟨by ((repeat (refine hdl_cons rfl (by first | rfl | (simp [MV.lt, ltL, ltL_Ln, ltL_Cr, ltL_I, hlr, ltL_app2, splice, MV.cells])) ?_)); exact hdl_nil), by (simp [hltL, ltL, MV.lt, ltL, ltL_Ln, ltL_Cr, ltL_I, hlr, ltL_app2, splice, MV.cells])⟩, by exact rfl⟩)
  ·obtain rfl : i = w.length := by omega
   have hrf : rs = (w ++ w.reverse).map I64 := by rw [hrs, List.take_of_length_le (by simp)]
   have w20 := W20.out (w ++ w.reverse) (by simp; omega)
   rw [HBK.out] at w20
   repeat (first | apply ef_seq | (apply ef_mv; exact rfl; exact rfl) | (apply ef_bin; (iterate 3 exact rfl); (exact cmp_f rfl (by simp only [cmpP]; omega))) | (apply ef_ldp; exact rfl; exact rfl; (exact rfl); exact rfl; (exact rfl); (exact rd_2 rfl rfl)) | apply ef_nil | apply seqQ.normal | apply loopQ.exit | apply ef_exit | apply seqQ.exit | apply blockQ.here | (apply ef_condf; exact rfl; (exact (rfl : false = false))))
   (apply ef_call; (· exact rfl); (· ((repeat (apply XVs.cons; exact rfl)); exact XVs.nil)); · exact w20 _ _ (frz_row (o := ⟨w.length, false, 1, rs⟩) rfl rfl (by simp) (ltL_I 0 _) hrf))
   repeat (first | apply ef_seq | (apply ef_mv; exact rfl; exact rfl) | (apply ef_bin; (iterate 3 exact rfl); (exact cmp_t rfl (by first | exact rfl | (simp only [cmpP]; omega)))) | (apply ef_gy; exact rfl; (exact (rfl : true = true))) | (apply ef_pick; (iterate 3 exact rfl)) | (apply ef_ext; (iterate 3 exact rfl)) | apply ef_nil | apply seqQ.normal | apply ef_ret)
   (refine fin1 rfl (by exact rfl) rfl ?_)
   rfl
end Go.Proofs.YtfchdbghjeophaaGreatDoor
