/- The law of polygons: the walk. -/
import Derived.Test.YtgjpdjihjphbdaaPolygonsProofsPd
/- Contracts of polygons: the program's sides, inside. -/
namespace Go.Proofs.Ytgjpdjihjphbdaa
open Go.RowKit
set_option linter.unusedVariables false

theorem mf_sdAt : MT.mf 102 = some ⟨40, [(.tmp 4), (.tmp 5)], (.seq (.reg [⟨none, (some 2), (.box 4 (.s 0))⟩, ⟨none, (some 4), (.mv (.c (.lit (.int .i64 0))))⟩, ⟨none, (some 5), (.mv (.c (.lit (.int .i64 0))))⟩]) (.seq (.reg [⟨none, (some 6), (.iaa 2 2 (.s 2) (.c (.lit (.int .i64 1))))⟩, ⟨none, (some 7), (.fa 1 (.s 6))⟩, ⟨none, (some 8), (.ld none (.s 7))⟩, ⟨none, (some 9), (.iaa 2 2 (.s 2) (.c (.lit (.int .i64 0))))⟩, ⟨none, (some 10), (.fa 1 (.s 9))⟩, ⟨none, (some 11), (.ld none (.s 10))⟩, ⟨none, (some 12), (.bin .sub (.s 8) (.s 11))⟩, ⟨none, (some 5), (.mv (.s 12))⟩]) (.seq (.reg [⟨none, (some 13), (.iaa 2 2 (.s 2) (.c (.lit (.int .i64 0))))⟩, ⟨none, (some 14), (.fa 0 (.s 13))⟩, ⟨none, (some 15), (.ld none (.s 14))⟩, ⟨none, (some 16), (.mv (.s 5))⟩, ⟨none, (some 17), (.bin .mul (.s 15) (.s 16))⟩, ⟨none, (some 18), (.mv (.s 1))⟩, ⟨none, (some 19), (.iaa 2 2 (.s 2) (.c (.lit (.int .i64 0))))⟩, ⟨none, (some 20), (.fa 1 (.s 19))⟩, ⟨none, (some 21), (.ld none (.s 20))⟩, ⟨none, (some 22), (.bin .sub (.s 18) (.s 21))⟩, ⟨none, (some 23), (.iaa 2 2 (.s 2) (.c (.lit (.int .i64 1))))⟩, ⟨none, (some 24), (.fa 0 (.s 23))⟩, ⟨none, (some 25), (.ld none (.s 24))⟩, ⟨none, (some 26), (.iaa 2 2 (.s 2) (.c (.lit (.int .i64 0))))⟩, ⟨none, (some 27), (.fa 0 (.s 26))⟩, ⟨none, (some 28), (.ld none (.s 27))⟩, ⟨none, (some 29), (.bin .sub (.s 25) (.s 28))⟩, ⟨none, (some 30), (.bin .mul (.s 22) (.s 29))⟩, ⟨none, (some 31), (.bin .add (.s 17) (.s 30))⟩, ⟨none, (some 4), (.mv (.s 31))⟩]) (.seq (.seq (.reg [⟨none, (some 32), (.mv (.s 5))⟩, ⟨none, (some 33), (.bin .lss (.s 32) (.c (.lit (.int .i64 0))))⟩]) (.cond (.s 33) (.seq (.reg [⟨none, (some 34), (.mv (.s 4))⟩, ⟨none, (some 35), (.un .neg (.s 34))⟩, ⟨none, (some 36), (.mv (.s 5))⟩, ⟨none, (some 37), (.un .neg (.s 36))⟩, ⟨none, (some 4), (.mv (.s 35))⟩, ⟨none, (some 5), (.mv (.s 37))⟩]) .ret) .skip)) (.seq (.reg [⟨none, (some 38), (.mv (.s 4))⟩, ⟨none, (some 39), (.mv (.s 5))⟩, ⟨none, (some 4), (.mv (.s 38))⟩, ⟨none, (some 5), (.mv (.s 39))⟩]) .ret)))))⟩ := by kernel_rfl
theorem sdAt_c (k : Nat) (s t : Pt) (y : Int) (hs : InP s) (ht : InP t) (hy : 0 ≤ y ∧ y ≤ 1000) (h : MHeap) : orA (k + 1) 102 [encSd s t, I64 y] h = some (.tup [I64 (atN s t y), I64 (atD s t)], h) := by
  refine callP (args' := [encSd s t, I64 y]) (frzL_lt (by simp [ltL, MV.lt])) rfl (runZ_of mf_sdAt (by simp) ?_) rfl
  obtain ⟨⟨a1, a2⟩, a3, a4⟩ := atNr_bd hs ht hy
  obtain ⟨p1, p2, p3, p4⟩ := hs
  obtain ⟨p5, p6, p7, p8⟩ := ht
  rw [Int.mul_comm] at a3 a4
  have hN : atN s t y = if t.2 - s.2 < 0 then -(s.1 * (t.2 - s.2) + (y - s.2) * (t.1 - s.1)) else s.1 * (t.2 - s.2) + (y - s.2) * (t.1 - s.1) := rfl
  have hD : atD s t = if t.2 - s.2 < 0 then -(t.2 - s.2) else t.2 - s.2 := rfl
  generalize atN s t y = N at *
  generalize atD s t = D at *
  generalize hp1 : s.1 * (t.2 - s.2) = P1 at *
  generalize hp2 : (y - s.2) * (t.1 - s.1) = P2 at *
  have w1 : IntKind.i64.wrap (s.1 * (t.2 - s.2)) = P1 := by rw [hp1]; exact wrap_of (by omega) (by omega)
  have w2 : IntKind.i64.wrap ((y - s.2) * (t.1 - s.1)) = P2 := by rw [hp2]; exact wrap_of (by omega) (by omega)
  clear hp1 hp2
  simp only [argsL]
  by_cases hd : t.2 - s.2 < 0
  · rw [if_pos hd] at hN hD
    repeat (first | apply ef_seq | (apply ef_mv; exact rfl; exact rfl) | (apply ef_bin; exact rfl; exact rfl; exact rfl; (first | exact cmp_t rfl (by first | exact rfl | (simp only [cmpP]; omega)) | exact cmp_f rfl (by simp only [cmpP]; omega) | ((with_reducible refine bin_add (wrap_of ?_ ?_)) <;> omega) | ((with_reducible refine bin_sub (wrap_of ?_ ?_)) <;> omega) | ((with_reducible refine bin_mul (wrap_of ?_ ?_)) <;> omega) | with_reducible exact bin_add (by assumption) | with_reducible exact bin_sub (by assumption) | with_reducible exact bin_mul (by assumption) | exact rfl)) | (apply ef_ldr; exact rfl; exact rfl; (first | exact rfl)) | (apply ef_ldp; exact rfl; exact rfl; (first | exact rfl | assumption); exact rfl; (first | exact rfl | assumption); (first | exact rfl)) | (apply ef_iaap; exact rfl; exact rfl; exact rfl; (first | omega | assumption); (first | omega | assumption)) | (apply ef_iaar; exact rfl; exact rfl; exact rfl; (first | omega | assumption); (first | omega | assumption)) | (apply ef_fap; exact rfl; exact rfl) | (apply ef_far; exact rfl; exact rfl) | (apply ef_neg; exact rfl; exact rfl; exact wrap_of (by omega) (by omega)) | (apply ef_box; exact rfl; exact rfl; exact rfl; exact rfl) | apply ef_nil | apply seqQ.normal | apply ef_ret | apply seqQ.ret | apply ef_skip | (apply ef_condt; exact rfl; (first | exact (rfl : true = true) | assumption | exact decide_eq_true (by omega))) | (apply ef_condf; exact rfl; (first | exact (rfl : false = false) | assumption | exact decide_eq_false (by omega))))
    (refine fin2 rfl (by exact rfl) (by exact rfl) ?_)
    rw [hN, hD, show 0 - (P1 + P2) = -(P1 + P2) by omega, show 0 - (t.2 - s.2) = -(t.2 - s.2) by omega]
  · rw [if_neg hd] at hN hD
    repeat (first | apply ef_seq | (apply ef_mv; exact rfl; exact rfl) | (apply ef_bin; exact rfl; exact rfl; exact rfl; (first | exact cmp_t rfl (by first | exact rfl | (simp only [cmpP]; omega)) | exact cmp_f rfl (by simp only [cmpP]; omega) | ((with_reducible refine bin_add (wrap_of ?_ ?_)) <;> omega) | ((with_reducible refine bin_sub (wrap_of ?_ ?_)) <;> omega) | ((with_reducible refine bin_mul (wrap_of ?_ ?_)) <;> omega) | with_reducible exact bin_add (by assumption) | with_reducible exact bin_sub (by assumption) | with_reducible exact bin_mul (by assumption) | exact rfl)) | (apply ef_ldr; exact rfl; exact rfl; (first | exact rfl)) | (apply ef_ldp; exact rfl; exact rfl; (first | exact rfl | assumption); exact rfl; (first | exact rfl | assumption); (first | exact rfl)) | (apply ef_iaap; exact rfl; exact rfl; exact rfl; (first | omega | assumption); (first | omega | assumption)) | (apply ef_iaar; exact rfl; exact rfl; exact rfl; (first | omega | assumption); (first | omega | assumption)) | (apply ef_fap; exact rfl; exact rfl) | (apply ef_far; exact rfl; exact rfl) | (apply ef_neg; exact rfl; exact rfl; exact wrap_of (by omega) (by omega)) | (apply ef_box; exact rfl; exact rfl; exact rfl; exact rfl) | apply ef_nil | apply seqQ.normal | apply ef_ret | apply seqQ.ret | apply ef_skip | (apply ef_condt; exact rfl; (first | exact (rfl : true = true) | assumption | exact decide_eq_true (by omega))) | (apply ef_condf; exact rfl; (first | exact (rfl : false = false) | assumption | exact decide_eq_false (by omega))))
    (refine fin2 rfl (by exact rfl) (by exact rfl) ?_)
    rw [hN, hD]
theorem decR_pt (cs : List Pt) : (cs.map encPt).mapM decR = some cs := by
  have : (fun p : Pt => encPt p) = encR := funext fun ⟨a, b⟩ => rfl
  rw [show cs.map encPt = cs.map encR from congrArg (fun f => cs.map f) this]
  exact decR_map cs
theorem sides_it (k : Nat) (cs : List Pt) (h0 : 0 < cs.length) (hl : cs.length ≤ 1000) (h : MHeap) : itA k 147 0 [.rp (encPg cs) 0] h = some (sidesY cs cs.length) := by
  have e : tI 147 0 [.rp (encPg cs) 0] h = some (sidesY cs cs.length) := by
    unfold tI
    rw [if_pos rfl]
    simp only [decR_pt, h0, hl, and_self, if_true]
  unfold itA orI
  simp only [e]
theorem tPoly_eq (f : Nat) (cs : List Pt) (hl : cs.length ≤ 9223372036854775807) : tPoly f [encPg cs] [] = if f = 27 then some (.tup [I64 (areaRes cs).1, I64 (areaRes cs).2], []) else if f = 25 then some (.tup [I64 (polyCheck cs).1, I64 (polyCheck cs).2], []) else if f = 99 then some (I64 (polyCheck cs).2, []) else none := by
  unfold tPoly
  simp only [MV.elems, decR_pt, if_pos hl]
theorem polygonErr_c (k : Nat) (cs : List Pt) (hl : cs.length ≤ 1000) (h : MHeap) {e : Int} (he : (polyCheck cs).2 = e) : orA (k + 1) 99 [encPg cs] h = some (I64 e, h) := by
  have hT : tA 99 [encPg cs] [] = some (I64 e, []) := by
    have := tPoly_eq 99 cs (by omega)
    rw [← he]
    exact this
  have := callT (k := k) (h := h) (args := [encPg cs]) (frzL_lt (by simp [ltL, MV.lt, ltL_Pt])) hT (by simp [okV, ok1, MV.lt, MV.pure]) rfl
  simpa [shV, sh1] using this
theorem CheckPolygon_c (k : Nat) (cs : List Pt) (hl : cs.length ≤ 1000) (h : MHeap) {e : Int × Int} (he : polyCheck cs = e) : orA (k + 1) 25 [encPg cs] h = some (pcM e, h) := by
  have hT : tA 25 [encPg cs] [] = some (pcM e, []) := by
    have := tPoly_eq 25 cs (by omega)
    rw [← he]
    exact this
  have := callT (k := k) (h := h) (args := [encPg cs]) (frzL_lt (by simp [ltL, MV.lt, ltL_Pt])) hT (by simp [okV, ok1, MV.lt, MV.pure]) rfl
  simpa [shV, sh1] using this
theorem AreaOf_c (k : Nat) (cs : List Pt) (hl : cs.length ≤ 1000) (h : MHeap) {e : Int × Int} (he : areaRes cs = e) : orA (k + 1) 27 [encPg cs] h = some (pcM e, h) := by
  have hT : tA 27 [encPg cs] [] = some (pcM e, []) := by
    have := tPoly_eq 27 cs (by omega)
    rw [← he]
    exact this
  have := callT (k := k) (h := h) (args := [encPg cs]) (frzL_lt (by simp [ltL, MV.lt, ltL_Pt])) hT (by simp [okV, ok1, MV.lt, MV.pure]) rfl
  simpa [shV, sh1] using this
theorem headCut {keep : List Nat} {m : Nat} {A : Sl} {h1 : MHeap} (X : MHeap) (e : h1.length = m) (hl : hltL m h1 = true) (hk : ∀ t ∈ keep, ∃ v, look A t = some v ∧ v.lt m = true) : HeadIs keep m A (h1 ++ X) h1 := by
  have := HeadIs.cut (keep := keep) (m := m) (A := A) (h := h1 ++ X) hk (by rw [List.take_left' e]; exact hl)
  rwa [List.take_left' e] at this
theorem mf_sides : MT.mf 97 = some ⟨4, [(.tmp 2)], (.seq (.reg [⟨none, (some 1), (.box 1 (.s 0))⟩, ⟨none, (some 2), (.mv (.c (.lit .nilFunc)))⟩]) (.seq (.reg [⟨none, (some 3), (.mf 147 0 [(.s 1)])⟩, ⟨none, (some 2), (.mv (.s 3))⟩]) .ret))⟩ := by kernel_rfl
theorem sides_c (k : Nat) (cs : List Pt) (h : MHeap) : orA (k + 1) 97 [encPg cs] h = some (.fn 147 0 [.rp (encPg cs) 0], h) := by
  have hz : runZ MT (orA k) (itA k) 4000000 97 [encPg cs] [] = some (.fn 147 0 [.rp (encPg cs) 0], []) := by
    refine runZ_of mf_sides (by simp) ?_
    simp only [argsL]
    repeat (first | apply ef_seq | (apply ef_mv; exact rfl; exact rfl) | (apply ef_box; exact rfl; exact rfl; exact rfl; exact rfl) | (apply ef_mf; exact rfl; (repeat (apply XVs.cons; exact rfl)); exact XVs.nil) | apply ef_nil | apply seqQ.normal | apply ef_ret | apply seqQ.ret)
    exact fin_frz rfl (by exact rfl) rfl (fun _ _ _ _ h => by cases h) (by simp only [frz]; simp [MV.lt, ltL, frz, List.mapM_cons, ltL_Pt])
  have := callA (k := k) (h := h) (frzL_lt (ms := [encPg cs]) (by simp [ltL, MV.lt, ltL_Pt])) rfl hz (by simp [okV, ok1, ltL, ltL_Pt, MV.lt]) rfl
  simpa [shV, sh1] using this
abbrev inH (cs : List Pt) (x : Pt) (a : Int) : MHeap := [⟨0, false, 1, [encPg cs]⟩, ⟨0, false, 2, [encPt x]⟩, ⟨0, false, 1, [I64 0]⟩, ⟨0, false, 1, [I64 0]⟩, ⟨0, false, 1, [I64 0, I64 0]⟩, ⟨0, false, 1, [I64 a]⟩]
theorem mf_IsInside : MT.mf 28 = some ⟨49, [(.cell 4 none), (.cell 5 none)], (.seq (.reg [⟨none, (some 2), (.box 1 (.s 0))⟩, ⟨none, (some 3), (.box 2 (.s 1))⟩, ⟨none, (some 4), (.new (.lit (.int .i64 0)))⟩, ⟨none, (some 5), (.new (.lit (.int .i64 0)))⟩]) (.seq (.seq (.reg [⟨none, (some 12), (.ld (some 1) (.s 2))⟩, ⟨none, (some 13), (.call 99 [(.s 12)])⟩, ⟨none, (some 14), (.ld (some 2) (.s 3))⟩, ⟨none, (some 15), (.call 96 [(.s 14)])⟩, ⟨none, (some 16), (.bsl (.lit (.int .i64 0)) 1 2 [(0, (.s 13)), (1, (.s 15))])⟩, ⟨none, (some 17), (.call 92 [(.s 16)])⟩, ⟨none, (some 6), (.mv (.s 17))⟩]) (.seq (.reg [⟨none, (some 18), (.mv (.s 6))⟩, ⟨none, (some 19), (.bin .neq (.s 18) (.c (.lit (.int .i64 0))))⟩]) (.cond (.s 19) (.seq (.reg [⟨none, (some 20), (.mv (.s 6))⟩, ⟨none, none, (.st 1 (.s 4) (.c (.lit (.int .i64 0))))⟩, ⟨none, none, (.st 1 (.s 5) (.s 20))⟩]) .ret) .skip))) (.seq (.reg [⟨none, (some 7), (.new (.lit (.int .i64 0)))⟩, ⟨none, none, (.st 1 (.s 7) (.c (.lit (.int .i64 0))))⟩]) (.seq (.seq (.reg [⟨none, (some 21), (.ld (some 1) (.s 2))⟩, ⟨none, (some 22), (.call 97 [(.s 21)])⟩]) (.block 0 (.rf [3, 4, 5, 7] (.s 22) [23, 24] (.reg [⟨none, (some 9), (.new (.agg [(.lit (.int .i64 0)), (.lit (.int .i64 0)), (.lit (.int .i64 0)), (.lit (.int .i64 0))]))⟩, ⟨none, none, (.st 4 (.s 9) (.s 24))⟩]) (.block 1 (.seq (.seq (.reg [⟨none, (some 25), (.ld (some 4) (.s 9))⟩, ⟨none, (some 26), (.ld (some 2) (.s 3))⟩, ⟨none, (some 27), (.call 100 [(.s 25), (.s 26)])⟩]) (.cond (.s 27) (.seq (.reg [⟨none, none, (.st 1 (.s 4) (.c (.lit (.int .i64 1))))⟩, ⟨none, none, (.st 1 (.s 5) (.c (.lit (.int .i64 0))))⟩]) .ret) .skip)) (.seq (.seq (.reg [⟨none, (some 28), (.ld (some 4) (.s 9))⟩, ⟨none, (some 29), (.fa 1 (.s 3))⟩, ⟨none, (some 30), (.ld none (.s 29))⟩, ⟨none, (some 31), (.call 101 [(.s 28), (.s 30)])⟩, ⟨none, (some 32), (.un .not (.s 31))⟩]) (.cond (.s 32) (.exit 1) .skip)) (.seq (.reg [⟨none, (some 34), (.ld (some 4) (.s 9))⟩, ⟨none, (some 35), (.fa 1 (.s 3))⟩, ⟨none, (some 36), (.ld none (.s 35))⟩, ⟨none, (some 37), (.call 102 [(.s 34), (.s 36)])⟩, ⟨none, (some 33), (.mv (.s 37))⟩, ⟨none, (some 38), (.ext (.s 33) 0)⟩, ⟨none, (some 39), (.ext (.s 33) 1)⟩, ⟨none, (some 10), (.mv (.s 38))⟩, ⟨none, (some 11), (.mv (.s 39))⟩]) (.seq (.reg [⟨none, (some 40), (.mv (.s 10))⟩, ⟨none, (some 41), (.fa 0 (.s 3))⟩, ⟨none, (some 42), (.ld none (.s 41))⟩, ⟨none, (some 43), (.mv (.s 11))⟩, ⟨none, (some 44), (.bin .mul (.s 42) (.s 43))⟩, ⟨none, (some 45), (.bin .gtr (.s 40) (.s 44))⟩]) (.cond (.s 45) (.reg [⟨none, (some 46), (.ld none (.s 7))⟩, ⟨none, (some 47), (.bin .sub (.c (.lit (.int .i64 2))) (.s 46))⟩, ⟨none, none, (.st 1 (.s 7) (.s 47))⟩]) .skip))))))))) (.seq (.reg [⟨none, (some 48), (.ld none (.s 7))⟩, ⟨none, none, (.st 1 (.s 4) (.s 48))⟩, ⟨none, none, (.st 1 (.s 5) (.c (.lit (.int .i64 0))))⟩]) .ret)))))⟩ := by kernel_rfl
theorem IsInside_bad (k : Nat) (cs : List Pt) (x : Pt) (hl : cs.length ≤ 1000) (h : MHeap) {e : Int} (he : firstE [(polyCheck cs).2, posE x] = e) (h0 : e ≠ 0) : orA (k + 4) 28 [encPg cs, encPt x] h = some (pcM (0, e), h) := by
  refine callP (args' := [encPg cs, encPt x]) (frzL_lt (by simp [ltL, MV.lt, ltL_Pt])) rfl (runZ_of mf_IsInside (by simp) ?_) rfl
  have hp := fun h => polygonErr_c (k + 2) cs hl h rfl
  have hx := fun h => positionErr_c k x.1 x.2 h rfl
  rw [posE2_eq] at hx
  generalize (polyCheck cs).2 = e1 at *
  generalize posE x = e2 at *
  simp only [argsL]
  repeat (first | first | apply ef_seq | (apply ef_mv; exact rfl; exact rfl) | (apply ef_bin; exact rfl; exact rfl; exact rfl; (first | exact cmp_t rfl (by first | exact rfl | (simp only [cmpP]; omega)) | exact cmp_f rfl (by simp only [cmpP]; omega) | ((with_reducible refine bin_sub (wrap_of ?_ ?_)) <;> omega) | ((with_reducible refine bin_mul (wrap_of ?_ ?_)) <;> omega) | with_reducible exact bin_sub (by assumption) | with_reducible exact bin_mul (by assumption) | exact rfl)) | (apply ef_ldr; exact rfl; exact rfl; (first | exact rd_1 rfl | exact rd_2 rfl rfl | exact rd_4 rfl rfl rfl rfl | exact rfl)) | (apply ef_ldp; exact rfl; exact rfl; (first | exact rfl | assumption); exact rfl; (first | exact rfl | assumption); (first | exact rd_1 rfl | exact rd_2 rfl rfl | exact rd_4 rfl rfl rfl rfl | exact rfl)) | (apply ef_fap; exact rfl; exact rfl) | (apply ef_far; exact rfl; exact rfl) | (apply ef_notT; exact rfl; exact rfl) | (apply ef_notF; exact rfl; exact rfl) | (apply ef_not; exact rfl; exact rfl; exact rfl) | (apply ef_ext; exact rfl; exact rfl; exact rfl) | (apply ef_box; exact rfl; exact rfl; exact rfl; exact rfl) | (apply ef_newst; exact rfl; exact rfl; exact rfl; exact rfl; exact rfl) | (apply ef_new; exact rfl) | (apply ef_bsl; exact rfl; (repeat (apply XVs.cons; exact rfl)); exact XVs.nil; exact rfl) | (apply ef_st; exact rfl; exact rfl; exact rfl; exact rfl; exact rfl; exact rfl; (first | exact rfl | assumption); exact rfl) | apply ef_nil | apply seqQ.normal | apply ef_ret | apply seqQ.ret | apply ef_exit | apply seqQ.exit | apply blockQ.normal | apply blockQ.ret | apply blockQ.here | (apply blockQ_there; exact rfl) | apply ef_block | apply ef_skip | (apply ef_condt; exact rfl; (first | exact (rfl : true = true) | assumption | exact decide_eq_true (by omega))) | (apply ef_condf; exact rfl; (first | exact (rfl : false = false) | assumption | exact decide_eq_false (by omega))) | (apply ef_call; exact rfl; ((repeat (apply XVs.cons; exact rfl)); exact XVs.nil); (with_reducible first | exact hp _ | exact hx _)) | (apply ef_call; exact rfl; ((repeat (apply XVs.cons; exact rfl)); exact XVs.nil); (with_reducible apply first2_c); exact rfl; exact rfl; exact rfl; (first | assumption | exact rfl)))
  (apply fin_cells0; exact rfl; exact rfl; exact rfl; exact rfl; exact rfl; exact rfl; exact rfl; exact rfl; exact rfl; exact rfl)
theorem posE_of {x : Pt} (hx : InP x) : posE x = 0 := by
  unfold posE
  rw [show inB x.1 0 1000 = true from inB_iff.2 ⟨hx.1, hx.2.1⟩, show inB x.2 0 1000 = true from inB_iff.2 ⟨hx.2.2.1, hx.2.2.2⟩]; rfl
set_option maxHeartbeats 2000000 in
theorem IsInside_c (k : Nat) (cs : List Pt) (x : Pt) (hl : cs.length ≤ 1000) (h00 : 0 < cs.length) (hin : ∀ p ∈ cs, InP p) (hx : InP x) (hpc : (polyCheck cs).2 = 0) (h : MHeap) {v : Int} (hv : insI cs x = v) : orA (k + 4) 28 [encPg cs, encPt x] h = some (pcM (v, 0), h) := by
  refine callP (args' := [encPg cs, encPt x]) (frzL_lt (by simp [ltL, MV.lt, ltL_Pt])) rfl (runZ_of mf_IsInside (by simp) ?_) rfl
  have hp := fun h => polygonErr_c (k + 2) cs hl h hpc
  have hxe := fun h => positionErr_c k x.1 x.2 h ((posE2_eq x).trans (posE_of hx))
  have hsi := fun h => sides_c (k + 2) cs h
  simp only [argsL]
  repeat (first | first | apply ef_seq | (apply ef_mv; exact rfl; exact rfl) | (apply ef_bin; exact rfl; exact rfl; exact rfl; (first | exact cmp_t rfl (by first | exact rfl | (simp only [cmpP]; omega)) | exact cmp_f rfl (by simp only [cmpP]; omega) | ((with_reducible refine bin_sub (wrap_of ?_ ?_)) <;> omega) | ((with_reducible refine bin_mul (wrap_of ?_ ?_)) <;> omega) | with_reducible exact bin_sub (by assumption) | with_reducible exact bin_mul (by assumption) | exact rfl)) | (apply ef_ldr; exact rfl; exact rfl; (first | exact rd_1 rfl | exact rd_2 rfl rfl | exact rd_4 rfl rfl rfl rfl | exact rfl)) | (apply ef_ldp; exact rfl; exact rfl; (first | exact rfl | assumption); exact rfl; (first | exact rfl | assumption); (first | exact rd_1 rfl | exact rd_2 rfl rfl | exact rd_4 rfl rfl rfl rfl | exact rfl)) | (apply ef_fap; exact rfl; exact rfl) | (apply ef_far; exact rfl; exact rfl) | (apply ef_notT; exact rfl; exact rfl) | (apply ef_notF; exact rfl; exact rfl) | (apply ef_not; exact rfl; exact rfl; exact rfl) | (apply ef_ext; exact rfl; exact rfl; exact rfl) | (apply ef_box; exact rfl; exact rfl; exact rfl; exact rfl) | (apply ef_newst; exact rfl; exact rfl; exact rfl; exact rfl; exact rfl) | (apply ef_new; exact rfl) | (apply ef_bsl; exact rfl; (repeat (apply XVs.cons; exact rfl)); exact XVs.nil; exact rfl) | (apply ef_st; exact rfl; exact rfl; exact rfl; exact rfl; exact rfl; exact rfl; (first | exact rfl | assumption); exact rfl) | apply ef_nil | apply seqQ.normal | apply ef_ret | apply seqQ.ret | apply ef_exit | apply seqQ.exit | apply blockQ.normal | apply blockQ.ret | apply blockQ.here | (apply blockQ_there; exact rfl) | apply ef_block | apply ef_skip | (apply ef_condt; exact rfl; (first | exact (rfl : true = true) | assumption | exact decide_eq_true (by omega))) | (apply ef_condf; exact rfl; (first | exact (rfl : false = false) | assumption | exact decide_eq_false (by omega))) | (apply ef_call; exact rfl; ((repeat (apply XVs.cons; exact rfl)); exact XVs.nil); (with_reducible first | exact hp _ | exact hxe _ | exact hsi _)) | (apply ef_call; exact rfl; ((repeat (apply XVs.cons; exact rfl)); exact XVs.nil); (with_reducible apply first2_c); exact rfl; exact rfl; exact rfl; (first | assumption | exact rfl)))
  refine ef_rf (α := Int × MHeap) (ids := []) (fun i s => s.1 = ansI (cntR cs x i) ∧ onAny cs x i = false) [(3, .ptr 1 0 0 0), (4, .ptr 2 0 0 0), (5, .ptr 3 0 0 0), (7, .ptr 5 0 0 0)] (fun s => inH cs x s.1 ++ s.2) (fun s => inH cs x s.1)
    (0, []) (by exact rfl) (sides_it (k + 3) cs h00 hl _) (by simp [sidesY]) (idsL_lt0 (by simp [ltL, MV.lt, ltL_Pt])) (by ((repeat (refine Hold.cons (by exact rfl) ?_)); exact Hold.nil)) rfl rfl rfl ⟨rfl, rfl⟩ rfl ?_ ?_ ?_
  · rintro i ⟨a, X⟩ _
    refine headCut X rfl (by simp [hltL, ltL, MV.lt, ltL_Pt]) fun u hu => ?_
    simp only [List.mem_cons, List.not_mem_nil, or_false] at hu
    rcases hu with rfl | rfl | rfl | rfl
    · exact ⟨.ptr 1 0 0 0, by exact rfl, by simp [MV.lt]⟩
    · exact ⟨.ptr 2 0 0 0, by exact rfl, by simp [MV.lt]⟩
    · exact ⟨.ptr 3 0 0 0, by exact rfl, by simp [MV.lt]⟩
    · exact ⟨.ptr 5 0 0 0, by exact rfl, by simp [MV.lt]⟩
  · rintro i ⟨a, X⟩ x' hx' ⟨ha, ho⟩
    simp only at ha ho ⊢
    obtain ⟨hi, rfl⟩ : i < cs.length ∧ x' = [I64 (i : Int), encSd (corner cs i) (nextC cs i)] := by
      unfold sidesY at hx'
      rw [List.getElem?_map] at hx'
      by_cases hi : i < cs.length
      · rw [List.getElem?_range hi] at hx'
        simp only [Option.map_some, Option.some.injEq] at hx'
        exact ⟨hi, hx'.symm⟩
      · rw [List.getElem?_eq_none (by simp; omega)] at hx'; cases hx'
    have q1 := corner_inP hin i
    have q2 := nextC_inP hin i
    have hon := fun {b} (hb : onS (corner cs i) (nextC cs i) x = b) h => sdHas_c (k + 1) _ _ _ q1 q2 hx h hb
    have hcr := fun {b} (hb : crossS (corner cs i) (nextC cs i) x.2 = b) h => sdCrosses_c (k + 2) (corner cs i) (nextC cs i) x.2 h hb
    have hat := fun h => sdAt_c (k + 2) (corner cs i) (nextC cs i) x.2 q1 q2 ⟨hx.2.2.1, hx.2.2.2⟩ h
    have HA := Lib.hid ha
    have HO := Lib.hid ho
    have HC1 := Lib.hid (show cntR cs x (i + 1) = cntR cs x i + if rightS (corner cs i) (nextC cs i) x then 1 else 0 from rfl)
    have HO1 := Lib.hid (show onAny cs x (i + 1) = (onAny cs x i || onS (corner cs i) (nextC cs i) x) from rfl)
    have HI := Lib.hid (fun hb => ins_on (cs := cs) (x := x) hi hb)
    have hR : rightS (corner cs i) (nextC cs i) x = (crossS (corner cs i) (nextC cs i) x.2 && decide (x.1 * atD (corner cs i) (nextC cs i) < atN (corner cs i) (nextC cs i) x.2)) := rfl
    have hDb : 0 ≤ atD (corner cs i) (nextC cs i) ∧ atD (corner cs i) (nextC cs i) ≤ 1000 := by
      unfold atD
      obtain ⟨p1, p2, p3, p4⟩ := q1
      obtain ⟨p5, p6, p7, p8⟩ := q2
      split <;> omega
    have hAb : 0 ≤ a ∧ a ≤ 2 := by rw [ha]; unfold ansI; split <;> omega
    have hst := Lib.hid (show 2 - a = ansI (cntR cs x i + 1) by rw [ha]; exact ans_step _)
    clear ha ho hx'
    generalize corner cs i = p at *
    generalize nextC cs i = q at *
    simp only [putA]
    repeat (first | apply ef_seq | (apply ef_mv; exact rfl; exact rfl) | (apply ef_bin; exact rfl; exact rfl; exact rfl; (first | exact cmp_t rfl (by first | exact rfl | (simp only [cmpP]; omega)) | exact cmp_f rfl (by simp only [cmpP]; omega) | ((with_reducible refine bin_sub (wrap_of ?_ ?_)) <;> omega) | ((with_reducible refine bin_mul (wrap_of ?_ ?_)) <;> omega) | with_reducible exact bin_sub (by assumption) | with_reducible exact bin_mul (by assumption) | exact rfl)) | (apply ef_ldr; exact rfl; exact rfl; (first | exact rd_1 rfl | exact rd_2 rfl rfl | exact rd_4 rfl rfl rfl rfl | exact rfl)) | (apply ef_ldp; exact rfl; exact rfl; (first | exact rfl | assumption); exact rfl; (first | exact rfl | assumption); (first | exact rd_1 rfl | exact rd_2 rfl rfl | exact rd_4 rfl rfl rfl rfl | exact rfl)) | (apply ef_fap; exact rfl; exact rfl) | (apply ef_far; exact rfl; exact rfl) | (apply ef_notT; exact rfl; exact rfl) | (apply ef_notF; exact rfl; exact rfl) | (apply ef_not; exact rfl; exact rfl; exact rfl) | (apply ef_ext; exact rfl; exact rfl; exact rfl) | (apply ef_box; exact rfl; exact rfl; exact rfl; exact rfl) | (apply ef_newst; exact rfl; exact rfl; exact rfl; exact rfl; exact rfl) | (apply ef_new; exact rfl) | (apply ef_bsl; exact rfl; (repeat (apply XVs.cons; exact rfl)); exact XVs.nil; exact rfl) | (apply ef_st; exact rfl; exact rfl; exact rfl; exact rfl; exact rfl; exact rfl; (first | exact rfl | assumption); exact rfl) | apply ef_nil | apply seqQ.normal | apply ef_ret | apply seqQ.ret | apply ef_exit | apply seqQ.exit | apply blockQ.normal | apply blockQ.ret | apply blockQ.here | (apply blockQ_there; exact rfl) | apply ef_block | apply ef_skip | (apply ef_condt; exact rfl; (first | exact (rfl : true = true) | assumption | exact decide_eq_true (by omega))) | (apply ef_condf; exact rfl; (first | exact (rfl : false = false) | assumption | exact decide_eq_false (by omega))))
    apply preQ.normal
    cases h1 : onS p q x
    · have hon := hon h1
      rw [h1] at HO1
      cases h2 : crossS p q x.2
      · have hcr := hcr h2
        rw [h2, Bool.false_and] at hR
        rw [hR] at HC1
        repeat (first | first | apply ef_seq | (apply ef_mv; exact rfl; exact rfl) | (apply ef_bin; exact rfl; exact rfl; exact rfl; (first | exact cmp_t rfl (by first | exact rfl | (simp only [cmpP]; omega)) | exact cmp_f rfl (by simp only [cmpP]; omega) | ((with_reducible refine bin_sub (wrap_of ?_ ?_)) <;> omega) | ((with_reducible refine bin_mul (wrap_of ?_ ?_)) <;> omega) | with_reducible exact bin_sub (by assumption) | with_reducible exact bin_mul (by assumption) | exact rfl)) | (apply ef_ldr; exact rfl; exact rfl; (first | exact rd_1 rfl | exact rd_2 rfl rfl | exact rd_4 rfl rfl rfl rfl | exact rfl)) | (apply ef_ldp; exact rfl; exact rfl; (first | exact rfl | assumption); exact rfl; (first | exact rfl | assumption); (first | exact rd_1 rfl | exact rd_2 rfl rfl | exact rd_4 rfl rfl rfl rfl | exact rfl)) | (apply ef_fap; exact rfl; exact rfl) | (apply ef_far; exact rfl; exact rfl) | (apply ef_notT; exact rfl; exact rfl) | (apply ef_notF; exact rfl; exact rfl) | (apply ef_not; exact rfl; exact rfl; exact rfl) | (apply ef_ext; exact rfl; exact rfl; exact rfl) | (apply ef_box; exact rfl; exact rfl; exact rfl; exact rfl) | (apply ef_newst; exact rfl; exact rfl; exact rfl; exact rfl; exact rfl) | (apply ef_new; exact rfl) | (apply ef_bsl; exact rfl; (repeat (apply XVs.cons; exact rfl)); exact XVs.nil; exact rfl) | (apply ef_st; exact rfl; exact rfl; exact rfl; exact rfl; exact rfl; exact rfl; (first | exact rfl | assumption); exact rfl) | apply ef_nil | apply seqQ.normal | apply ef_ret | apply seqQ.ret | apply ef_exit | apply seqQ.exit | apply blockQ.normal | apply blockQ.ret | apply blockQ.here | (apply blockQ_there; exact rfl) | apply ef_block | apply ef_skip | (apply ef_condt; exact rfl; (first | exact (rfl : true = true) | assumption | exact decide_eq_true (by omega))) | (apply ef_condf; exact rfl; (first | exact (rfl : false = false) | assumption | exact decide_eq_false (by omega))) | (apply ef_call; exact rfl; ((repeat (apply XVs.cons; exact rfl)); exact XVs.nil); (with_reducible first | exact hon _ | exact hcr _)))
        apply rfQ.normal
        exact ⟨(a, [⟨0, false, 4, [encSd p q]⟩]), ⟨by simp only; rw [HC1.out, HA.out]; rfl, by rw [HO1.out, HO.out]; rfl⟩, rfl⟩
      · have hcr := hcr h2
        rw [h2, Bool.true_and] at hR
        rw [hR] at HC1
        obtain ⟨hD1, hD2⟩ := hDb
        have hmb := mul_bd (a := x.1) (b := atD p q) (A := 1000) (B := 1000) (by have := hx.1; omega) hx.2.1 (by omega) hD2
        clear hR
        generalize atN p q x.2 = N at *
        generalize atD p q = D at *
        generalize hp1 : x.1 * D = P1 at *
        have w1 : IntKind.i64.wrap (x.1 * D) = P1 := by rw [hp1]; exact wrap_of (by omega) (by omega)
        clear hp1
        by_cases h3 : P1 < N
        · rw [decide_eq_true h3] at HC1
          repeat (first | first | apply ef_seq | (apply ef_mv; exact rfl; exact rfl) | (apply ef_bin; exact rfl; exact rfl; exact rfl; (first | exact cmp_t rfl (by first | exact rfl | (simp only [cmpP]; omega)) | exact cmp_f rfl (by simp only [cmpP]; omega) | ((with_reducible refine bin_sub (wrap_of ?_ ?_)) <;> omega) | ((with_reducible refine bin_mul (wrap_of ?_ ?_)) <;> omega) | with_reducible exact bin_sub (by assumption) | with_reducible exact bin_mul (by assumption) | exact rfl)) | (apply ef_ldr; exact rfl; exact rfl; (first | exact rd_1 rfl | exact rd_2 rfl rfl | exact rd_4 rfl rfl rfl rfl | exact rfl)) | (apply ef_ldp; exact rfl; exact rfl; (first | exact rfl | assumption); exact rfl; (first | exact rfl | assumption); (first | exact rd_1 rfl | exact rd_2 rfl rfl | exact rd_4 rfl rfl rfl rfl | exact rfl)) | (apply ef_fap; exact rfl; exact rfl) | (apply ef_far; exact rfl; exact rfl) | (apply ef_notT; exact rfl; exact rfl) | (apply ef_notF; exact rfl; exact rfl) | (apply ef_not; exact rfl; exact rfl; exact rfl) | (apply ef_ext; exact rfl; exact rfl; exact rfl) | (apply ef_box; exact rfl; exact rfl; exact rfl; exact rfl) | (apply ef_newst; exact rfl; exact rfl; exact rfl; exact rfl; exact rfl) | (apply ef_new; exact rfl) | (apply ef_bsl; exact rfl; (repeat (apply XVs.cons; exact rfl)); exact XVs.nil; exact rfl) | (apply ef_st; exact rfl; exact rfl; exact rfl; exact rfl; exact rfl; exact rfl; (first | exact rfl | assumption); exact rfl) | apply ef_nil | apply seqQ.normal | apply ef_ret | apply seqQ.ret | apply ef_exit | apply seqQ.exit | apply blockQ.normal | apply blockQ.ret | apply blockQ.here | (apply blockQ_there; exact rfl) | apply ef_block | apply ef_skip | (apply ef_condt; exact rfl; (first | exact (rfl : true = true) | assumption | exact decide_eq_true (by omega))) | (apply ef_condf; exact rfl; (first | exact (rfl : false = false) | assumption | exact decide_eq_false (by omega))) | (apply ef_call; exact rfl; ((repeat (apply XVs.cons; exact rfl)); exact XVs.nil); (with_reducible first | exact hon _ | exact hcr _ | exact hat _)))
          apply rfQ.normal
          exact ⟨(2 - a, [⟨0, false, 4, [encSd p q]⟩]), ⟨by simp only; rw [hst.out, HC1.out]; rfl, by rw [HO1.out, HO.out]; rfl⟩, rfl⟩
        · rw [decide_eq_false h3] at HC1
          repeat (first | first | apply ef_seq | (apply ef_mv; exact rfl; exact rfl) | (apply ef_bin; exact rfl; exact rfl; exact rfl; (first | exact cmp_t rfl (by first | exact rfl | (simp only [cmpP]; omega)) | exact cmp_f rfl (by simp only [cmpP]; omega) | ((with_reducible refine bin_sub (wrap_of ?_ ?_)) <;> omega) | ((with_reducible refine bin_mul (wrap_of ?_ ?_)) <;> omega) | with_reducible exact bin_sub (by assumption) | with_reducible exact bin_mul (by assumption) | exact rfl)) | (apply ef_ldr; exact rfl; exact rfl; (first | exact rd_1 rfl | exact rd_2 rfl rfl | exact rd_4 rfl rfl rfl rfl | exact rfl)) | (apply ef_ldp; exact rfl; exact rfl; (first | exact rfl | assumption); exact rfl; (first | exact rfl | assumption); (first | exact rd_1 rfl | exact rd_2 rfl rfl | exact rd_4 rfl rfl rfl rfl | exact rfl)) | (apply ef_fap; exact rfl; exact rfl) | (apply ef_far; exact rfl; exact rfl) | (apply ef_notT; exact rfl; exact rfl) | (apply ef_notF; exact rfl; exact rfl) | (apply ef_not; exact rfl; exact rfl; exact rfl) | (apply ef_ext; exact rfl; exact rfl; exact rfl) | (apply ef_box; exact rfl; exact rfl; exact rfl; exact rfl) | (apply ef_newst; exact rfl; exact rfl; exact rfl; exact rfl; exact rfl) | (apply ef_new; exact rfl) | (apply ef_bsl; exact rfl; (repeat (apply XVs.cons; exact rfl)); exact XVs.nil; exact rfl) | (apply ef_st; exact rfl; exact rfl; exact rfl; exact rfl; exact rfl; exact rfl; (first | exact rfl | assumption); exact rfl) | apply ef_nil | apply seqQ.normal | apply ef_ret | apply seqQ.ret | apply ef_exit | apply seqQ.exit | apply blockQ.normal | apply blockQ.ret | apply blockQ.here | (apply blockQ_there; exact rfl) | apply ef_block | apply ef_skip | (apply ef_condt; exact rfl; (first | exact (rfl : true = true) | assumption | exact decide_eq_true (by omega))) | (apply ef_condf; exact rfl; (first | exact (rfl : false = false) | assumption | exact decide_eq_false (by omega))) | (apply ef_call; exact rfl; ((repeat (apply XVs.cons; exact rfl)); exact XVs.nil); (with_reducible first | exact hon _ | exact hcr _ | exact hat _)))
          apply rfQ.normal
          exact ⟨(a, [⟨0, false, 4, [encSd p q]⟩]), ⟨by simp only; rw [HC1.out, HA.out]; rfl, by rw [HO1.out, HO.out]; rfl⟩, rfl⟩
    · have hon := hon h1
      have HI := HI.out h1
      repeat (first | first | apply ef_seq | (apply ef_mv; exact rfl; exact rfl) | (apply ef_bin; exact rfl; exact rfl; exact rfl; (first | exact cmp_t rfl (by first | exact rfl | (simp only [cmpP]; omega)) | exact cmp_f rfl (by simp only [cmpP]; omega) | ((with_reducible refine bin_sub (wrap_of ?_ ?_)) <;> omega) | ((with_reducible refine bin_mul (wrap_of ?_ ?_)) <;> omega) | with_reducible exact bin_sub (by assumption) | with_reducible exact bin_mul (by assumption) | exact rfl)) | (apply ef_ldr; exact rfl; exact rfl; (first | exact rd_1 rfl | exact rd_2 rfl rfl | exact rd_4 rfl rfl rfl rfl | exact rfl)) | (apply ef_ldp; exact rfl; exact rfl; (first | exact rfl | assumption); exact rfl; (first | exact rfl | assumption); (first | exact rd_1 rfl | exact rd_2 rfl rfl | exact rd_4 rfl rfl rfl rfl | exact rfl)) | (apply ef_fap; exact rfl; exact rfl) | (apply ef_far; exact rfl; exact rfl) | (apply ef_notT; exact rfl; exact rfl) | (apply ef_notF; exact rfl; exact rfl) | (apply ef_not; exact rfl; exact rfl; exact rfl) | (apply ef_ext; exact rfl; exact rfl; exact rfl) | (apply ef_box; exact rfl; exact rfl; exact rfl; exact rfl) | (apply ef_newst; exact rfl; exact rfl; exact rfl; exact rfl; exact rfl) | (apply ef_new; exact rfl) | (apply ef_bsl; exact rfl; (repeat (apply XVs.cons; exact rfl)); exact XVs.nil; exact rfl) | (apply ef_st; exact rfl; exact rfl; exact rfl; exact rfl; exact rfl; exact rfl; (first | exact rfl | assumption); exact rfl) | apply ef_nil | apply seqQ.normal | apply ef_ret | apply seqQ.ret | apply ef_exit | apply seqQ.exit | apply blockQ.normal | apply blockQ.ret | apply blockQ.here | (apply blockQ_there; exact rfl) | apply ef_block | apply ef_skip | (apply ef_condt; exact rfl; (first | exact (rfl : true = true) | assumption | exact decide_eq_true (by omega))) | (apply ef_condf; exact rfl; (first | exact (rfl : false = false) | assumption | exact decide_eq_false (by omega))) | (apply ef_call; exact rfl; ((repeat (apply XVs.cons; exact rfl)); exact XVs.nil); (with_reducible first | exact hon _)))
      apply rfQ.ret
      repeat (first | apply ef_seq | (apply ef_mv; exact rfl; exact rfl) | (apply ef_bin; exact rfl; exact rfl; exact rfl; (first | exact cmp_t rfl (by first | exact rfl | (simp only [cmpP]; omega)) | exact cmp_f rfl (by simp only [cmpP]; omega) | ((with_reducible refine bin_sub (wrap_of ?_ ?_)) <;> omega) | ((with_reducible refine bin_mul (wrap_of ?_ ?_)) <;> omega) | with_reducible exact bin_sub (by assumption) | with_reducible exact bin_mul (by assumption) | exact rfl)) | (apply ef_ldr; exact rfl; exact rfl; (first | exact rd_1 rfl | exact rd_2 rfl rfl | exact rd_4 rfl rfl rfl rfl | exact rfl)) | (apply ef_ldp; exact rfl; exact rfl; (first | exact rfl | assumption); exact rfl; (first | exact rfl | assumption); (first | exact rd_1 rfl | exact rd_2 rfl rfl | exact rd_4 rfl rfl rfl rfl | exact rfl)) | (apply ef_fap; exact rfl; exact rfl) | (apply ef_far; exact rfl; exact rfl) | (apply ef_notT; exact rfl; exact rfl) | (apply ef_notF; exact rfl; exact rfl) | (apply ef_not; exact rfl; exact rfl; exact rfl) | (apply ef_ext; exact rfl; exact rfl; exact rfl) | (apply ef_box; exact rfl; exact rfl; exact rfl; exact rfl) | (apply ef_newst; exact rfl; exact rfl; exact rfl; exact rfl; exact rfl) | (apply ef_new; exact rfl) | (apply ef_bsl; exact rfl; (repeat (apply XVs.cons; exact rfl)); exact XVs.nil; exact rfl) | (apply ef_st; exact rfl; exact rfl; exact rfl; exact rfl; exact rfl; exact rfl; (first | exact rfl | assumption); exact rfl) | apply ef_nil | apply seqQ.normal | apply ef_ret | apply seqQ.ret | apply ef_exit | apply seqQ.exit | apply blockQ.normal | apply blockQ.ret | apply blockQ.here | (apply blockQ_there; exact rfl) | apply ef_block | apply ef_skip | (apply ef_condt; exact rfl; (first | exact (rfl : true = true) | assumption | exact decide_eq_true (by omega))) | (apply ef_condf; exact rfl; (first | exact (rfl : false = false) | assumption | exact decide_eq_false (by omega))))
      (apply fin_cells0; exact rfl; exact rfl; exact rfl; exact rfl; exact rfl; exact rfl; exact rfl; exact rfl; exact rfl; (rw [← hv, HI]))
  · rintro ⟨a, X⟩ ⟨ha, ho⟩
    simp only at ha ho ⊢
    rw [show (sidesY cs cs.length).length = cs.length by simp [sidesY]] at ha ho
    have hend := ins_end ho
    rw [← ha, hv] at hend
    subst hend
    repeat (first | apply ef_seq | (apply ef_mv; exact rfl; exact rfl) | (apply ef_bin; exact rfl; exact rfl; exact rfl; (first | exact cmp_t rfl (by first | exact rfl | (simp only [cmpP]; omega)) | exact cmp_f rfl (by simp only [cmpP]; omega) | ((with_reducible refine bin_sub (wrap_of ?_ ?_)) <;> omega) | ((with_reducible refine bin_mul (wrap_of ?_ ?_)) <;> omega) | with_reducible exact bin_sub (by assumption) | with_reducible exact bin_mul (by assumption) | exact rfl)) | (apply ef_ldr; exact rfl; exact rfl; (first | exact rd_1 rfl | exact rd_2 rfl rfl | exact rd_4 rfl rfl rfl rfl | exact rfl)) | (apply ef_ldp; exact rfl; exact rfl; (first | exact rfl | assumption); exact rfl; (first | exact rfl | assumption); (first | exact rd_1 rfl | exact rd_2 rfl rfl | exact rd_4 rfl rfl rfl rfl | exact rfl)) | (apply ef_fap; exact rfl; exact rfl) | (apply ef_far; exact rfl; exact rfl) | (apply ef_notT; exact rfl; exact rfl) | (apply ef_notF; exact rfl; exact rfl) | (apply ef_not; exact rfl; exact rfl; exact rfl) | (apply ef_ext; exact rfl; exact rfl; exact rfl) | (apply ef_box; exact rfl; exact rfl; exact rfl; exact rfl) | (apply ef_newst; exact rfl; exact rfl; exact rfl; exact rfl; exact rfl) | (apply ef_new; exact rfl) | (apply ef_bsl; exact rfl; (repeat (apply XVs.cons; exact rfl)); exact XVs.nil; exact rfl) | (apply ef_st; exact rfl; exact rfl; exact rfl; exact rfl; exact rfl; exact rfl; (first | exact rfl | assumption); exact rfl) | apply ef_nil | apply seqQ.normal | apply ef_ret | apply seqQ.ret | apply ef_exit | apply seqQ.exit | apply blockQ.normal | apply blockQ.ret | apply blockQ.here | (apply blockQ_there; exact rfl) | apply ef_block | apply ef_skip | (apply ef_condt; exact rfl; (first | exact (rfl : true = true) | assumption | exact decide_eq_true (by omega))) | (apply ef_condf; exact rfl; (first | exact (rfl : false = false) | assumption | exact decide_eq_false (by omega))))
    (apply fin_cells0; exact rfl; exact rfl; exact rfl; exact rfl; exact rfl; exact rfl; exact rfl; exact rfl; exact rfl; exact rfl)
end Go.Proofs.Ytgjpdjihjphbdaa

/- The examples that every law begins with. -/
namespace Go.Proofs.Ytgjpdjihjphbdaa
open Go.RowKit

theorem awake_z : runZ MT (orA 11) (itA 11) 4000000 15 [] [] = some (.lit (.bool true), []) := by kernel_rfl
end Go.Proofs.Ytgjpdjihjphbdaa

/- The law of polygons: the walk. -/
namespace Go.Proofs.Ytgjpdjihjphbdaa
open Go.RowKit
set_option linter.unusedVariables false

theorem awakeP_c (h : MHeap) : orA 12 15 [] h = some (Bo true, h) := callL (args' := []) rfl rfl awake_z
theorem polyCheck_zero {cs : List Pt} (h : (polyCheck cs).2 = 0) : (3 ≤ cs.length ∧ cs.length ≤ 12) ∧ ∀ p ∈ cs, InP p := by
  unfold polyCheck at h
  split at h
  · rename_i h0; exact absurd h h0
  · rename_i h0
    have h1 := shapeE_zero (by simpa using h0)
    refine ⟨h1, ?_⟩
    split at h
    · rename_i i hi
      have := List.find?_some hi
      simp only [bne_iff_ne] at this
      exact absurd h this
    · rename_i hn
      rw [List.find?_eq_none] at hn
      refine inP_all fun j hj => ?_
      have := hn j (List.mem_range.2 hj)
      simpa using this
theorem fin_cellP {x : MX2} {A : Sl} {h : MHeap} {t id i off g : Nat} {ag : Option Nat} {o : MObj} {e : MV} {cs : List MV} {m : MV} (hx : outX x = true) (hp : look A t = some (.ptr id i off g)) (ho : h[id]? = some o) (hg : o.g = g) (he : o.es[i]? = some e) (hv : rdCells e.cells off ag = some (.agg cs)) (hf : frz 0 [] h 8 (.agg cs) = some m) : FinF [.cell t ag] m [] x A h :=
  ⟨hx, [.agg cs], [m], ⟨.agg cs, [], rfl, ⟨id, i, off, g, o, e, hp, ho, hg, he, hv⟩, rfl⟩, by simp [impIds], by simp [impIds, expL, hf], rfl⟩
theorem mf_rCopyP : MT.mf 26 = some ⟨8, [(.cell 2 (some 1))], (.seq (.reg [⟨none, (some 1), (.box 1 (.s 0))⟩, ⟨none, (some 2), (.new (.agg [(.lit (.slice none 0 0))]))⟩]) (.seq (.reg [⟨none, (some 3), (.bsl (.agg [(.lit (.int .i64 0)), (.lit (.int .i64 0))]) 2 0 [])⟩, ⟨none, (some 4), (.fa 0 (.s 1))⟩, ⟨none, (some 5), (.ld none (.s 4))⟩, ⟨none, (some 6), (.app 2 (.s 3) (.s 5))⟩, ⟨none, (some 7), (.build [(.lit (.slice none 0 0))] [(0, (1, (.s 6)))])⟩, ⟨none, none, (.st 1 (.s 2) (.s 7))⟩]) .ret))⟩ := by kernel_rfl
theorem rCopyP_c (k : Nat) (cs : List Pt) (hl : cs.length ≤ 1000) (h : MHeap) : orA (k + 1) 26 [encPg cs] h = some (encPg cs, h) := by
  have hz : runZ MT (orA k) (itA k) 4000000 26 [encPg cs] [] = some (encPg cs, []) := by
    refine runZ_of mf_rCopyP (by simp) ?_
    simp only [argsL]
    cases cs with
    | nil =>
      repeat (first | apply ef_seq | (apply ef_ldr; exact rfl; exact rfl; (first | exact rfl)) | (apply ef_ldp; exact rfl; exact rfl; exact rfl; exact rfl; (first | exact rfl | assumption); (first | exact rfl)) | (apply ef_fap; exact rfl; exact rfl) | (apply ef_far; exact rfl; exact rfl) | (apply ef_box; exact rfl; exact rfl; exact rfl; exact rfl) | (apply ef_new; exact rfl) | (apply ef_build; exact rfl; (repeat (apply XVs.cons; exact rfl)); exact XVs.nil; exact rfl; exact rfl) | (apply ef_bsl; exact rfl; (repeat (apply XVs.cons; exact rfl)); exact XVs.nil; exact rfl) | (apply ef_st; exact rfl; exact rfl; exact rfl; exact rfl; exact rfl; exact rfl; (first | exact rfl | assumption); exact rfl) | apply ef_nil | apply seqQ.normal | apply ef_ret | apply seqQ.ret)
      (apply ef_app0; exact rfl; exact rfl; exact rfl; exact rfl; exact rfl; exact rfl; exact rfl; exact rfl)
      repeat (first | apply ef_seq | (apply ef_ldr; exact rfl; exact rfl; (first | exact rfl)) | (apply ef_ldp; exact rfl; exact rfl; exact rfl; exact rfl; (first | exact rfl | assumption); (first | exact rfl)) | (apply ef_fap; exact rfl; exact rfl) | (apply ef_far; exact rfl; exact rfl) | (apply ef_box; exact rfl; exact rfl; exact rfl; exact rfl) | (apply ef_new; exact rfl) | (apply ef_build; exact rfl; (repeat (apply XVs.cons; exact rfl)); exact XVs.nil; exact rfl; exact rfl) | (apply ef_bsl; exact rfl; (repeat (apply XVs.cons; exact rfl)); exact XVs.nil; exact rfl) | (apply ef_st; exact rfl; exact rfl; exact rfl; exact rfl; exact rfl; exact rfl; (first | exact rfl | assumption); exact rfl) | apply ef_nil | apply seqQ.normal | apply ef_ret | apply seqQ.ret)
      (apply fin_cellP; exact rfl; exact rfl; exact rfl; exact rfl; exact rfl; (exact rd_1 rfl); (simp [frz, MV.lt, ltL]))
    | cons p cs =>
      have hs : ((p :: cs).map encPt).all (MV.sOk 2) = true := by
        rw [List.all_eq_true]
        intro m hm
        obtain ⟨q, _, rfl⟩ := List.mem_map.1 hm
        rfl
      repeat (first | apply ef_seq | (apply ef_ldr; exact rfl; exact rfl; (first | exact rfl)) | (apply ef_ldp; exact rfl; exact rfl; exact rfl; exact rfl; (first | exact rfl | assumption); (first | exact rfl)) | (apply ef_fap; exact rfl; exact rfl) | (apply ef_far; exact rfl; exact rfl) | (apply ef_box; exact rfl; exact rfl; exact rfl; exact rfl) | (apply ef_new; exact rfl) | (apply ef_build; exact rfl; (repeat (apply XVs.cons; exact rfl)); exact XVs.nil; exact rfl; exact rfl) | (apply ef_bsl; exact rfl; (repeat (apply XVs.cons; exact rfl)); exact XVs.nil; exact rfl) | (apply ef_st; exact rfl; exact rfl; exact rfl; exact rfl; exact rfl; exact rfl; (first | exact rfl | assumption); exact rfl) | apply ef_nil | apply seqQ.normal | apply ef_ret | apply seqQ.ret)
      (apply ef_app; (· exact rfl); (· exact rfl); (· exact rfl); (· exact rfl); (· exact rfl); (· exact rfl); (· exact rfl); (· exact rfl); (· (simp at hl ⊢; omega)); (· exact hs); (· exact rfl))
      repeat (first | apply ef_seq | (apply ef_ldr; exact rfl; exact rfl; (first | exact rfl)) | (apply ef_ldp; exact rfl; exact rfl; exact rfl; exact rfl; (first | exact rfl | assumption); (first | exact rfl)) | (apply ef_fap; exact rfl; exact rfl) | (apply ef_far; exact rfl; exact rfl) | (apply ef_box; exact rfl; exact rfl; exact rfl; exact rfl) | (apply ef_new; exact rfl) | (apply ef_build; exact rfl; (repeat (apply XVs.cons; exact rfl)); exact XVs.nil; exact rfl; exact rfl) | (apply ef_bsl; exact rfl; (repeat (apply XVs.cons; exact rfl)); exact XVs.nil; exact rfl) | (apply ef_st; exact rfl; exact rfl; exact rfl; exact rfl; exact rfl; exact rfl; (first | exact rfl | assumption); exact rfl) | apply ef_nil | apply seqQ.normal | apply ef_ret | apply seqQ.ret)
      (apply fin_cellP; exact rfl; exact rfl; exact rfl; exact rfl; exact rfl; (exact rd_1 rfl); (simp [frz, MV.lt, ltL, ltL_Pt]; rw [List.take_of_length_le (by simp)]))
  have := callA (k := k) (h := h) (frzL_lt (ms := [encPg cs]) (by simp [ltL, MV.lt, ltL_Pt])) rfl hz (by simp [okV, ok1, ltL, ltL_Pt, MV.lt]) rfl
  simpa [shV, sh1] using this
theorem mf_fewP : MT.mf 24 = some ⟨7, [(.tmp 2)], (.seq (.reg [⟨none, (some 1), (.box 1 (.s 0))⟩, ⟨none, (some 2), (.mv (.c (.lit (.bool false))))⟩]) (.seq (.reg [⟨none, (some 3), (.fa 0 (.s 1))⟩, ⟨none, (some 4), (.ld none (.s 3))⟩, ⟨none, (some 5), (.len (.s 4))⟩, ⟨none, (some 6), (.bin .leq (.s 5) (.c (.lit (.int .i64 14))))⟩, ⟨none, (some 2), (.mv (.s 6))⟩]) .ret))⟩ := by kernel_rfl
theorem fewP_c (k : Nat) (cs : List Pt) (h : MHeap) {b : Bool} (hb : decide (cs.length ≤ 14) = b) : orA (k + 1) 24 [encPg cs] h = some (Bo b, h) := by
  refine callL (args' := [encPg cs]) (frzL_lt (by simp [ltL, MV.lt, ltL_Pt])) rfl (runZ_of mf_fewP (by simp) ?_)
  have hs : (MV.sl (cs.map encPt)).slen = some cs.length := by simp [MV.slen]
  simp only [argsL]
  by_cases hc : cs.length ≤ 14
  · repeat (first | apply ef_seq | (apply ef_mv; exact rfl; exact rfl) | (apply ef_bin; exact rfl; exact rfl; exact rfl; (first | exact cmp_t rfl (by first | exact rfl | (simp only [cmpP]; omega)) | exact cmp_f rfl (by simp only [cmpP]; omega) | exact rfl)) | (apply ef_len; exact rfl; exact rfl; (first | assumption | exact rfl)) | (apply ef_ldr; exact rfl; exact rfl; (first | exact rfl)) | (apply ef_ldp; exact rfl; exact rfl; exact rfl; exact rfl; (first | exact rfl | assumption); (first | exact rfl)) | (apply ef_fap; exact rfl; exact rfl) | (apply ef_far; exact rfl; exact rfl) | (apply ef_box; exact rfl; exact rfl; exact rfl; exact rfl) | apply ef_nil | apply seqQ.normal | apply ef_ret | apply seqQ.ret)
    (refine fin1 rfl (by exact rfl) rfl ?_)
    rw [← hb, decide_eq_true hc]
  · repeat (first | apply ef_seq | (apply ef_mv; exact rfl; exact rfl) | (apply ef_bin; exact rfl; exact rfl; exact rfl; (first | exact cmp_t rfl (by first | exact rfl | (simp only [cmpP]; omega)) | exact cmp_f rfl (by simp only [cmpP]; omega) | exact rfl)) | (apply ef_len; exact rfl; exact rfl; (first | assumption | exact rfl)) | (apply ef_ldr; exact rfl; exact rfl; (first | exact rfl)) | (apply ef_ldp; exact rfl; exact rfl; exact rfl; exact rfl; (first | exact rfl | assumption); (first | exact rfl)) | (apply ef_fap; exact rfl; exact rfl) | (apply ef_far; exact rfl; exact rfl) | (apply ef_box; exact rfl; exact rfl; exact rfl; exact rfl) | apply ef_nil | apply seqQ.normal | apply ef_ret | apply seqQ.ret)
    (refine fin1 rfl (by exact rfl) rfl ?_)
    rw [← hb, decide_eq_false hc]
theorem mf_DrapePolygons : MT.mf 4 = some ⟨96, [(.tmp 4)], (.seq (.reg [⟨none, (some 2), (.box 1 (.s 0))⟩, ⟨none, (some 3), (.box 2 (.s 1))⟩, ⟨none, (some 4), (.mv (.c (.lit (.bool false))))⟩]) (.seq (.seq (.reg [⟨none, (some 13), (.call 15 [])⟩, ⟨none, (some 14), (.un .not (.s 13))⟩]) (.cond (.s 14) (.seq (.reg [⟨none, (some 4), (.mv (.c (.lit (.bool false))))⟩]) .ret) .skip)) (.seq (.seq (.reg [⟨none, (some 15), (.ld (some 1) (.s 2))⟩, ⟨none, (some 16), (.call 24 [(.s 15)])⟩, ⟨none, (some 17), (.un .not (.s 16))⟩]) (.cond (.s 17) (.seq (.reg [⟨none, (some 4), (.mv (.c (.lit (.bool true))))⟩]) .ret) .skip)) (.seq (.reg [⟨none, (some 19), (.ld (some 1) (.s 2))⟩, ⟨none, (some 20), (.call 26 [(.s 19)])⟩, ⟨none, (some 21), (.call 25 [(.s 20)])⟩, ⟨none, (some 18), (.mv (.s 21))⟩, ⟨none, (some 22), (.ext (.s 18) 0)⟩, ⟨none, (some 23), (.ext (.s 18) 1)⟩, ⟨none, (some 5), (.mv (.s 22))⟩, ⟨none, (some 6), (.mv (.s 23))⟩]) (.seq (.reg [⟨none, (some 25), (.ld (some 1) (.s 2))⟩, ⟨none, (some 26), (.call 26 [(.s 25)])⟩, ⟨none, (some 27), (.call 27 [(.s 26)])⟩, ⟨none, (some 24), (.mv (.s 27))⟩, ⟨none, (some 28), (.ext (.s 24) 0)⟩, ⟨none, (some 29), (.ext (.s 24) 1)⟩, ⟨none, (some 7), (.mv (.s 28))⟩, ⟨none, (some 8), (.mv (.s 29))⟩]) (.seq (.reg [⟨none, (some 31), (.ld (some 1) (.s 2))⟩, ⟨none, (some 32), (.call 26 [(.s 31)])⟩, ⟨none, (some 33), (.ld (some 2) (.s 3))⟩, ⟨none, (some 34), (.call 28 [(.s 32), (.s 33)])⟩, ⟨none, (some 30), (.mv (.s 34))⟩, ⟨none, (some 35), (.ext (.s 30) 0)⟩, ⟨none, (some 36), (.ext (.s 30) 1)⟩, ⟨none, (some 9), (.mv (.s 35))⟩, ⟨none, (some 10), (.mv (.s 36))⟩]) (.seq (.reg [⟨none, (some 38), (.ld (some 1) (.s 2))⟩, ⟨none, (some 39), (.call 29 [(.s 38)])⟩, ⟨none, (some 37), (.mv (.s 39))⟩, ⟨none, (some 40), (.ext (.s 37) 0)⟩, ⟨none, (some 41), (.ext (.s 37) 1)⟩, ⟨none, (some 11), (.mv (.s 40))⟩, ⟨none, (some 12), (.mv (.s 41))⟩]) (.seq (.seq (.reg [⟨none, (some 42), (.mv (.s 6))⟩, ⟨none, (some 43), (.mv (.s 12))⟩, ⟨none, (some 44), (.bin .neq (.s 42) (.s 43))⟩, ⟨none, (some 45), (.mv (.s 44))⟩, ⟨(some (45, false)), (some 46), (.mv (.s 5))⟩, ⟨(some (45, false)), (some 47), (.mv (.s 11))⟩, ⟨(some (45, false)), (some 48), (.bin .neq (.s 46) (.s 47))⟩, ⟨none, (some 49), (.pick (.s 45) (.c (.lit (.bool true))) (.s 48))⟩]) (.cond (.s 49) (.seq (.reg [⟨none, (some 4), (.mv (.c (.lit (.bool false))))⟩]) .ret) .skip)) (.seq (.seq (.reg [⟨none, (some 50), (.mv (.s 12))⟩, ⟨none, (some 51), (.bin .neq (.s 50) (.c (.lit (.int .i64 0))))⟩]) (.cond (.s 51) (.seq (.reg [⟨none, (some 52), (.mv (.s 8))⟩, ⟨none, (some 53), (.mv (.s 12))⟩, ⟨none, (some 54), (.bin .eql (.s 52) (.s 53))⟩, ⟨none, (some 55), (.mv (.s 54))⟩, ⟨(some (55, true)), (some 56), (.mv (.s 7))⟩, ⟨(some (55, true)), (some 57), (.bin .eql (.s 56) (.c (.lit (.int .i64 0))))⟩, ⟨none, (some 58), (.pick (.s 55) (.s 57) (.c (.lit (.bool false))))⟩, ⟨none, (some 59), (.mv (.s 58))⟩, ⟨(some (59, true)), (some 60), (.mv (.s 10))⟩, ⟨(some (59, true)), (some 61), (.mv (.s 12))⟩, ⟨(some (59, true)), (some 62), (.bin .eql (.s 60) (.s 61))⟩, ⟨none, (some 63), (.pick (.s 59) (.s 62) (.c (.lit (.bool false))))⟩, ⟨none, (some 64), (.mv (.s 63))⟩, ⟨(some (64, true)), (some 65), (.mv (.s 9))⟩, ⟨(some (64, true)), (some 66), (.bin .eql (.s 65) (.c (.lit (.int .i64 0))))⟩, ⟨none, (some 67), (.pick (.s 64) (.s 66) (.c (.lit (.bool false))))⟩, ⟨none, (some 4), (.mv (.s 67))⟩]) .ret) .skip)) (.seq (.seq (.reg [⟨none, (some 68), (.mv (.s 8))⟩, ⟨none, (some 69), (.bin .neq (.s 68) (.c (.lit (.int .i64 0))))⟩, ⟨none, (some 70), (.mv (.s 69))⟩, ⟨(some (70, false)), (some 71), (.mv (.s 7))⟩, ⟨(some (70, false)), (some 72), (.ld (some 1) (.s 2))⟩, ⟨(some (70, false)), (some 73), (.call 30 [(.s 72)])⟩, ⟨(some (70, false)), (some 74), (.bin .neq (.s 71) (.s 73))⟩, ⟨none, (some 75), (.pick (.s 70) (.c (.lit (.bool true))) (.s 74))⟩]) (.cond (.s 75) (.seq (.reg [⟨none, (some 4), (.mv (.c (.lit (.bool false))))⟩]) .ret) .skip)) (.seq (.seq (.reg [⟨none, (some 76), (.ld (some 2) (.s 3))⟩, ⟨none, (some 77), (.call 31 [(.s 76)])⟩, ⟨none, (some 12), (.mv (.s 77))⟩]) (.seq (.reg [⟨none, (some 78), (.mv (.s 12))⟩, ⟨none, (some 79), (.bin .neq (.s 78) (.c (.lit (.int .i64 0))))⟩]) (.cond (.s 79) (.seq (.reg [⟨none, (some 80), (.mv (.s 10))⟩, ⟨none, (some 81), (.mv (.s 12))⟩, ⟨none, (some 82), (.bin .eql (.s 80) (.s 81))⟩, ⟨none, (some 83), (.mv (.s 82))⟩, ⟨(some (83, true)), (some 84), (.mv (.s 9))⟩, ⟨(some (83, true)), (some 85), (.bin .eql (.s 84) (.c (.lit (.int .i64 0))))⟩, ⟨none, (some 86), (.pick (.s 83) (.s 85) (.c (.lit (.bool false))))⟩, ⟨none, (some 4), (.mv (.s 86))⟩]) .ret) .skip))) (.seq (.reg [⟨none, (some 87), (.mv (.s 10))⟩, ⟨none, (some 88), (.bin .eql (.s 87) (.c (.lit (.int .i64 0))))⟩, ⟨none, (some 89), (.mv (.s 88))⟩, ⟨(some (89, true)), (some 90), (.mv (.s 9))⟩, ⟨(some (89, true)), (some 91), (.ld (some 1) (.s 2))⟩, ⟨(some (89, true)), (some 92), (.ld (some 2) (.s 3))⟩, ⟨(some (89, true)), (some 93), (.call 32 [(.s 91), (.s 92)])⟩, ⟨(some (89, true)), (some 94), (.bin .eql (.s 90) (.s 93))⟩, ⟨none, (some 95), (.pick (.s 89) (.s 94) (.c (.lit (.bool false))))⟩, ⟨none, (some 4), (.mv (.s 95))⟩]) .ret))))))))))))⟩ := by kernel_rfl
set_option maxHeartbeats 2000000 in
theorem DrapePolygons_z (cs : List Pt) (x : Pt) : runZ MT (orA 12) (itA 12) 4000000 4 [encPg cs, encPt x] [] = some (Bo true, []) := by
  refine runZ_of mf_DrapePolygons (by simp) ?_
  simp only [argsL]
  have hfw := fun {b} (hb : decide (cs.length ≤ 14) = b) h => fewP_c 11 cs h hb
  by_cases hl : cs.length ≤ 14
  · have hfw := hfw (decide_eq_true hl)
    have hcp := fun h => rCopyP_c 11 cs (by omega) h
    have hck := fun h => CheckPolygon_c 11 cs (by omega) h rfl
    have hrk := fun h => rCheckPolygon_c 7 cs (by omega) h rfl
    have har := fun h => AreaOf_c 11 cs (by omega) h rfl
    have hpx := fun h => rPositionErr_c 10 x.1 x.2 h rfl
    rw [posE2_eq] at hpx
    by_cases h0 : (polyCheck cs).2 = 0
    · obtain ⟨⟨n1, n2⟩, hin⟩ := polyCheck_zero h0
      have hA : areaRes cs = (mx (areaAll cs) (-(areaAll cs)), 0) := by unfold areaRes; rw [if_pos h0]
      rw [hA] at har
      have hra := fun h => rArea_c 10 cs (by omega) hin h rfl
      by_cases hx : posE x = 0
      · have hx' := posE_inP hx
        have hii := fun h => IsInside_c 8 cs x (by omega) (by omega) hin hx' h0 h rfl
        have hri := fun h => rInside_c 7 cs x (by omega) hin hx' h rfl
        rw [hx] at hpx
        generalize hpc : polyCheck cs = c at *
        obtain ⟨c1, c2⟩ := c
        simp only at h0 hck hrk
        subst h0
        generalize mx (areaAll cs) (-(areaAll cs)) = A at *
        generalize insI cs x = v at *
        repeat (first | first | apply ef_seq | (apply ef_mv; exact rfl; exact rfl) | (apply ef_bin; exact rfl; exact rfl; exact rfl; (first | exact cmp_t rfl (by first | exact rfl | (simp only [cmpP]; omega)) | exact cmp_f rfl (by simp only [cmpP]; omega) | exact rfl)) | (apply ef_gy; exact rfl; (first | exact (rfl : true = true) | exact (rfl : false = false) | exact (rfl : true = !false) | exact (rfl : false = !true) | assumption | exact decide_eq_true (by omega) | exact decide_eq_false (by omega))) | (apply ef_gn; exact rfl; (first | exact (rfl : true = true) | exact (rfl : false = false) | exact (rfl : true = !false) | exact (rfl : false = !true) | assumption | exact decide_eq_true (by omega) | exact decide_eq_false (by omega)); exact rfl) | (apply ef_gu; exact rfl; exact rfl) | (apply ef_pick; exact rfl; exact rfl; exact rfl) | (apply ef_pickb; exact rfl; exact rfl; exact rfl; exact rfl) | (apply ef_ldr; exact rfl; exact rfl; (first | exact rd_1 rfl | exact rd_2 rfl rfl | exact rfl)) | (apply ef_ldp; exact rfl; exact rfl; exact rfl; exact rfl; (first | exact rfl | assumption); (first | exact rd_1 rfl | exact rd_2 rfl rfl | exact rfl)) | (apply ef_notT; exact rfl; exact rfl) | (apply ef_notF; exact rfl; exact rfl) | (apply ef_not; exact rfl; exact rfl; exact rfl) | (apply ef_ext; exact rfl; exact rfl; exact rfl) | (apply ef_box; exact rfl; exact rfl; exact rfl; exact rfl) | apply ef_nil | apply seqQ.normal | apply ef_ret | apply seqQ.ret | apply ef_skip | (apply ef_condt; exact rfl; (first | exact (rfl : true = true) | assumption | exact decide_eq_true (by omega))) | (apply ef_condf; exact rfl; (first | exact (rfl : false = false) | assumption | exact decide_eq_false (by omega))) | (apply ef_call; exact rfl; ((repeat (apply XVs.cons; exact rfl)); exact XVs.nil); (with_reducible first | exact awakeP_c _ | exact hfw _ | exact hcp _ | exact hck _ | exact hrk _ | exact har _ | exact hii _ | exact hra _ | exact hpx _ | exact hri _)))
        (refine fin1 rfl (by exact rfl) rfl ?_)
        simp [negIf]
      · have hii := fun h => IsInside_bad 8 cs x (by omega) h (e := posE x) (by rw [h0]; simp [firstE, hx]) hx
        generalize hpc : polyCheck cs = c at *
        obtain ⟨c1, c2⟩ := c
        simp only at h0 hck hrk
        subst h0
        generalize mx (areaAll cs) (-(areaAll cs)) = A at *
        generalize posE x = e at *
        repeat (first | first | apply ef_seq | (apply ef_mv; exact rfl; exact rfl) | (apply ef_bin; exact rfl; exact rfl; exact rfl; (first | exact cmp_t rfl (by first | exact rfl | (simp only [cmpP]; omega)) | exact cmp_f rfl (by simp only [cmpP]; omega) | exact rfl)) | (apply ef_gy; exact rfl; (first | exact (rfl : true = true) | exact (rfl : false = false) | exact (rfl : true = !false) | exact (rfl : false = !true) | assumption | exact decide_eq_true (by omega) | exact decide_eq_false (by omega))) | (apply ef_gn; exact rfl; (first | exact (rfl : true = true) | exact (rfl : false = false) | exact (rfl : true = !false) | exact (rfl : false = !true) | assumption | exact decide_eq_true (by omega) | exact decide_eq_false (by omega)); exact rfl) | (apply ef_gu; exact rfl; exact rfl) | (apply ef_pick; exact rfl; exact rfl; exact rfl) | (apply ef_pickb; exact rfl; exact rfl; exact rfl; exact rfl) | (apply ef_ldr; exact rfl; exact rfl; (first | exact rd_1 rfl | exact rd_2 rfl rfl | exact rfl)) | (apply ef_ldp; exact rfl; exact rfl; exact rfl; exact rfl; (first | exact rfl | assumption); (first | exact rd_1 rfl | exact rd_2 rfl rfl | exact rfl)) | (apply ef_notT; exact rfl; exact rfl) | (apply ef_notF; exact rfl; exact rfl) | (apply ef_not; exact rfl; exact rfl; exact rfl) | (apply ef_ext; exact rfl; exact rfl; exact rfl) | (apply ef_box; exact rfl; exact rfl; exact rfl; exact rfl) | apply ef_nil | apply seqQ.normal | apply ef_ret | apply seqQ.ret | apply ef_skip | (apply ef_condt; exact rfl; (first | exact (rfl : true = true) | assumption | exact decide_eq_true (by omega))) | (apply ef_condf; exact rfl; (first | exact (rfl : false = false) | assumption | exact decide_eq_false (by omega))) | (apply ef_call; exact rfl; ((repeat (apply XVs.cons; exact rfl)); exact XVs.nil); (with_reducible first | exact awakeP_c _ | exact hfw _ | exact hcp _ | exact hck _ | exact hrk _ | exact har _ | exact hii _ | exact hra _ | exact hpx _)))
        (refine fin1 rfl (by exact rfl) rfl ?_)
        rfl
    · have hA : areaRes cs = (0, (polyCheck cs).2) := by unfold areaRes; rw [if_neg h0]
      rw [hA] at har
      have hii := fun h => IsInside_bad 8 cs x (by omega) h (e := (polyCheck cs).2) (by simp [firstE, h0]) h0
      generalize hpc : polyCheck cs = c at *
      obtain ⟨c1, c2⟩ := c
      simp only at h0 hck hrk har hii
      repeat (first | first | apply ef_seq | (apply ef_mv; exact rfl; exact rfl) | (apply ef_bin; exact rfl; exact rfl; exact rfl; (first | exact cmp_t rfl (by first | exact rfl | (simp only [cmpP]; omega)) | exact cmp_f rfl (by simp only [cmpP]; omega) | exact rfl)) | (apply ef_gy; exact rfl; (first | exact (rfl : true = true) | exact (rfl : false = false) | exact (rfl : true = !false) | exact (rfl : false = !true) | assumption | exact decide_eq_true (by omega) | exact decide_eq_false (by omega))) | (apply ef_gn; exact rfl; (first | exact (rfl : true = true) | exact (rfl : false = false) | exact (rfl : true = !false) | exact (rfl : false = !true) | assumption | exact decide_eq_true (by omega) | exact decide_eq_false (by omega)); exact rfl) | (apply ef_gu; exact rfl; exact rfl) | (apply ef_pick; exact rfl; exact rfl; exact rfl) | (apply ef_pickb; exact rfl; exact rfl; exact rfl; exact rfl) | (apply ef_ldr; exact rfl; exact rfl; (first | exact rd_1 rfl | exact rd_2 rfl rfl | exact rfl)) | (apply ef_ldp; exact rfl; exact rfl; exact rfl; exact rfl; (first | exact rfl | assumption); (first | exact rd_1 rfl | exact rd_2 rfl rfl | exact rfl)) | (apply ef_notT; exact rfl; exact rfl) | (apply ef_notF; exact rfl; exact rfl) | (apply ef_not; exact rfl; exact rfl; exact rfl) | (apply ef_ext; exact rfl; exact rfl; exact rfl) | (apply ef_box; exact rfl; exact rfl; exact rfl; exact rfl) | apply ef_nil | apply seqQ.normal | apply ef_ret | apply seqQ.ret | apply ef_skip | (apply ef_condt; exact rfl; (first | exact (rfl : true = true) | assumption | exact decide_eq_true (by omega))) | (apply ef_condf; exact rfl; (first | exact (rfl : false = false) | assumption | exact decide_eq_false (by omega))) | (apply ef_call; exact rfl; ((repeat (apply XVs.cons; exact rfl)); exact XVs.nil); (with_reducible first | exact awakeP_c _ | exact hfw _ | exact hcp _ | exact hck _ | exact hrk _ | exact har _ | exact hii _)))
      (refine fin1 rfl (by exact rfl) rfl ?_)
      rfl
  · have hfw := hfw (decide_eq_false hl)
    repeat (first | first | apply ef_seq | (apply ef_mv; exact rfl; exact rfl) | (apply ef_bin; exact rfl; exact rfl; exact rfl; (first | exact cmp_t rfl (by first | exact rfl | (simp only [cmpP]; omega)) | exact cmp_f rfl (by simp only [cmpP]; omega) | exact rfl)) | (apply ef_gy; exact rfl; (first | exact (rfl : true = true) | exact (rfl : false = false) | exact (rfl : true = !false) | exact (rfl : false = !true) | assumption | exact decide_eq_true (by omega) | exact decide_eq_false (by omega))) | (apply ef_gn; exact rfl; (first | exact (rfl : true = true) | exact (rfl : false = false) | exact (rfl : true = !false) | exact (rfl : false = !true) | assumption | exact decide_eq_true (by omega) | exact decide_eq_false (by omega)); exact rfl) | (apply ef_gu; exact rfl; exact rfl) | (apply ef_pick; exact rfl; exact rfl; exact rfl) | (apply ef_pickb; exact rfl; exact rfl; exact rfl; exact rfl) | (apply ef_ldr; exact rfl; exact rfl; (first | exact rd_1 rfl | exact rd_2 rfl rfl | exact rfl)) | (apply ef_ldp; exact rfl; exact rfl; exact rfl; exact rfl; (first | exact rfl | assumption); (first | exact rd_1 rfl | exact rd_2 rfl rfl | exact rfl)) | (apply ef_notT; exact rfl; exact rfl) | (apply ef_notF; exact rfl; exact rfl) | (apply ef_not; exact rfl; exact rfl; exact rfl) | (apply ef_ext; exact rfl; exact rfl; exact rfl) | (apply ef_box; exact rfl; exact rfl; exact rfl; exact rfl) | apply ef_nil | apply seqQ.normal | apply ef_ret | apply seqQ.ret | apply ef_skip | (apply ef_condt; exact rfl; (first | exact (rfl : true = true) | assumption | exact decide_eq_true (by omega))) | (apply ef_condf; exact rfl; (first | exact (rfl : false = false) | assumption | exact decide_eq_false (by omega))) | (apply ef_call; exact rfl; ((repeat (apply XVs.cons; exact rfl)); exact XVs.nil); (with_reducible first | exact awakeP_c _ | exact hfw _)))
    (refine fin1 rfl (by exact rfl) rfl ?_)
    rfl
end Go.Proofs.Ytgjpdjihjphbdaa
