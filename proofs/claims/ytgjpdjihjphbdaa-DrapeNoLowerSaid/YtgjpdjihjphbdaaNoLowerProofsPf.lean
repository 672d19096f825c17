/- Open values of tasks. -/
import Derived.Test.YtgjpdjihjphbdaaNoLowerProofsPe
/- Contracts: surfaces are accepted, by the program and by the reference. -/
namespace Go.Proofs.Ytgjpdjihjphbdaa
open Go.RowKit
set_option linter.unusedVariables false

/-- The first node that is wrong. -/
def clN (t : Tk) (s : List (List Int)) : List (Nat × Nat) → Int × Int × Int
  | [] => (0, 0, 0)
  | p :: l => if nodeE t s p.1 p.2 = 0 then clN t s l else ((p.2 : Int), (p.1 : Int), nodeE t s p.1 p.2)
theorem clN_zero {t : Tk} {s : List (List Int)} : ∀ {l : List (Nat × Nat)}, (∀ q ∈ l, nodeE t s q.1 q.2 = 0) → clN t s l = (0, 0, 0)
  | [], _ => rfl
  | p :: l, h => by
    simp only [clN]
    rw [if_pos (h p List.mem_cons_self)]
    exact clN_zero fun q hq => h q (List.mem_cons_of_mem _ hq)
theorem clN_split {t : Tk} {s : List (List Int)} {p : Nat × Nat} {rest : List (Nat × Nat)} (hp : nodeE t s p.1 p.2 ≠ 0) : ∀ {l : List (Nat × Nat)}, (∀ q ∈ l, nodeE t s q.1 q.2 = 0) → clN t s (l ++ p :: rest) = ((p.2 : Int), (p.1 : Int), nodeE t s p.1 p.2)
  | [], _ => by simp only [List.nil_append, clN]; rw [if_neg hp]
  | q :: l, h => by
    simp only [List.cons_append, clN]
    rw [if_pos (h q List.mem_cons_self)]
    exact clN_split hp fun r hr => h r (List.mem_cons_of_mem _ hr)
/-- What CheckLowest answers of a valid task. -/
def clE (t : Tk) (s : List (List Int)) : Int × Int × Int := if surfE t s = 0 then (if t.cb > 0 then clN t s (nodesP t.ter.length t.W) else (0, 0, 15)) else (0, 0, surfE t s)
def clM (e : Int × Int × Int) : MV := .tup [posI e.1 e.2.1, I64 e.2.2]
theorem fin_cc {x : MX2} {A : Sl} {h : MHeap} {t u it iu : Nat} {ot ou : MObj} {a b c : Int} (hx : outX x = true) (h1 : look A t = some (.ptr it 0 0 0)) (h2 : h[it]? = some ot) (h3 : ot.g = 0) (h4 : ot.es = [posI a b]) (k1 : look A u = some (.ptr iu 0 0 0)) (k2 : h[iu]? = some ou) (k3 : ou.g = 0) (k4 : ou.es = [I64 c]) : FinF [.cell t (some 2), .cell u none] (clM (a, b, c)) [] x A h :=
  fin_res2 hx ⟨it, 0, 0, 0, ot, _, h1, h2, h3, by rw [h4]; rfl, rd_2 rfl rfl⟩ ⟨iu, 0, 0, 0, ou, _, k1, k2, k3, by rw [k4]; rfl, rfl⟩ rfl rfl
abbrev clH (t : Tk) (s : List (List Int)) : MHeap := [⟨0, false, 5, [encT t]⟩, ⟨0, false, 1, [.sl (s.map encW)]⟩, ⟨0, false, 2, [posI 0 0]⟩, ⟨0, false, 1, [I64 0]⟩, ⟨0, false, 9, [encO t]⟩, ⟨0, false, 1, [I64 0, I64 0]⟩]
theorem clH_cl (t : Tk) (s : List (List Int)) (X : MHeap) : Cl 6 (clH t s ++ X) := by
  refine ⟨by simp, fun j o hj ho => ?_⟩
  match j, hj with
  | 0, _ => cases ho; simp [ltL, MV.lt, ltL_I, ltL_W]
  | 1, _ => cases ho; simp [ltL, MV.lt, ltL_W]
  | 2, _ => cases ho; simp [ltL, MV.lt]
  | 3, _ => cases ho; simp [ltL, MV.lt]
  | 4, _ => cases ho; simp [ltL, MV.lt, ltL_I, ltL_W, ltL_B]
  | 5, _ => cases ho; simp [ltL, MV.lt]
theorem mf_CheckLowest : MT.mf 72 = some ⟨42, [(.cell 4 (some 2)), (.cell 5 none)], (.seq (.reg [⟨none, (some 2), (.box 5 (.s 0))⟩, ⟨none, (some 3), (.box 1 (.s 1))⟩, ⟨none, (some 4), (.new (.agg [(.lit (.int .i64 0)), (.lit (.int .i64 0))]))⟩, ⟨none, (some 5), (.new (.lit (.int .i64 0)))⟩]) (.seq (.reg [⟨none, (some 11), (.ld (some 5) (.s 2))⟩, ⟨none, (some 12), (.call 113 [(.s 11)])⟩, ⟨none, (some 10), (.mv (.s 12))⟩, ⟨none, (some 13), (.ext (.s 10) 0)⟩, ⟨none, (some 14), (.ext (.s 10) 1)⟩, ⟨none, (some 6), (.new (.agg [(.lit (.slice none 0 0)), (.lit (.slice none 0 0)), (.lit (.slice none 0 0)), (.lit (.int .i64 0)), (.lit (.int .i64 0)), (.lit (.int .i64 0)), (.lit (.int .i64 0)), (.lit (.slice none 0 0)), (.lit (.slice none 0 0))]))⟩, ⟨none, none, (.st 9 (.s 6) (.s 13))⟩, ⟨none, (some 7), (.mv (.s 14))⟩]) (.seq (.seq (.reg [⟨none, (some 15), (.mv (.s 7))⟩, ⟨none, (some 16), (.bin .eql (.s 15) (.c (.lit (.int .i64 0))))⟩]) (.cond (.s 16) (.reg [⟨none, (some 17), (.ld (some 9) (.s 6))⟩, ⟨none, (some 18), (.ld none (.s 3))⟩, ⟨none, (some 19), (.call 142 [(.s 17), (.s 18)])⟩, ⟨none, (some 20), (.fa 4 (.s 2))⟩, ⟨none, (some 21), (.ld none (.s 20))⟩, ⟨none, (some 22), (.bin .gtr (.s 21) (.c (.lit (.int .i64 0))))⟩, ⟨none, (some 23), (.call 93 [(.s 22), (.c (.lit (.int .i64 15)))])⟩, ⟨none, (some 24), (.bsl (.lit (.int .i64 0)) 1 2 [(0, (.s 19)), (1, (.s 23))])⟩, ⟨none, (some 25), (.call 92 [(.s 24)])⟩, ⟨none, (some 7), (.mv (.s 25))⟩]) .skip)) (.seq (.seq (.reg [⟨none, (some 26), (.mv (.s 7))⟩, ⟨none, (some 27), (.bin .neq (.s 26) (.c (.lit (.int .i64 0))))⟩]) (.cond (.s 27) (.seq (.reg [⟨none, (some 28), (.build [(.lit (.int .i64 0)), (.lit (.int .i64 0))] [])⟩, ⟨none, (some 29), (.mv (.s 7))⟩, ⟨none, none, (.st 2 (.s 4) (.s 28))⟩, ⟨none, none, (.st 1 (.s 5) (.s 29))⟩]) .ret) .skip)) (.seq (.seq (.reg [⟨none, (some 30), (.ld (some 9) (.s 6))⟩, ⟨none, (some 31), (.mf 114 1 [(.s 30)])⟩]) (.block 0 (.rf [6, 3, 4, 5] (.s 31) [32] (.reg [⟨none, (some 8), (.new (.agg [(.lit (.int .i64 0)), (.lit (.int .i64 0))]))⟩, ⟨none, none, (.st 2 (.s 8) (.s 32))⟩]) (.block 1 (.seq (.reg [⟨none, (some 33), (.ld (some 9) (.s 6))⟩, ⟨none, (some 34), (.ld none (.s 3))⟩, ⟨none, (some 35), (.ld (some 2) (.s 8))⟩, ⟨none, (some 36), (.call 143 [(.s 33), (.s 34), (.s 35)])⟩, ⟨none, (some 9), (.mv (.s 36))⟩]) (.seq (.reg [⟨none, (some 37), (.mv (.s 9))⟩, ⟨none, (some 38), (.bin .neq (.s 37) (.c (.lit (.int .i64 0))))⟩]) (.cond (.s 38) (.seq (.reg [⟨none, (some 39), (.ld (some 2) (.s 8))⟩, ⟨none, (some 40), (.mv (.s 9))⟩, ⟨none, none, (.st 2 (.s 4) (.s 39))⟩, ⟨none, none, (.st 1 (.s 5) (.s 40))⟩]) .ret) .skip))))))) (.seq (.reg [⟨none, (some 41), (.build [(.lit (.int .i64 0)), (.lit (.int .i64 0))] [])⟩, ⟨none, none, (.st 2 (.s 4) (.s 41))⟩, ⟨none, none, (.st 1 (.s 5) (.c (.lit (.int .i64 0))))⟩]) .ret))))))⟩ := by kernel_rfl
set_option maxHeartbeats 2000000 in
theorem CheckLowest_z (k : Nat) {t : Tk} (hb : Bd t) (h0 : (taskF id t).2 = 0) (s : List (List Int)) (hs : s.length ≤ 1000) (hr : s.flatten.length ≤ 100000) : runZ MT (orA (k + 7)) (itA (k + 7)) 4000000 72 [encT t, .sl (s.map encW)] [] = some (clM (clE t s), []) := by
  have ok := (task_ok h0).1
  have ho := fun h => open_ok k hb h0 h
  obtain ⟨h1, h2⟩ := ok.h1
  obtain ⟨w1, w2⟩ := ok.w1
  have hsu := fun h => surfaceErr_c (k + 2) t s hb hs hr h rfl
  have hcb := ok.cb
  refine runZ_of mf_CheckLowest (by simp) ?_
  simp only [argsL]
  by_cases he : surfE t s = 0
  · have os := surfE_ok he
    rw [he] at hsu
    by_cases hc : t.cb > 0
    · have HE := Lib.hid (show clE t s = clN t s (nodesP t.ter.length t.W) by unfold clE; rw [if_pos he, if_pos hc])
      repeat (first | apply ef_seq | (apply ef_mv; exact rfl; exact rfl) | (apply ef_bin; exact rfl; exact rfl; exact rfl; (first | exact cmp_t rfl (by first | exact rfl | (simp only [cmpP]; omega)) | exact rfl)) | (apply ef_ldp; exact rfl; exact rfl; (exact rfl); exact rfl; (exact rfl); (first | exact rd_5 rfl rfl rfl rfl rfl | exact rd_whole rfl | exact rfl)) | (apply ef_fap; exact rfl; exact rfl) | (apply ef_ext; exact rfl; exact rfl; exact rfl) | (apply ef_box; exact rfl; exact rfl; exact rfl; exact rfl) | (apply ef_newst; exact rfl; exact rfl; exact rfl; exact rfl; exact rfl) | (apply ef_new; exact rfl) | (apply ef_bsl; exact rfl; (repeat (apply XVs.cons; exact rfl)); exact XVs.nil; exact rfl) | (apply ef_mf; exact rfl; (repeat (apply XVs.cons; exact rfl)); exact XVs.nil) | apply ef_nil | apply seqQ.normal | apply ef_block | apply ef_skip | (apply ef_condt; exact rfl; (exact (rfl : true = true))) | (apply ef_condf; exact rfl; (exact (rfl : false = false))) | (apply ef_call; exact rfl; ((repeat (apply XVs.cons; exact rfl)); exact XVs.nil); (with_reducible first | exact ho _ | exact hsu _ | exact unless_c _ _ _ _ rfl)) | (apply ef_call; exact rfl; ((repeat (apply XVs.cons; exact rfl)); exact XVs.nil); (with_reducible apply first2_c); exact rfl; exact rfl; exact rfl; (exact rfl)))
      refine ef_rf (α := MHeap) (ids := []) (fun i X => ∀ q ∈ (nodesP t.ter.length t.W).take i, nodeE t s q.1 q.2 = 0) [(6, .ptr 4 0 0 0), (3, .ptr 1 0 0 0), (4, .ptr 2 0 0 0), (5, .ptr 3 0 0 0)] (fun X => clH t s ++ X) (fun _ => clH t s)
        [] (by exact rfl) (nodes_it (k + 7) t ok _) (by simp [posY]) (idsL_lt0 (by simp [ltL, MV.lt, ltL_I, ltL_W, ltL_B])) (by ((repeat (refine Hold.cons (by exact rfl) ?_)); exact Hold.nil)) rfl rfl rfl (by simp) rfl ?_ ?_ ?_
      · rintro i X _
        refine HeadIs.tkE X rfl rfl (clH_cl t s X) fun u hu => ?_
        simp only [List.mem_cons, List.not_mem_nil, or_false] at hu
        rcases hu with rfl | rfl | rfl | rfl
        · exact ⟨.ptr 4 0 0 0, by exact rfl, by simp [MV.lt]⟩
        · exact ⟨.ptr 1 0 0 0, by exact rfl, by simp [MV.lt]⟩
        · exact ⟨.ptr 2 0 0 0, by exact rfl, by simp [MV.lt]⟩
        · exact ⟨.ptr 3 0 0 0, by exact rfl, by simp [MV.lt]⟩
      · rintro i X x' hx' hz
        obtain ⟨⟨y, x⟩, hp, rfl⟩ : ∃ p, (nodesP t.ter.length t.W)[i]? = some p ∧ x' = [posM p] := by
          simp only [posY, List.getElem?_map, Option.map_eq_some_iff] at hx'
          obtain ⟨w, h1, h2⟩ := hx'
          exact ⟨w, h1, h2.symm⟩
        obtain ⟨hy, hxw⟩ := nodesP_mem.1 (List.mem_of_getElem? hp)
        have hi := (List.getElem?_eq_some_iff.1 hp).1
        have htk : (nodesP t.ter.length t.W).take (i + 1) = (nodesP t.ter.length t.W).take i ++ [(y, x)] := by rw [List.take_add_one, hp]; rfl
        have hsplit : nodesP t.ter.length t.W = (nodesP t.ter.length t.W).take i ++ (y, x) :: (nodesP t.ter.length t.W).drop (i + 1) := by
          have := (List.take_append_drop (i + 1) (nodesP t.ter.length t.W)).symm
          rw [htk, List.append_assoc] at this
          exact this
        have hn := fun h => nodeErr_c (k + 3) t ok s os hy hxw h
        have HN := Lib.hid (show nodeE t s y x ≠ 0 → clE t s = ((x : Int), (y : Int), nodeE t s y x) from fun h => by
          rw [HE.out, hsplit]; exact clN_split (p := (y, x)) h hz)
        have HZ := Lib.hid (show nodeE t s y x = 0 → ∀ q ∈ (nodesP t.ter.length t.W).take (i + 1), nodeE t s q.1 q.2 = 0 from fun h q hq => by
          rw [htk, List.mem_append, List.mem_singleton] at hq
          rcases hq with hq | rfl
          · exact hz q hq
          · exact h)
        clear hx' hp htk hsplit hz hsu
        generalize nodeE t s y x = e at hn HN HZ
        simp only [putA]
        by_cases h00 : e = 0
        · subst h00
          repeat (first | (apply ef_newst; exact rfl; exact rfl; exact rfl; exact rfl; exact rfl) | apply ef_nil)
          apply preQ.normal
          repeat (first | apply ef_seq | (apply ef_mv; exact rfl; exact rfl) | (apply ef_bin; exact rfl; exact rfl; exact rfl; (exact cmp_f rfl (by simp only [cmpP]; omega))) | (apply ef_ldp; exact rfl; exact rfl; (exact rfl); exact rfl; (exact rfl); (first | exact rd_2 rfl rfl | exact rd_whole rfl | exact rfl)) | apply ef_nil | apply seqQ.normal | apply blockQ.normal | apply ef_block | apply ef_skip | (apply ef_condf; exact rfl; (exact (rfl : false = false))) | (apply ef_call; exact rfl; ((repeat (apply XVs.cons; exact rfl)); exact XVs.nil); (with_reducible exact hn _)))
          apply rfQ.normal
          exact ⟨[⟨0, false, 2, [posM (y, x)]⟩], HZ.out rfl, rfl⟩
        · repeat (first | (apply ef_newst; exact rfl; exact rfl; exact rfl; exact rfl; exact rfl) | apply ef_nil)
          apply preQ.normal
          repeat (first | apply ef_seq | (apply ef_mv; exact rfl; exact rfl) | (apply ef_bin; exact rfl; exact rfl; exact rfl; (exact cmp_t rfl (by first | exact rfl | (simp only [cmpP]; omega)))) | (apply ef_ldp; exact rfl; exact rfl; (exact rfl); exact rfl; (exact rfl); (first | exact rd_2 rfl rfl | exact rd_whole rfl | exact rfl)) | (apply ef_st; exact rfl; exact rfl; exact rfl; exact rfl; exact rfl; exact rfl; (exact rfl); exact rfl) | apply ef_nil | apply seqQ.normal | apply ef_ret | apply blockQ.ret | apply ef_block | (apply ef_condt; exact rfl; (exact (rfl : true = true))) | (apply ef_call; exact rfl; ((repeat (apply XVs.cons; exact rfl)); exact XVs.nil); (with_reducible exact hn _)))
          apply rfQ.ret
          repeat (first | apply seqQ.ret | apply blockQ.ret)
          rw [HN.out h00]
          (apply fin_cc; (· exact rfl); (· exact rfl); (· exact rfl); (· exact rfl); (· exact rfl); (· exact rfl); (· exact rfl); (· exact rfl); (· exact rfl))
      · rintro X hz
        rw [show (posY (nodesP t.ter.length t.W)).length = (nodesP t.ter.length t.W).length by simp [posY], List.take_length] at hz
        have HZ := Lib.hid (show clE t s = (0, 0, 0) by rw [HE.out]; exact clN_zero hz)
        clear hz
        repeat (first | apply ef_seq | (apply ef_build; exact rfl; (repeat (apply XVs.cons; exact rfl)); exact XVs.nil; exact rfl; exact rfl) | (apply ef_st; exact rfl; exact rfl; exact rfl; exact rfl; exact rfl; exact rfl; (exact rfl); exact rfl) | apply ef_nil | apply seqQ.normal | apply ef_ret | apply blockQ.normal)
        rw [HZ.out]
        (apply fin_cc; (· exact rfl); (· exact rfl); (· exact rfl); (· exact rfl); (· exact rfl); (· exact rfl); (· exact rfl); (· exact rfl); (· exact rfl))
    · have HE := Lib.hid (show clE t s = (0, 0, 15) by unfold clE; rw [if_pos he, if_neg hc])
      have hu : unl (decide (t.cb > 0)) 15 = 15 := by rw [decide_eq_false hc]; rfl
      repeat (first | apply ef_seq | (apply ef_mv; exact rfl; exact rfl) | (apply ef_bin; exact rfl; exact rfl; exact rfl; (first | exact cmp_t rfl (by first | exact rfl | (simp only [cmpP]; omega)) | exact cmp_f rfl (by simp only [cmpP]; omega) | exact rfl)) | (apply ef_ldp; exact rfl; exact rfl; (exact rfl); exact rfl; (exact rfl); (first | exact rd_5 rfl rfl rfl rfl rfl | exact rd_whole rfl | exact rfl)) | (apply ef_fap; exact rfl; exact rfl) | (apply ef_ext; exact rfl; exact rfl; exact rfl) | (apply ef_box; exact rfl; exact rfl; exact rfl; exact rfl) | (apply ef_newst; exact rfl; exact rfl; exact rfl; exact rfl; exact rfl) | (apply ef_new; exact rfl) | (apply ef_build; exact rfl; (repeat (apply XVs.cons; exact rfl)); exact XVs.nil; exact rfl; exact rfl) | (apply ef_bsl; exact rfl; (repeat (apply XVs.cons; exact rfl)); exact XVs.nil; exact rfl) | (apply ef_st; exact rfl; exact rfl; exact rfl; exact rfl; exact rfl; exact rfl; (exact rfl); exact rfl) | apply ef_nil | apply seqQ.normal | apply ef_ret | apply seqQ.ret | (apply ef_condt; exact rfl; (exact (rfl : true = true))) | (apply ef_call; exact rfl; ((repeat (apply XVs.cons; exact rfl)); exact XVs.nil); (with_reducible first | exact ho _ | exact hsu _ | exact unless_c _ _ _ _ rfl)) | (apply ef_call; exact rfl; ((repeat (apply XVs.cons; exact rfl)); exact XVs.nil); (with_reducible apply first2_c); exact rfl; exact rfl; exact rfl; (exact rfl)))
      rw [HE.out]
      (apply fin_cc; (· exact rfl); (· exact rfl); (· exact rfl); (· exact rfl); (· exact rfl); (· exact rfl); (· exact rfl); (· exact rfl); (· exact rfl))
  · have HE := Lib.hid (show clE t s = (0, 0, surfE t s) by unfold clE; rw [if_neg he])
    generalize surfE t s = e at *
    have hfe : ∀ b, firstE [e, b] = e := fun b => by simp [firstE, he]
    have hf2 := fun b (h : MHeap) => first2_c (k := k + 6) (a0 := e) (a1 := b) (e := e) (id := h.length) (h := h ++ [⟨0, false, 1, [I64 e, I64 b]⟩]) (at_end _ _) rfl rfl (hfe b)
    repeat (first | apply ef_seq | (apply ef_mv; exact rfl; exact rfl) | (apply ef_bin; exact rfl; exact rfl; exact rfl; (first | exact cmp_t rfl (by first | exact rfl | (simp only [cmpP]; omega)) | exact rfl)) | (apply ef_ldp; exact rfl; exact rfl; (exact rfl); exact rfl; (exact rfl); (first | exact rd_5 rfl rfl rfl rfl rfl | exact rd_whole rfl | exact rfl)) | (apply ef_fap; exact rfl; exact rfl) | (apply ef_ext; exact rfl; exact rfl; exact rfl) | (apply ef_box; exact rfl; exact rfl; exact rfl; exact rfl) | (apply ef_newst; exact rfl; exact rfl; exact rfl; exact rfl; exact rfl) | (apply ef_new; exact rfl) | (apply ef_bsl; exact rfl; (repeat (apply XVs.cons; exact rfl)); exact XVs.nil; exact rfl) | apply ef_nil | apply seqQ.normal | (apply ef_condt; exact rfl; (exact (rfl : true = true))) | (apply ef_call; exact rfl; ((repeat (apply XVs.cons; exact rfl)); exact XVs.nil); (with_reducible first | exact ho _ | exact hsu _ | exact unless_c _ _ _ _ rfl)))
    (apply ef_call; (· exact rfl); (· ((repeat (apply XVs.cons; exact rfl)); exact XVs.nil)); · exact hf2 _ _)
    repeat (first | apply ef_seq | (apply ef_mv; exact rfl; exact rfl) | (apply ef_bin; exact rfl; exact rfl; exact rfl; (exact cmp_t rfl (by first | exact rfl | (simp only [cmpP]; omega)))) | (apply ef_build; exact rfl; (repeat (apply XVs.cons; exact rfl)); exact XVs.nil; exact rfl; exact rfl) | (apply ef_st; exact rfl; exact rfl; exact rfl; exact rfl; exact rfl; exact rfl; (exact rfl); exact rfl) | apply ef_nil | apply seqQ.normal | apply ef_ret | apply seqQ.ret | (apply ef_condt; exact rfl; (exact (rfl : true = true))))
    rw [HE.out]
    (apply fin_cc; (· exact rfl); (· exact rfl); (· exact rfl); (· exact rfl); (· exact rfl); (· exact rfl); (· exact rfl); (· exact rfl); (· exact rfl))
theorem CheckLowest_ok (k : Nat) {t : Tk} (hb : Bd t) (h0 : (taskF id t).2 = 0) (s : List (List Int)) (hs : s.length ≤ 1000) (hr : s.flatten.length ≤ 100000) (h : MHeap) {v : MV} (hv : frz 0 [] h 8 v = some (.sl (s.map encW))) : orA (k + 8) 72 [encT t, v] h = some (clM (clE t s), h) := by
  have := callA (k := k + 7) (args := [encT t, v]) (args' := [encT t, .sl (s.map encW)]) (h := h) (by have h2 := frz_lt (h := h) (encT_lt t 0); simp [List.mapM_cons, hv, h2]) rfl (CheckLowest_z k hb h0 s hs hr) (by simp [clM, okV, ok1, ltL, MV.lt, MV.pure, pureL]) rfl
  simpa [shV, sh1, clM] using this
end Go.Proofs.Ytgjpdjihjphbdaa

/- Plain laws of lowest surfaces: more clearance, more climb, more rows; what is accepted. -/
namespace Go.Proofs.Ytgjpdjihjphbdaa
open Go.RowKit
set_option linter.unusedVariables false

theorem surfE_of {t : Tk} {s : List (List Int)} (os : OkZ t s) : surfE t s = 0 := by
  have h1 : s.length = t.ter.length := os.sh.hl
  have h2 : (s.any fun r => !decide (r.length = t.W)) = false := by
    rw [List.any_eq_false]
    intro r hr
    obtain ⟨y, hy, rfl⟩ := List.getElem_of_mem hr
    simp [os.sh.wl y hy]
  rw [surfE_rest h1 h2]
  have h3 : (s.flatten.any fun n => !inB n 0 10000000) = false := by
    rw [List.any_eq_false]
    intro n hn
    obtain ⟨r, hr, hn⟩ := List.mem_flatten.1 hn
    obtain ⟨y, hy, rfl⟩ := List.getElem_of_mem hr
    obtain ⟨x, hx, rfl⟩ := List.getElem_of_mem hn
    have hw := os.sh.wl y hy
    have := os.rg y x (by rw [← os.sh.hl]; exact hy) (by omega)
    rw [at2_get hy hx] at this
    rw [inB_iff.2 this]; simp
  rw [h3]; rfl
theorem Lea.okz {t : Tk} (ok : OkT t) {g : List (List Int)} (hg : Lea t g) : OkZ t g :=
  ⟨hg.1.sh, fun y x hy hx => by have := ok.top hg.pre y x hy hx; omega⟩
/-- Clearance and climb are kept at a node. -/
def KeepN (t : Tk) (s : List (List Int)) (y x : Nat) : Prop :=
  (t.fl y x = false → at2 s y x = 0) ∧ (t.fl y x = true → t.need y x ≤ at2 s y x ∧ ∀ y' x', t.Nb y x y' x' → inB (at2 s y' x' - at2 s y x) (0 - t.cb) t.cb = true)
theorem keep_val {t : Tk} {s : List (List Int)} (sh : Shp t s) (h : ∀ y x, y < t.H → x < t.W → KeepN t s y x) : Val t s := by
  refine ⟨sh, fun y x hy hx hf => (h y x hy hx).1 hf, fun y x hy hx hf => ((h y x hy hx).2 hf).1, fun y x y' x' hy hx hf hn => ?_⟩
  have := inB_iff.1 (((h y x hy hx).2 hf).2 y' x' hn)
  omega
theorem val_keep {t : Tk} {s : List (List Int)} (h : Val t s) {y x : Nat} (hy : y < t.H) (hx : x < t.W) : KeepN t s y x := by
  refine ⟨h.ze y x hy hx, fun hf => ⟨h.ab y x hy hx hf, fun y' x' hn => inB_iff.2 ?_⟩⟩
  have h1 := h.st y x y' x' hy hx hf hn
  have h2 := h.st y' x' y x hn.1 hn.2.1 hn.fl (hn.symm hy hx)
  omega
theorem nodeE_lea {t : Tk} (ok : OkT t) {g : List (List Int)} (hg : Lea t g) {y x : Nat} (hy : y < t.H) (hx : x < t.W) : nodeE t g y x = 0 := by
  have hk := val_keep hg.1 hy hx
  cases hf : t.fl y x
  · unfold nodeE
    rw [hf, hk.1 hf]; rfl
  · obtain ⟨h1, h2⟩ := hk.2 hf
    have hs : (nbR t y x).any (steepB t g y x) = false := by
      rw [List.any_eq_false]
      intro p hp
      have := h2 p.1 p.2 ((nbR_mem hy hx).1 hp)
      unfold steepB; rw [this]; simp
    rw [nodeE_rest hy hx hf h1 hs]
    have hfo : ((at2 g y x == t.need y x) || (nbR t y x).any (forcB t g y x)) = true := by
      rw [Bool.or_eq_true]
      apply Classical.byContradiction
      intro hno
      rw [not_or] at hno
      have n1 : at2 g y x ≠ t.need y x := by simpa using hno.1
      have n2 : ∀ y' x', t.Nb y x y' x' → at2 g y' x' - at2 g y x ≠ t.cb := fun y' x' hn e => by
        apply hno.2
        rw [List.any_eq_true]
        exact ⟨(y', x'), (nbR_mem hy hx).2 hn, by simp [forcB, e]⟩
      have hgl := hg.1.sh.hl
      have ha := fun a b => at2_set (g := g) (y := y) (x := x) (y' := a) (x' := b) (v := at2 g y x - 1) (by omega) (by rw [hg.1.sh.row hy]; exact hx)
      have hv : Val t (set2 g y x (at2 g y x - 1)) := by
        refine ⟨hg.1.sh.set hy, fun a b h3 h4 h5 => ?_, fun a b h3 h4 h5 => ?_, fun a b a' b' h3 h4 h5 hn => ?_⟩
        · rw [ha]
          split
          · rename_i e
            rw [e.1, e.2, hf] at h5; cases h5
          · exact hg.1.ze a b h3 h4 h5
        · rw [ha]
          split
          · rename_i e
            rw [e.1, e.2]; omega
          · exact hg.1.ab a b h3 h4 h5
        · have h6 := hg.1.st a b a' b' h3 h4 h5 hn
          have h7 := hn.ne
          rw [ha, ha]
          by_cases e1 : a = y ∧ b = x
          · rw [if_pos e1, if_neg (fun e2 => h7 ⟨e1.1.trans e2.1.symm, e1.2.trans e2.2.symm⟩)]
            obtain ⟨rfl, rfl⟩ := e1
            omega
          · rw [if_neg e1]
            by_cases e2 : a' = y ∧ b' = x
            · rw [if_pos e2]
              obtain ⟨rfl, rfl⟩ := e2
              have h8 := n2 a b (hn.symm h3 h4)
              have h9 := inB_iff.1 (h2 a b (hn.symm h3 h4))
              omega
            · rw [if_neg e2]; exact h6
      have := hg.2 _ hv y x hy hx
      rw [ha, if_pos ⟨rfl, rfl⟩] at this
      omega
    rw [hfo]; rfl
theorem clE_lea {t : Tk} (ok : OkT t) {g : List (List Int)} (hg : Lea t g) : clE t g = (0, 0, if t.cb > 0 then 0 else 15) := by
  unfold clE
  rw [if_pos (surfE_of (hg.okz ok))]
  split
  · refine clN_zero fun q hq => ?_
    obtain ⟨y, x⟩ := q
    obtain ⟨h1, h2⟩ := nodesP_mem.1 hq
    exact nodeE_lea ok hg h1 h2
  · rfl
/-- More clearance. -/
def Tk.up (t : Tk) (m : Int) : Tk := { t with cl := t.cl + m }
def Tk.steep (t : Tk) (m : Int) : Tk := { t with cb := t.cb + m }
def Tk.wide (t : Tk) (r : List Int) : Tk := { t with rows := r }
theorem up_lea {t : Tk} {g g' : List (List Int)} {m : Int} (hg : Lea t g) (hg' : Lea (t.up m) g') {y x : Nat} (hy : y < t.H) (hx : x < t.W) (hf : t.fl y x = true) : at2 g' y x = at2 g y x + m := by
  have key : ∀ (t : Tk) (g : List (List Int)) (m : Int), Val t g → Val (t.up m) ((List.range t.H).map fun y => (List.range t.W).map fun x => if t.fl y x = true then at2 g y x + m else 0) ∧ ∀ y x, y < t.H → x < t.W → at2 ((List.range t.H).map fun y => (List.range t.W).map fun x => if t.fl y x = true then at2 g y x + m else 0) y x = if t.fl y x = true then at2 g y x + m else 0 := fun t g m hv => by
    have ha : ∀ y x, y < t.H → x < t.W → at2 ((List.range t.H).map fun y => (List.range t.W).map fun x => if t.fl y x = true then at2 g y x + m else 0) y x = if t.fl y x = true then at2 g y x + m else 0 := fun y x hy hx => by
      rw [at2_get (by simp; exact hy) (by simp; exact hx)]; simp
    refine ⟨⟨⟨by simp; rfl, fun y h => by simp; rfl⟩, fun y x hy hx hf => ?_, fun y x hy hx hf => ?_, fun y x y' x' hy hx hf hn => ?_⟩, ha⟩
    · rw [ha y x hy hx, if_neg (by rw [show t.fl y x = false from hf]; simp)]
    · have hf' : t.fl y x = true := hf
      rw [ha y x hy hx, if_pos hf']
      have := hv.ab y x hy hx hf
      show at2 t.ter y x + (t.cl + m) ≤ _
      unfold Tk.need at this
      omega
    · have hn' : t.Nb y x y' x' := hn
      have hf' : t.fl y x = true := hf
      rw [ha y x hy hx, ha y' x' hn'.1 hn'.2.1, if_pos hf', if_pos hn'.fl]
      have := hv.st y x y' x' hy hx hf hn'
      show at2 g y x + m - t.cb ≤ _
      omega
  obtain ⟨k1, k2⟩ := key t g m hg.1
  have h1 := hg'.2 _ k1 y x hy hx
  rw [k2 y x hy hx, if_pos hf] at h1
  have e : (t.up m).up (0 - m) = t := by simp only [Tk.up]; rw [show t.cl + m + (0 - m) = t.cl by omega]
  obtain ⟨j1, j2⟩ := key (t.up m) g' (0 - m) hg'.1
  rw [e] at j1
  have h2 := hg.2 _ j1 y x hy hx
  have h3 := j2 y x hy hx
  rw [show (t.up m).fl y x = true from hf, if_pos rfl] at h3
  rw [h3] at h2
  omega
theorem steep_lea {t : Tk} {g g' : List (List Int)} {m : Int} (hm : 0 ≤ m) (hg : Lea t g) (hg' : Lea (t.steep m) g') {y x : Nat} (hy : y < t.H) (hx : x < t.W) : at2 g' y x ≤ at2 g y x := by
  refine hg'.2 g ⟨⟨hg.1.sh.hl, hg.1.sh.wl⟩, hg.1.ze, hg.1.ab, fun y x y' x' hy hx hf hn => ?_⟩ y x hy hx
  have := hg.1.st y x y' x' hy hx hf hn
  show at2 g y x - (t.cb + m) ≤ _
  omega
theorem wide_lea {t : Tk} {g g' : List (List Int)} {r : List Int} (hr : ∀ n ∈ t.rows, n ∈ r) (hg : Lea t g) (hg' : Lea (t.wide r) g') {y x : Nat} (hy : y < t.H) (hx : x < t.W) (hf : t.fl y x = true) : at2 g y x ≤ at2 g' y x := by
  have hfl : ∀ y x, t.fl y x = true → (t.wide r).fl y x = true := fun y x h => by
    simp only [Tk.fl, Tk.wide, Bool.or_eq_true, List.contains_iff_mem] at h ⊢
    exact h.imp (hr _) id
  have ha : ∀ y x, y < t.H → x < t.W → at2 ((List.range t.H).map fun y => (List.range t.W).map fun x => if t.fl y x = true then at2 g' y x else 0) y x = if t.fl y x = true then at2 g' y x else 0 := fun y x hy hx => by
    rw [at2_get (by simp; exact hy) (by simp; exact hx)]; simp
  have hv : Val t ((List.range t.H).map fun y => (List.range t.W).map fun x => if t.fl y x = true then at2 g' y x else 0) := by
    refine ⟨⟨by simp, fun y h => by simp⟩, fun y x hy hx hf => ?_, fun y x hy hx hf => ?_, fun y x y' x' hy hx hf hn => ?_⟩
    · rw [ha y x hy hx, if_neg (by rw [hf]; simp)]
    · rw [ha y x hy hx, if_pos hf]
      exact hg'.1.ab y x hy hx (hfl y x hf)
    · rw [ha y x hy hx, ha y' x' hn.1 hn.2.1, if_pos hf, if_pos hn.fl]
      refine hg'.1.st y x y' x' hy hx (hfl y x hf) ?_
      obtain ⟨h1, h2, h3⟩ := hn
      exact ⟨h1, h2, h3.imp (fun h => ⟨hr _ h.1, h.2⟩) id⟩
  have := hg.2 _ hv y x hy hx
  rwa [ha y x hy hx, if_pos hf] at this
/-- Rows, and one more. -/
def wRows (t : Tk) (m n : Nat) : List Int := ((List.range n).filter fun y : Nat => t.rows.contains (y : Int) || y == m).map fun y : Nat => (y : Int)
theorem wRows_succ (t : Tk) (m n : Nat) : wRows t m (n + 1) = wRows t m n ++ if (t.rows.contains (n : Int) || n == m) = true then [(n : Int)] else [] := by
  unfold wRows
  rw [List.range_succ, List.filter_append, List.map_append]
  congr 1
  cases h : (t.rows.contains (n : Int) || n == m)
  · rw [List.filter_cons, h]; rfl
  · rw [List.filter_cons, h]; rfl
theorem wRows_mem {t : Tk} {m n : Nat} {k : Int} : k ∈ wRows t m n ↔ ∃ y : Nat, y < n ∧ k = (y : Int) ∧ ((y : Int) ∈ t.rows ∨ y = m) := by
  unfold wRows
  simp only [List.mem_map, List.mem_filter, List.mem_range, Bool.or_eq_true, List.contains_iff_mem, beq_iff_eq]
  constructor
  · rintro ⟨y, ⟨h1, h2⟩, rfl⟩; exact ⟨y, h1, rfl, h2⟩
  · rintro ⟨y, h1, rfl, h2⟩; exact ⟨y, ⟨h1, h2⟩, rfl⟩
theorem wRows_asc (t : Tk) (m : Nat) : ∀ n, Asc (wRows t m n)
  | 0 => List.Pairwise.nil
  | n + 1 => by
    rw [wRows_succ]
    unfold Asc
    rw [List.pairwise_append]
    refine ⟨wRows_asc t m n, by split <;> simp, fun a ha b hb => ?_⟩
    obtain ⟨y, h1, rfl, _⟩ := wRows_mem.1 ha
    split at hb
    · simp only [List.mem_singleton] at hb
      omega
    · cases hb
theorem wRows_len (t : Tk) (m n : Nat) : (wRows t m n).length ≤ n := by
  unfold wRows
  rw [List.length_map]
  have := List.length_filter_le (fun y : Nat => t.rows.contains (y : Int) || y == m) (List.range n)
  rwa [List.length_range] at this
theorem wide_ok {t : Tk} (ok : OkT t) {m : Nat} (hm : m < t.ter.length) : OkT (t.wide (wRows t m t.ter.length)) ∧ ∀ n ∈ t.rows, n ∈ wRows t m t.ter.length := by
  refine ⟨⟨ok.h1, ok.w1, ok.rw, ok.cl, ok.cb, ⟨fun n hn => ?_, wRows_asc t m _⟩, ok.ts, ?_⟩, fun n hn => ?_⟩
  · obtain ⟨y, h1, rfl, _⟩ := wRows_mem.1 hn
    show 0 ≤ (y : Int) ∧ (y : Int) < (t.ter.length : Int)
    omega
  · have : (m : Int) ∈ wRows t m t.ter.length := wRows_mem.2 ⟨m, hm, rfl, .inr rfl⟩
    have := List.length_pos_of_mem this
    show 0 < (wRows t m t.ter.length).length + t.ties.length
    omega
  · have := ok.rs.1 n hn
    exact wRows_mem.2 ⟨n.toNat, by omega, by omega, .inl (by rw [show ((n.toNat : Nat) : Int) = n by omega]; exact hn)⟩
/-- A valid task is accepted. -/
theorem lns_of {cnt : Int} : ∀ {ns : List Int} {last : Int} {i : Nat}, (∀ n ∈ ns, (0 ≤ n ∧ n < cnt) ∧ last < n) → Asc ns → (lnsE cnt last i ns).2 = 0
  | [], _, _, _, _ => rfl
  | n :: ns, last, i, h, ha => by
    rw [Asc, List.pairwise_cons] at ha
    have h1 := h n List.mem_cons_self
    simp only [lnsE]
    rw [if_pos (lnE_c (inB_iff.2 (by omega)) h1.2)]
    exact lns_of (fun m hm => ⟨(h m (List.mem_cons_of_mem _ hm)).1, ha.1 m hm⟩) ha.2
theorem rows_of {W : Nat} (hW : 0 < W ∧ W ≤ 12) : ∀ {rs : List (List Int)} {i : Nat}, (∀ r ∈ rs, r.length = W ∧ ∀ n ∈ r, 0 ≤ n ∧ n ≤ 10000) → (rowsE W i rs).2 = 0
  | [], _, _ => rfl
  | r :: rs, i, h => by
    obtain ⟨h1, h2⟩ := h r List.mem_cons_self
    have h3 : rowE W r = 0 := by
      have hb : (r.any fun n => !inB n 0 10000) = false := by
        rw [List.any_eq_false]
        intro n hn
        rw [inB_iff.2 (h2 n hn)]; simp
      rw [rowE_c ⟨by omega, h1⟩ (by omega) hb]; rfl
    simp only [rowsE]
    rw [if_pos h3]
    exact rows_of hW fun q hq => h q (List.mem_cons_of_mem _ hq)
theorem okT_task {t : Tk} (ok : OkT t) : (taskF id t).2 = 0 := by
  unfold taskF
  have hh : headE t = 0 := by
    unfold headE
    rw [firstE_zero, firstE_zero, unl_eq (by decide), unl_eq (by decide)]
    simp only [decide_eq_true_eq]
    have := ok.h1
    exact ⟨by omega, by omega, rfl⟩
  have ht : tailE t = 0 := by
    unfold tailE
    rw [firstE_zero, firstE_zero, unl_eq (by decide), unl_eq (by decide)]
    simp only [decide_eq_true_eq, Bool.and_eq_true]
    have := ok.ne
    exact ⟨⟨inB_iff.2 ok.cl, inB_iff.2 ok.cb⟩, by omega, rfl⟩
  rw [if_pos hh, if_pos (rows_of ok.w1 ok.rw), if_pos ht, if_pos (lns_of (fun n hn => ⟨ok.rs.1 n hn, by have := ok.rs.1 n hn; omega⟩) ok.rs.2)]
  exact lns_of (fun n hn => ⟨ok.ts.1 n hn, by have := ok.ts.1 n hn; omega⟩) ok.ts.2
end Go.Proofs.Ytgjpdjihjphbdaa

/- Contracts: remainders, what is kept, nowhere lower, errors of any surface. -/
namespace Go.Proofs.Ytgjpdjihjphbdaa
open Go.RowKit
set_option linter.unusedVariables false

theorem mf_bMod : MT.mf 77 = some ⟨14, [(.tmp 4)], (.seq (.reg [⟨none, (some 4), (.mv (.c (.lit (.int .i64 0))))⟩]) (.seq (.reg [⟨none, (some 5), (.mv (.s 0))⟩, ⟨none, (some 6), (.mv (.s 1))⟩, ⟨none, (some 7), (.bin .rem (.s 5) (.s 6))⟩, ⟨none, (some 0), (.mv (.s 7))⟩]) (.seq (.seq (.reg [⟨none, (some 8), (.mv (.s 0))⟩, ⟨none, (some 9), (.bin .lss (.s 8) (.c (.lit (.int .i64 0))))⟩]) (.cond (.s 9) (.reg [⟨none, (some 10), (.mv (.s 0))⟩, ⟨none, (some 11), (.mv (.s 1))⟩, ⟨none, (some 12), (.bin .add (.s 10) (.s 11))⟩, ⟨none, (some 0), (.mv (.s 12))⟩]) .skip)) (.seq (.reg [⟨none, (some 13), (.mv (.s 0))⟩, ⟨none, (some 4), (.mv (.s 13))⟩]) .ret))))⟩ := by kernel_rfl
theorem bMod_c (k : Nat) (a b : Int) (h : MHeap) (h0 : 0 < b) (h1 : b ≤ 1000) : orA (k + 1) 77 [I64 a, I64 b] h = some (I64 (a % b), h) := by
  refine callL (frz_lits [.int .i64 a, .int .i64 b]) rfl (runZ_of mf_bMod (by simp) ?_)
  simp only [argsL, List.map_cons, List.map_nil]
  have e1 := Int.emod_nonneg a (show b ≠ 0 by omega)
  have e2 := Int.emod_lt_of_pos a h0
  have hr : binI .rem .i64 a b = some (.int .i64 (a.tmod b)) := by
    simp only [binI]
    rw [if_neg (by omega)]
  have e3 : a.tmod b = a % b ∨ a.tmod b = a % b - b := by
    have := Int.tmod_eq_emod (a := a) (b := b)
    split at this
    · left; omega
    · right; omega
  generalize a.tmod b = v at hr e3
  by_cases hneg : v < 0
  · repeat (first | apply ef_seq | (apply ef_mv; exact rfl; exact rfl) | apply ef_nil | apply seqQ.normal)
    (apply ef_bin; (· exact rfl); (· exact rfl); (· exact rfl); (· exact hr))
    repeat (first | apply ef_seq | (apply ef_mv; exact rfl; exact rfl) | (apply ef_bin; exact rfl; exact rfl; exact rfl; (first | exact cmp_t rfl (by first | exact rfl | (simp only [cmpP]; omega)) | ((with_reducible refine bin_add (wrap_of ?_ ?_)) <;> omega))) | apply ef_nil | apply seqQ.normal | apply ef_ret | (apply ef_condt; exact rfl; (exact (rfl : true = true))))
    (refine fin1 rfl (by exact rfl) rfl ?_)
    rw [show v + b = a % b by omega]
  · repeat (first | apply ef_seq | (apply ef_mv; exact rfl; exact rfl) | apply ef_nil | apply seqQ.normal)
    (apply ef_bin; (· exact rfl); (· exact rfl); (· exact rfl); (· exact hr))
    repeat (first | apply ef_seq | (apply ef_mv; exact rfl; exact rfl) | (apply ef_bin; exact rfl; exact rfl; exact rfl; (exact cmp_f rfl (by simp only [cmpP]; omega))) | apply ef_nil | apply seqQ.normal | apply ef_ret | apply ef_skip | (apply ef_condf; exact rfl; (exact (rfl : false = false))))
    (refine fin1 rfl (by exact rfl) rfl ?_)
    rw [show v = a % b by omega]

/-- Clearance and climb at a node. -/
def keepB (t : Tk) (s : List (List Int)) (y x : Nat) : Bool := if t.fl y x = true then decide (t.need y x ≤ at2 s y x) && !(nbR t y x).any (steepB t s y x) else decide (at2 s y x = 0)
def keepsB (t : Tk) (s : List (List Int)) : Bool := (nodesP t.ter.length t.W).all fun p => keepB t s p.1 p.2
theorem keepB_iff {t : Tk} {s : List (List Int)} {y x : Nat} (hy : y < t.H) (hx : x < t.W) : keepB t s y x = true ↔ KeepN t s y x := by
  unfold keepB KeepN
  cases hf : t.fl y x
  · simp
  · simp only [if_true, Bool.and_eq_true, decide_eq_true_eq, Bool.not_eq_true', List.any_eq_false, steepB, Bool.not_eq_true', Bool.not_eq_false, reduceCtorEq, false_implies, true_and, true_implies]
    refine and_congr_right fun _ => ⟨fun h y' x' hn => h (y', x') ((nbR_mem hy hx).2 hn), fun h p hp => h p.1 p.2 ((nbR_mem hy hx).1 hp)⟩
theorem keepsB_iff {t : Tk} {s : List (List Int)} : keepsB t s = true ↔ ∀ y x, y < t.H → x < t.W → KeepN t s y x := by
  unfold keepsB
  rw [List.all_eq_true]
  constructor
  · exact fun h y x hy hx => (keepB_iff hy hx).1 (h (y, x) (nodesP_mem.2 ⟨hy, hx⟩))
  · rintro h ⟨y, x⟩ hp
    obtain ⟨h1, h2⟩ := nodesP_mem.1 hp
    exact (keepB_iff h1 h2).2 (h y x h1 h2)
theorem keepsB_no {t : Tk} {s : List (List Int)} {y x : Nat} (hy : y < t.H) (hx : x < t.W) (h : keepB t s y x = false) : keepsB t s = false := by
  rw [Bool.eq_false_iff, ne_eq, keepsB_iff]
  intro h2
  rw [(keepB_iff hy hx).2 (h2 y x hy hx)] at h
  cases h
theorem keepB_ze {t : Tk} {s : List (List Int)} {y x : Nat} (hf : t.fl y x = false) : keepB t s y x = decide (at2 s y x = 0) := by
  unfold keepB; rw [hf]; rfl
theorem keepB_low {t : Tk} {s : List (List Int)} {y x : Nat} (hf : t.fl y x = true) (h : ¬ t.need y x ≤ at2 s y x) : keepB t s y x = false := by
  unfold keepB; rw [hf, decide_eq_false h]; rfl
theorem keepB_st {t : Tk} {s : List (List Int)} {y x : Nat} (hf : t.fl y x = true) (h : t.need y x ≤ at2 s y x) : keepB t s y x = !(nbR t y x).any (steepB t s y x) := by
  unfold keepB; rw [hf, decide_eq_true h]; rfl
theorem mf_keeps : MT.mf 75 = some ⟨86, [(.tmp 4)], (.seq (.reg [⟨none, (some 2), (.box 5 (.s 0))⟩, ⟨none, (some 4), (.mv (.c (.lit (.bool false))))⟩]) (.seq (.seq (.reg [⟨none, (some 5), (.mv (.c (.lit (.int .i64 0))))⟩]) (.block 0 (.loop [5, 1, 2] (.seq (.seq (.reg [⟨none, (some 9), (.mv (.s 5))⟩, ⟨none, (some 10), (.mv (.s 1))⟩, ⟨none, (some 11), (.len (.s 10))⟩, ⟨none, (some 12), (.bin .lss (.s 9) (.s 11))⟩]) (.cond (.s 12) .skip (.exit 0))) (.seq (.block 1 (.seq (.reg [⟨none, (some 6), (.mv (.c (.lit (.int .i64 0))))⟩]) (.block 2 (.loop [6, 1, 5, 2] (.seq (.seq (.reg [⟨none, (some 15), (.mv (.s 6))⟩, ⟨none, (some 16), (.mv (.s 1))⟩, ⟨none, (some 17), (.mv (.s 5))⟩, ⟨none, (some 18), (.ia 1 (.s 16) (.s 17))⟩, ⟨none, (some 19), (.ld none (.s 18))⟩, ⟨none, (some 20), (.len (.s 19))⟩, ⟨none, (some 21), (.bin .lss (.s 15) (.s 20))⟩]) (.cond (.s 21) .skip (.exit 2))) (.seq (.block 3 (.seq (.seq (.reg [⟨none, (some 24), (.ld (some 5) (.s 2))⟩, ⟨none, (some 25), (.mv (.s 6))⟩, ⟨none, (some 26), (.mv (.s 5))⟩, ⟨none, (some 27), (.call 47 [(.s 24), (.s 25), (.s 26)])⟩, ⟨none, (some 28), (.un .not (.s 27))⟩]) (.cond (.s 28) (.seq (.seq (.reg [⟨none, (some 29), (.mv (.s 1))⟩, ⟨none, (some 30), (.mv (.s 5))⟩, ⟨none, (some 31), (.ia 1 (.s 29) (.s 30))⟩, ⟨none, (some 32), (.ld none (.s 31))⟩, ⟨none, (some 33), (.mv (.s 6))⟩, ⟨none, (some 34), (.ia 1 (.s 32) (.s 33))⟩, ⟨none, (some 35), (.ld none (.s 34))⟩, ⟨none, (some 36), (.bin .neq (.s 35) (.c (.lit (.int .i64 0))))⟩]) (.cond (.s 36) (.seq (.reg [⟨none, (some 4), (.mv (.c (.lit (.bool false))))⟩]) .ret) .skip)) (.exit 3)) .skip)) (.seq (.seq (.reg [⟨none, (some 37), (.mv (.s 1))⟩, ⟨none, (some 38), (.mv (.s 5))⟩, ⟨none, (some 39), (.ia 1 (.s 37) (.s 38))⟩, ⟨none, (some 40), (.ld none (.s 39))⟩, ⟨none, (some 41), (.mv (.s 6))⟩, ⟨none, (some 42), (.ia 1 (.s 40) (.s 41))⟩, ⟨none, (some 43), (.ld none (.s 42))⟩, ⟨none, (some 44), (.ld (some 5) (.s 2))⟩, ⟨none, (some 45), (.mv (.s 6))⟩, ⟨none, (some 46), (.mv (.s 5))⟩, ⟨none, (some 47), (.call 51 [(.s 44), (.s 45), (.s 46)])⟩, ⟨none, (some 48), (.bin .lss (.s 43) (.s 47))⟩]) (.cond (.s 48) (.seq (.reg [⟨none, (some 4), (.mv (.c (.lit (.bool false))))⟩]) .ret) .skip)) (.seq (.reg [⟨none, (some 49), (.ld (some 5) (.s 2))⟩, ⟨none, (some 50), (.mv (.s 6))⟩, ⟨none, (some 51), (.mv (.s 5))⟩, ⟨none, (some 52), (.call 119 [(.s 49), (.s 50), (.s 51)])⟩, ⟨none, (some 7), (.mv (.s 52))⟩]) (.seq (.reg [⟨none, (some 8), (.mv (.c (.lit (.int .i64 0))))⟩]) (.block 4 (.loop [8, 7, 1, 5, 6, 2] (.seq (.seq (.reg [⟨none, (some 53), (.mv (.s 8))⟩, ⟨none, (some 54), (.mv (.s 7))⟩, ⟨none, (some 55), (.len (.s 54))⟩, ⟨none, (some 56), (.bin .lss (.s 53) (.s 55))⟩]) (.cond (.s 56) .skip (.exit 4))) (.seq (.block 5 (.seq (.reg [⟨none, (some 59), (.mv (.s 1))⟩, ⟨none, (some 60), (.mv (.s 7))⟩, ⟨none, (some 61), (.mv (.s 8))⟩, ⟨none, (some 62), (.ia 2 (.s 60) (.s 61))⟩, ⟨none, (some 63), (.fa 1 (.s 62))⟩, ⟨none, (some 64), (.ld none (.s 63))⟩, ⟨none, (some 65), (.ia 1 (.s 59) (.s 64))⟩, ⟨none, (some 66), (.ld none (.s 65))⟩, ⟨none, (some 67), (.mv (.s 7))⟩, ⟨none, (some 68), (.mv (.s 8))⟩, ⟨none, (some 69), (.ia 2 (.s 67) (.s 68))⟩, ⟨none, (some 70), (.fa 0 (.s 69))⟩, ⟨none, (some 71), (.ld none (.s 70))⟩, ⟨none, (some 72), (.ia 1 (.s 66) (.s 71))⟩, ⟨none, (some 73), (.ld none (.s 72))⟩, ⟨none, (some 74), (.mv (.s 1))⟩, ⟨none, (some 75), (.mv (.s 5))⟩, ⟨none, (some 76), (.ia 1 (.s 74) (.s 75))⟩, ⟨none, (some 77), (.ld none (.s 76))⟩, ⟨none, (some 78), (.mv (.s 6))⟩, ⟨none, (some 79), (.ia 1 (.s 77) (.s 78))⟩, ⟨none, (some 80), (.ld none (.s 79))⟩, ⟨none, (some 81), (.bin .sub (.s 73) (.s 80))⟩, ⟨none, (some 82), (.call 88 [(.s 81)])⟩, ⟨none, (some 83), (.fa 4 (.s 2))⟩, ⟨none, (some 84), (.ld none (.s 83))⟩, ⟨none, (some 85), (.bin .gtr (.s 82) (.s 84))⟩]) (.cond (.s 85) (.seq (.reg [⟨none, (some 4), (.mv (.c (.lit (.bool false))))⟩]) .ret) .skip))) (.reg [⟨none, (some 57), (.mv (.s 8))⟩, ⟨none, (some 58), (.bin .add (.s 57) (.c (.lit (.int .i64 1))))⟩, ⟨none, (some 8), (.mv (.s 58))⟩])))))))))) (.reg [⟨none, (some 22), (.mv (.s 6))⟩, ⟨none, (some 23), (.bin .add (.s 22) (.c (.lit (.int .i64 1))))⟩, ⟨none, (some 6), (.mv (.s 23))⟩]))))))) (.reg [⟨none, (some 13), (.mv (.s 5))⟩, ⟨none, (some 14), (.bin .add (.s 13) (.c (.lit (.int .i64 1))))⟩, ⟨none, (some 5), (.mv (.s 14))⟩])))))) (.seq (.reg [⟨none, (some 4), (.mv (.c (.lit (.bool true))))⟩]) .ret)))⟩ := by kernel_rfl
set_option maxHeartbeats 2000000 in
theorem keeps_z (k : Nat) (t : Tk) (ok : OkT t) (hb : Bd t) (s : List (List Int)) (os : OkZ t s) : runZ MT (orA (k + 2)) (itA (k + 2)) 4000000 75 [encT t, .sl (s.map encW)] [] = some (Bo (keepsB t s), []) := by
  have hs2 : (MV.sl (s.map encW)).slen = some s.length := by simp [MV.slen]
  have hgl : s.length = t.ter.length := os.sh.hl
  have h12 := ok.h1
  have w12 := ok.w1
  have hcb := ok.cb
  refine runZ_of mf_keeps (by simp) ?_
  simp only [argsL]
  repeat (first | apply ef_seq | (apply ef_mv; exact rfl; exact rfl) | (apply ef_box; exact rfl; exact rfl; exact rfl; exact rfl) | apply ef_nil | apply seqQ.normal | apply ef_block)
  refine ef_loopf (α := Nat) (fun y => y ≤ t.ter.length ∧ (nodesP y t.W).all (fun p => keepB t s p.1 p.2) = true) (fun y => [(5, I64 (y : Int))]) [(1, _), (2, .ptr 0 0 0 0)] (fun _ => [⟨0, false, 5, [encT t]⟩]) (fun y => t.ter.length - y) 0 [5] (fun _ => rfl) (by ((repeat (refine Hold.cons (by exact rfl) ?_)); exact Hold.nil)) (by ((repeat (refine Hold.cons (by exact rfl) ?_)); exact Hold.nil)) rfl rfl ⟨by simp, by simp [nodesP]⟩ (by simp; omega) ?_
  rintro y ⟨hy, hz⟩
  try simp only at hy ⊢
  by_cases hlt : y < t.ter.length
  · have e1 := os.row (y := y) hlt
    have hrw := os.sh.row (y := y) hlt
    have hsr : (encW (s.getD y [])).slen = some t.W := by simp [MV.slen]; exact hrw
    repeat (first | apply ef_seq | (apply ef_mv; exact rfl; exact rfl) | (apply ef_bin; exact rfl; exact rfl; exact rfl; (exact cmp_t rfl (by first | exact rfl | (simp only [cmpP]; omega)))) | (apply ef_len; exact rfl; exact rfl; (assumption)) | apply ef_nil | apply seqQ.normal | apply ef_block | apply ef_skip | (apply ef_condt; exact rfl; (exact (rfl : true = true))))
    refine ef_loopf (α := Nat) (fun x => x ≤ t.W ∧ (nodesP y t.W ++ (List.range x).map (fun x => (y, x))).all (fun p => keepB t s p.1 p.2) = true) (fun x => [(6, I64 (x : Int))]) [(1, _), (5, I64 (y : Int)), (2, .ptr 0 0 0 0)] (fun _ => [⟨0, false, 5, [encT t]⟩]) (fun x => t.W - x) 0 [6] (fun _ => rfl) (by ((repeat (refine Hold.cons (by exact rfl) ?_)); exact Hold.nil)) (by ((repeat (refine Hold.cons (by exact rfl) ?_)); exact Hold.nil)) rfl rfl ⟨by simp, by simpa using hz⟩ (by simp; omega) ?_
    clear hz
    rintro x ⟨hx, hz⟩
    try simp only at hx ⊢
    by_cases hlt2 : x < t.W
    · have e2 := os.cell hlt hlt2
      obtain ⟨v1, v2⟩ := os.rg y x hlt hlt2
      obtain ⟨n1, n2⟩ := ok.need hlt hlt2
      have HN := Lib.hid (keepsB_no (t := t) (s := s) (y := y) (x := x) hlt hlt2)
      have HZ := Lib.hid (show keepB t s y x = true → (nodesP y t.W ++ (List.range (x + 1)).map (fun x => (y, x))).all (fun p => keepB t s p.1 p.2) = true from fun h => by
        rw [nodesP_part, List.all_append, hz]; simp [h])
      clear hz
      cases hf : t.fl y x
      · have hfl := fun h => rFlown_c k t hb h12.1 (x : Int) (y : Int) h ((t.flI_nat hlt hlt2).trans hf)
        have HE := Lib.hid (keepB_ze (s := s) hf)
        by_cases h0 : at2 s y x = 0
        · repeat (first | apply ef_seq | (apply ef_mv; exact rfl; exact rfl) | (apply ef_bin; exact rfl; exact rfl; exact rfl; (first | exact cmp_t rfl (by first | exact rfl | (simp only [cmpP]; omega)) | exact cmp_f rfl (by simp only [cmpP]; omega) | ((with_reducible refine bin_add (wrap_of ?_ ?_)) <;> omega))) | (apply ef_len; exact rfl; exact rfl; (assumption)) | (apply ef_ldr; exact rfl; exact rfl; (exact rfl)) | (apply ef_ldp; exact rfl; exact rfl; (exact rfl); exact rfl; (exact rfl); (exact rd_5 rfl rfl rfl rfl rfl)) | (apply ef_ias; exact rfl; exact rfl; exact rfl; (omega); assumption; exact rfl) | (apply ef_notF; exact rfl; exact rfl) | apply ef_nil | apply seqQ.normal | apply ef_exit | apply seqQ.exit | apply blockQ.here | apply ef_block | apply ef_skip | (apply ef_condt; exact rfl; (exact (rfl : true = true))) | (apply ef_condf; exact rfl; (exact (rfl : false = false))) | (apply ef_call; exact rfl; ((repeat (apply XVs.cons; exact rfl)); exact XVs.nil); (with_reducible exact hfl _)))
          (refine loopQ.normal _ _ ⟨x + 1, ⟨hlt2, HZ.out (by rw [HE.out, decide_eq_true h0])⟩, (by first | (simp only; omega) | omega), ⟨by ((repeat (refine Hold.cons (by exact rfl) ?_)); exact Hold.nil), by ((repeat (refine Hold.cons (by exact rfl) ?_)); exact Hold.nil)⟩, .inl (Nat.le_refl _), (by first | exact List.take_length | exact rfl | exact takeF rfl rfl)⟩)
        · repeat (first | apply ef_seq | (apply ef_mv; exact rfl; exact rfl) | (apply ef_bin; exact rfl; exact rfl; exact rfl; (exact cmp_t rfl (by first | exact rfl | (simp only [cmpP]; omega)))) | (apply ef_len; exact rfl; exact rfl; (assumption)) | (apply ef_ldr; exact rfl; exact rfl; (exact rfl)) | (apply ef_ldp; exact rfl; exact rfl; (exact rfl); exact rfl; (exact rfl); (exact rd_5 rfl rfl rfl rfl rfl)) | (apply ef_ias; exact rfl; exact rfl; exact rfl; (omega); assumption; exact rfl) | (apply ef_notF; exact rfl; exact rfl) | apply ef_nil | apply seqQ.normal | apply loopQ.ret | apply ef_ret | apply seqQ.ret | apply blockQ.ret | apply ef_block | apply ef_skip | (apply ef_condt; exact rfl; (exact (rfl : true = true))) | (apply ef_call; exact rfl; ((repeat (apply XVs.cons; exact rfl)); exact XVs.nil); (with_reducible exact hfl _)))
          (refine fin1 rfl (by exact rfl) rfl ?_)
          rw [HN.out (by rw [HE.out, decide_eq_false h0])]
      · have hfl := fun h => rFlown_c k t hb h12.1 (x : Int) (y : Int) h ((t.flI_nat hlt hlt2).trans hf)
        have hnd := fun h => rNeed_c (k + 1) t ok hlt hlt2 h
        have hnb := fun h => rNeighbours_c k t ok hb hlt hlt2 h
        by_cases hge : t.need y x ≤ at2 s y x
        · have hlen := nbR_len t y x
          have HE := Lib.hid (keepB_st (s := s) hf hge)
          repeat (first | apply ef_seq | (apply ef_mv; exact rfl; exact rfl) | (apply ef_bin; exact rfl; exact rfl; exact rfl; (first | exact cmp_t rfl (by first | exact rfl | (simp only [cmpP]; omega)) | exact cmp_f rfl (by simp only [cmpP]; omega))) | (apply ef_len; exact rfl; exact rfl; (assumption)) | (apply ef_ldr; exact rfl; exact rfl; (exact rfl)) | (apply ef_ldp; exact rfl; exact rfl; (exact rfl); exact rfl; (exact rfl); (exact rd_5 rfl rfl rfl rfl rfl)) | (apply ef_ias; exact rfl; exact rfl; exact rfl; (omega); assumption; exact rfl) | (apply ef_notT; exact rfl; exact rfl) | apply ef_nil | apply seqQ.normal | apply ef_block | apply ef_skip | (apply ef_condt; exact rfl; (exact (rfl : true = true))) | (apply ef_condf; exact rfl; (exact (rfl : false = false))) | (apply ef_call; exact rfl; ((repeat (apply XVs.cons; exact rfl)); exact XVs.nil); (with_reducible first | exact hfl _ | exact hnd _ | exact hnb _)))
          refine ef_loopf (α := Nat) (fun i => i ≤ (nbR t y x).length ∧ ((nbR t y x).take i).any (steepB t s y x) = false) (fun i => [(8, I64 (i : Int))]) [(7, .arr 1 0 (nbR t y x).length 0), (1, _), (5, I64 (y : Int)), (6, I64 (x : Int)), (2, .ptr 0 0 0 0)] (fun _ => [⟨0, false, 5, [encT t]⟩, ⟨0, nlN (nbR t y x).length, 2, (nbR t y x).map posM⟩]) (fun i => (nbR t y x).length - i) 0 [8] (fun _ => rfl) (by ((repeat (refine Hold.cons (by exact rfl) ?_)); exact Hold.nil)) (by ((repeat (refine Hold.cons (by exact rfl) ?_)); exact Hold.nil)) rfl rfl ⟨by simp, by simp⟩ (by simp; omega) ?_
          rintro i ⟨hi, hst⟩
          try simp only at hi ⊢
          by_cases hlt3 : i < (nbR t y x).length
          · obtain ⟨⟨y1, x1⟩, hp⟩ : ∃ p, (nbR t y x)[i]? = some p := ⟨_, List.getElem?_eq_getElem hlt3⟩
            have hnb := (nbR_mem hlt hlt2).1 (List.mem_of_getElem? hp)
            simp only at hnb
            have htk : (nbR t y x).take (i + 1) = (nbR t y x).take i ++ [(y1, x1)] := by rw [List.take_add_one, hp]; rfl
            have H1 := Lib.hid (show ((nbR t y x).take (i + 1)).any (steepB t s y x) = !inB (at2 s y1 x1 - at2 s y x) (0 - t.cb) t.cb by rw [htk, List.any_append, hst]; simp [steepB])
            have H3 := Lib.hid (show ((nbR t y x).take (i + 1)).any (steepB t s y x) = true → (nbR t y x).any (steepB t s y x) = true from fun h => by
              obtain ⟨p, h1, h2⟩ := List.any_eq_true.1 h
              exact List.any_eq_true.2 ⟨p, List.mem_of_mem_take h1, h2⟩)
            have f0 : ((nbR t y x).map posM)[0 + ((i : Nat) : Int).toNat]? = some (posM (y1, x1)) := by rw [Nat.zero_add, Int.toNat_natCast, List.getElem?_map, hp]; rfl
            have f1 := os.row hnb.1
            have f2 := os.cell hnb.1 hnb.2.1
            obtain ⟨w1, w2⟩ := os.rg y1 x1 hnb.1 hnb.2.1
            clear hp htk hst
            generalize at2 s y1 x1 = v at *
            have hsz := fun h => bSize2_c (k + 1) (v - at2 s y x) h (by omega) (by omega)
            have hmx := mx_steep (d := v - at2 s y x) (c := t.cb)
            generalize hm : mx (v - at2 s y x) (0 - (v - at2 s y x)) = mm at hsz hmx
            cases hin : inB (v - at2 s y x) (0 - t.cb) t.cb
            · have hgt := hmx.2 hin
              repeat (first | apply ef_seq | (apply ef_mv; exact rfl; exact rfl) | (apply ef_bin; exact rfl; exact rfl; exact rfl; (first | exact cmp_t rfl (by first | exact rfl | (simp only [cmpP]; omega)) | ((with_reducible refine bin_sub (wrap_of ?_ ?_)) <;> omega))) | (apply ef_len; exact rfl; exact rfl; (exact rfl)) | (apply ef_ldr; exact rfl; exact rfl; (exact rfl)) | (apply ef_ldp; exact rfl; exact rfl; (exact rfl); exact rfl; (first | exact rfl | assumption); (exact rfl)) | (apply ef_ias; exact rfl; exact rfl; exact rfl; (omega); assumption; exact rfl) | (apply ef_iaa; exact rfl; exact rfl; exact rfl; (omega); (omega); (exact rfl)) | (apply ef_fap; exact rfl; exact rfl) | apply ef_nil | apply seqQ.normal | apply loopQ.ret | apply ef_ret | apply seqQ.ret | apply blockQ.ret | apply ef_block | apply ef_skip | (apply ef_condt; exact rfl; (exact (rfl : true = true))) | (apply ef_call; exact rfl; ((repeat (apply XVs.cons; exact rfl)); exact XVs.nil); (with_reducible exact hsz _)))
              (refine fin1 rfl (by exact rfl) rfl ?_)
              rw [HN.out (by rw [HE.out, H3.out (by rw [H1.out, hin]; rfl)]; rfl)]
            · have hgt : ¬ t.cb < mm := fun h => by rw [hmx.1 h] at hin; cases hin
              repeat (first | apply ef_seq | (apply ef_mv; exact rfl; exact rfl) | (apply ef_bin; exact rfl; exact rfl; exact rfl; (first | exact cmp_t rfl (by first | exact rfl | (simp only [cmpP]; omega)) | exact cmp_f rfl (by simp only [cmpP]; omega) | ((with_reducible refine bin_add (wrap_of ?_ ?_)) <;> omega) | ((with_reducible refine bin_sub (wrap_of ?_ ?_)) <;> omega))) | (apply ef_len; exact rfl; exact rfl; (exact rfl)) | (apply ef_ldr; exact rfl; exact rfl; (exact rfl)) | (apply ef_ldp; exact rfl; exact rfl; (exact rfl); exact rfl; (first | exact rfl | assumption); (exact rfl)) | (apply ef_ias; exact rfl; exact rfl; exact rfl; (omega); assumption; exact rfl) | (apply ef_iaa; exact rfl; exact rfl; exact rfl; (omega); (omega); (exact rfl)) | (apply ef_fap; exact rfl; exact rfl) | apply ef_nil | apply seqQ.normal | apply blockQ.normal | apply ef_block | apply ef_skip | (apply ef_condt; exact rfl; (exact (rfl : true = true))) | (apply ef_condf; exact rfl; (exact (rfl : false = false))) | (apply ef_call; exact rfl; ((repeat (apply XVs.cons; exact rfl)); exact XVs.nil); (with_reducible exact hsz _)))
              (refine loopQ.normal _ _ ⟨i + 1, ⟨hlt3, by rw [H1.out, hin]; rfl⟩, (by first | (simp only; omega) | omega), ⟨by ((repeat (refine Hold.cons (by exact rfl) ?_)); exact Hold.nil), by ((repeat (refine Hold.cons (by exact rfl) ?_)); exact Hold.nil)⟩, .inl (Nat.le_refl _), (by first | exact List.take_length | exact rfl | exact takeF rfl rfl)⟩)
          · rw [List.take_of_length_le (by omega)] at hst
            have HG := Lib.hid (HZ.out (by rw [HE.out, hst]; rfl))
            clear hst
            repeat (first | apply ef_seq | (apply ef_mv; exact rfl; exact rfl) | (apply ef_bin; exact rfl; exact rfl; exact rfl; (first | exact cmp_f rfl (by simp only [cmpP]; omega) | ((with_reducible refine bin_add (wrap_of ?_ ?_)) <;> omega))) | (apply ef_len; exact rfl; exact rfl; (exact rfl)) | apply ef_nil | apply seqQ.normal | apply loopQ.exit | apply ef_exit | apply seqQ.exit | apply blockQ.normal | apply blockQ.here | (apply ef_condf; exact rfl; (exact (rfl : false = false))))
            (refine loopQ.normal _ _ ⟨x + 1, ⟨hlt2, HG.out⟩, (by first | (simp only; omega) | omega), ⟨by ((repeat (refine Hold.cons (by exact rfl) ?_)); exact Hold.nil), by ((repeat (refine Hold.cons (by exact rfl) ?_)); exact Hold.nil)⟩, .inr ⟨by ((repeat (refine hdl_cons rfl (by first | rfl | (simp [MV.lt, ltL, ltL_I, ltL_W])) ?_)); exact hdl_nil), by first | rfl | (simp [hltL, ltL, MV.lt, ltL, ltL_I, ltL_W])⟩, by first | exact rfl | (simp only [List.map_append, List.map_set]; exact rfl)⟩)
        · have HE := Lib.hid (keepB_low (s := s) hf hge)
          repeat (first | apply ef_seq | (apply ef_mv; exact rfl; exact rfl) | (apply ef_bin; exact rfl; exact rfl; exact rfl; (exact cmp_t rfl (by first | exact rfl | (simp only [cmpP]; omega)))) | (apply ef_len; exact rfl; exact rfl; (assumption)) | (apply ef_ldr; exact rfl; exact rfl; (exact rfl)) | (apply ef_ldp; exact rfl; exact rfl; (exact rfl); exact rfl; (exact rfl); (exact rd_5 rfl rfl rfl rfl rfl)) | (apply ef_ias; exact rfl; exact rfl; exact rfl; (omega); assumption; exact rfl) | (apply ef_notT; exact rfl; exact rfl) | apply ef_nil | apply seqQ.normal | apply loopQ.ret | apply ef_ret | apply seqQ.ret | apply blockQ.ret | apply ef_block | apply ef_skip | (apply ef_condt; exact rfl; (exact (rfl : true = true))) | (apply ef_condf; exact rfl; (exact (rfl : false = false))) | (apply ef_call; exact rfl; ((repeat (apply XVs.cons; exact rfl)); exact XVs.nil); (with_reducible first | exact hfl _ | exact hnd _)))
          (refine fin1 rfl (by exact rfl) rfl ?_)
          rw [HN.out HE.out]
    · obtain rfl : x = t.W := by omega
      have HG := Lib.hid hz
      clear hz
      repeat (first | apply ef_seq | (apply ef_mv; exact rfl; exact rfl) | (apply ef_bin; exact rfl; exact rfl; exact rfl; (first | exact cmp_f rfl (by simp only [cmpP]; omega) | ((with_reducible refine bin_add (wrap_of ?_ ?_)) <;> omega))) | (apply ef_len; exact rfl; exact rfl; (assumption)) | (apply ef_ldr; exact rfl; exact rfl; (exact rfl)) | (apply ef_ias; exact rfl; exact rfl; exact rfl; (omega); assumption; exact rfl) | apply ef_nil | apply seqQ.normal | apply loopQ.exit | apply ef_exit | apply seqQ.exit | apply blockQ.normal | apply blockQ.here | (apply ef_condf; exact rfl; (exact (rfl : false = false))))
      (refine loopQ.normal _ _ ⟨y + 1, ⟨hlt, by rw [nodesP_succ]; exact HG.out⟩, (by first | (simp only; omega) | omega), ⟨by ((repeat (refine Hold.cons (by exact rfl) ?_)); exact Hold.nil), by ((repeat (refine Hold.cons (by exact rfl) ?_)); exact Hold.nil)⟩, .inl (Nat.le_refl _), (by first | exact List.take_length | exact rfl | exact takeF rfl rfl)⟩)
  · obtain rfl : y = t.ter.length := by omega
    have HG := Lib.hid (show keepsB t s = true from hz)
    clear hz
    repeat (first | apply ef_seq | (apply ef_mv; exact rfl; exact rfl) | (apply ef_bin; exact rfl; exact rfl; exact rfl; (exact cmp_f rfl (by simp only [cmpP]; omega))) | (apply ef_len; exact rfl; exact rfl; (assumption)) | apply ef_nil | apply seqQ.normal | apply loopQ.exit | apply ef_ret | apply ef_exit | apply seqQ.exit | apply blockQ.here | (apply ef_condf; exact rfl; (exact (rfl : false = false))))
    (refine fin1 rfl (by exact rfl) rfl ?_)
    rw [HG.out]
theorem keeps_v (k : Nat) (t : Tk) (ok : OkT t) (hb : Bd t) (s : List (List Int)) (os : OkZ t s) (h : MHeap) {v : MV} (hv : frz 0 [] h 8 v = some (.sl (s.map encW))) {b : Bool} (he : keepsB t s = b) : orA (k + 3) 75 [encT t, v] h = some (Bo b, h) := by
  subst he
  exact callL (args' := [encT t, .sl (s.map encW)]) (by have h2 := frz_lt (h := h) (encT_lt t 0); simp [List.mapM_cons, hv, h2]) rfl (keeps_z k t ok hb s os)

theorem mf_nowhereLower : MT.mf 76 = some ⟨45, [(.tmp 6)], (.seq (.reg [⟨none, (some 3), (.box 5 (.s 0))⟩, ⟨none, (some 6), (.mv (.c (.lit (.bool false))))⟩]) (.seq (.seq (.reg [⟨none, (some 7), (.mv (.c (.lit (.int .i64 0))))⟩]) (.block 0 (.loop [7, 1, 3, 2] (.seq (.seq (.reg [⟨none, (some 9), (.mv (.s 7))⟩, ⟨none, (some 10), (.mv (.s 1))⟩, ⟨none, (some 11), (.len (.s 10))⟩, ⟨none, (some 12), (.bin .lss (.s 9) (.s 11))⟩]) (.cond (.s 12) .skip (.exit 0))) (.seq (.block 1 (.seq (.reg [⟨none, (some 8), (.mv (.c (.lit (.int .i64 0))))⟩]) (.block 2 (.loop [8, 1, 7, 3, 2] (.seq (.seq (.reg [⟨none, (some 15), (.mv (.s 8))⟩, ⟨none, (some 16), (.mv (.s 1))⟩, ⟨none, (some 17), (.mv (.s 7))⟩, ⟨none, (some 18), (.ia 1 (.s 16) (.s 17))⟩, ⟨none, (some 19), (.ld none (.s 18))⟩, ⟨none, (some 20), (.len (.s 19))⟩, ⟨none, (some 21), (.bin .lss (.s 15) (.s 20))⟩]) (.cond (.s 21) .skip (.exit 2))) (.seq (.block 3 (.seq (.reg [⟨none, (some 24), (.ld (some 5) (.s 3))⟩, ⟨none, (some 25), (.mv (.s 8))⟩, ⟨none, (some 26), (.mv (.s 7))⟩, ⟨none, (some 27), (.call 47 [(.s 24), (.s 25), (.s 26)])⟩, ⟨none, (some 28), (.mv (.s 27))⟩, ⟨(some (28, true)), (some 29), (.mv (.s 1))⟩, ⟨(some (28, true)), (some 30), (.mv (.s 7))⟩, ⟨(some (28, true)), (some 31), (.ia 1 (.s 29) (.s 30))⟩, ⟨(some (28, true)), (some 32), (.ld none (.s 31))⟩, ⟨(some (28, true)), (some 33), (.mv (.s 8))⟩, ⟨(some (28, true)), (some 34), (.ia 1 (.s 32) (.s 33))⟩, ⟨(some (28, true)), (some 35), (.ld none (.s 34))⟩, ⟨(some (28, true)), (some 36), (.mv (.s 2))⟩, ⟨(some (28, true)), (some 37), (.mv (.s 7))⟩, ⟨(some (28, true)), (some 38), (.ia 1 (.s 36) (.s 37))⟩, ⟨(some (28, true)), (some 39), (.ld none (.s 38))⟩, ⟨(some (28, true)), (some 40), (.mv (.s 8))⟩, ⟨(some (28, true)), (some 41), (.ia 1 (.s 39) (.s 40))⟩, ⟨(some (28, true)), (some 42), (.ld none (.s 41))⟩, ⟨(some (28, true)), (some 43), (.bin .lss (.s 35) (.s 42))⟩, ⟨none, (some 44), (.pick (.s 28) (.s 43) (.c (.lit (.bool false))))⟩]) (.cond (.s 44) (.seq (.reg [⟨none, (some 6), (.mv (.c (.lit (.bool false))))⟩]) .ret) .skip))) (.reg [⟨none, (some 22), (.mv (.s 8))⟩, ⟨none, (some 23), (.bin .add (.s 22) (.c (.lit (.int .i64 1))))⟩, ⟨none, (some 8), (.mv (.s 23))⟩]))))))) (.reg [⟨none, (some 13), (.mv (.s 7))⟩, ⟨none, (some 14), (.bin .add (.s 13) (.c (.lit (.int .i64 1))))⟩, ⟨none, (some 7), (.mv (.s 14))⟩])))))) (.seq (.reg [⟨none, (some 6), (.mv (.c (.lit (.bool true))))⟩]) .ret)))⟩ := by kernel_rfl
set_option maxHeartbeats 1000000 in
theorem nowhereLower_z (k : Nat) (t : Tk) (ok : OkT t) (hb : Bd t) (s g : List (List Int)) (os : OkZ t s) (og : OkZ t g) (hle : ∀ y x, y < t.H → x < t.W → t.fl y x = true → at2 g y x ≤ at2 s y x) : runZ MT (orA (k + 2)) (itA (k + 2)) 4000000 76 [encT t, .sl (s.map encW), .sl (g.map encW)] [] = some (Bo true, []) := by
  have hs1 : (MV.sl (s.map encW)).slen = some s.length := by simp [MV.slen]
  have hs2 : (MV.sl (g.map encW)).slen = some g.length := by simp [MV.slen]
  have hgl : s.length = t.ter.length := os.sh.hl
  have hgg : g.length = t.ter.length := og.sh.hl
  have h12 := ok.h1
  have w12 := ok.w1
  refine runZ_of mf_nowhereLower (by simp) ?_
  simp only [argsL]
  repeat (first | apply ef_seq | (apply ef_mv; exact rfl; exact rfl) | (apply ef_box; exact rfl; exact rfl; exact rfl; exact rfl) | apply ef_nil | apply seqQ.normal | apply ef_block)
  refine ef_loopf (α := Nat) (fun y => y ≤ t.ter.length) (fun y => [(7, I64 (y : Int))]) [(1, _), (3, .ptr 0 0 0 0), (2, _)] (fun _ => [⟨0, false, 5, [encT t]⟩]) (fun y => t.ter.length - y) 0 [7] (fun _ => rfl) (by ((repeat (refine Hold.cons (by exact rfl) ?_)); exact Hold.nil)) (by ((repeat (refine Hold.cons (by exact rfl) ?_)); exact Hold.nil)) rfl rfl (by simp) (by simp; omega) ?_
  rintro y hy
  try simp only at hy ⊢
  by_cases hlt : y < t.ter.length
  · have e1 := os.row (y := y) hlt
    have g1 := og.row (y := y) hlt
    have hrw := os.sh.row (y := y) hlt
    have hrg := og.sh.row (y := y) hlt
    have hsr : (encW (s.getD y [])).slen = some t.W := by simp [MV.slen]; exact hrw
    have hsg : (encW (g.getD y [])).slen = some t.W := by simp [MV.slen]; exact hrg
    repeat (first | apply ef_seq | (apply ef_mv; exact rfl; exact rfl) | (apply ef_bin; exact rfl; exact rfl; exact rfl; (exact cmp_t rfl (by first | exact rfl | (simp only [cmpP]; omega)))) | (apply ef_len; exact rfl; exact rfl; (assumption)) | apply ef_nil | apply seqQ.normal | apply ef_block | apply ef_skip | (apply ef_condt; exact rfl; (exact (rfl : true = true))))
    refine ef_loopf (α := Nat) (fun x => x ≤ t.W) (fun x => [(8, I64 (x : Int))]) [(1, _), (7, I64 (y : Int)), (3, .ptr 0 0 0 0), (2, _)] (fun _ => [⟨0, false, 5, [encT t]⟩]) (fun x => t.W - x) 0 [8] (fun _ => rfl) (by ((repeat (refine Hold.cons (by exact rfl) ?_)); exact Hold.nil)) (by ((repeat (refine Hold.cons (by exact rfl) ?_)); exact Hold.nil)) rfl rfl (by simp) (by simp; omega) ?_
    rintro x hx
    try simp only at hx ⊢
    by_cases hlt2 : x < t.W
    · have e2 := os.cell hlt hlt2
      have g2 := og.cell hlt hlt2
      have hl := hle y x hlt hlt2
      cases hf : t.fl y x
      · have hfl := fun h => rFlown_c k t hb h12.1 (x : Int) (y : Int) h ((t.flI_nat hlt hlt2).trans hf)
        clear hl
        repeat (first | apply ef_seq | (apply ef_mv; exact rfl; exact rfl) | (apply ef_bin; exact rfl; exact rfl; exact rfl; (first | exact cmp_t rfl (by first | exact rfl | (simp only [cmpP]; omega)) | ((with_reducible refine bin_add (wrap_of ?_ ?_)) <;> omega))) | (apply ef_gn; exact rfl; (exact (rfl : false = false)); exact rfl) | (apply ef_pick; exact rfl; exact rfl; exact rfl) | (apply ef_len; exact rfl; exact rfl; (assumption)) | (apply ef_ldr; exact rfl; exact rfl; (exact rfl)) | (apply ef_ldp; exact rfl; exact rfl; (exact rfl); exact rfl; (exact rfl); (exact rd_5 rfl rfl rfl rfl rfl)) | (apply ef_ias; exact rfl; exact rfl; exact rfl; (omega); assumption; exact rfl) | apply ef_nil | apply seqQ.normal | apply blockQ.normal | apply ef_block | apply ef_skip | (apply ef_condt; exact rfl; (exact (rfl : true = true))) | (apply ef_condf; exact rfl; (exact (rfl : false = false))) | (apply ef_call; exact rfl; ((repeat (apply XVs.cons; exact rfl)); exact XVs.nil); (with_reducible exact hfl _)))
        (refine loopQ.normal _ _ ⟨x + 1, hlt2, (by first | (simp only; omega) | omega), ⟨by ((repeat (refine Hold.cons (by exact rfl) ?_)); exact Hold.nil), by ((repeat (refine Hold.cons (by exact rfl) ?_)); exact Hold.nil)⟩, .inl (Nat.le_refl _), (by first | exact List.take_length | exact rfl | exact takeF rfl rfl)⟩)
      · have hfl := fun h => rFlown_c k t hb h12.1 (x : Int) (y : Int) h ((t.flI_nat hlt hlt2).trans hf)
        have hl := hl hf
        repeat (first | apply ef_seq | (apply ef_mv; exact rfl; exact rfl) | (apply ef_bin; exact rfl; exact rfl; exact rfl; (first | exact cmp_t rfl (by first | exact rfl | (simp only [cmpP]; omega)) | exact cmp_f rfl (by simp only [cmpP]; omega) | ((with_reducible refine bin_add (wrap_of ?_ ?_)) <;> omega))) | (apply ef_gy; exact rfl; (exact (rfl : true = true))) | (apply ef_pick; exact rfl; exact rfl; exact rfl) | (apply ef_len; exact rfl; exact rfl; (assumption)) | (apply ef_ldr; exact rfl; exact rfl; (exact rfl)) | (apply ef_ldp; exact rfl; exact rfl; (exact rfl); exact rfl; (exact rfl); (exact rd_5 rfl rfl rfl rfl rfl)) | (apply ef_ias; exact rfl; exact rfl; exact rfl; (omega); assumption; exact rfl) | apply ef_nil | apply seqQ.normal | apply blockQ.normal | apply ef_block | apply ef_skip | (apply ef_condt; exact rfl; (exact (rfl : true = true))) | (apply ef_condf; exact rfl; (exact (rfl : false = false))) | (apply ef_call; exact rfl; ((repeat (apply XVs.cons; exact rfl)); exact XVs.nil); (with_reducible exact hfl _)))
        (refine loopQ.normal _ _ ⟨x + 1, hlt2, (by first | (simp only; omega) | omega), ⟨by ((repeat (refine Hold.cons (by exact rfl) ?_)); exact Hold.nil), by ((repeat (refine Hold.cons (by exact rfl) ?_)); exact Hold.nil)⟩, .inl (Nat.le_refl _), (by first | exact List.take_length | exact rfl | exact takeF rfl rfl)⟩)
    · repeat (first | apply ef_seq | (apply ef_mv; exact rfl; exact rfl) | (apply ef_bin; exact rfl; exact rfl; exact rfl; (first | exact cmp_f rfl (by simp only [cmpP]; omega) | ((with_reducible refine bin_add (wrap_of ?_ ?_)) <;> omega))) | (apply ef_len; exact rfl; exact rfl; (assumption)) | (apply ef_ldr; exact rfl; exact rfl; (exact rfl)) | (apply ef_ias; exact rfl; exact rfl; exact rfl; (omega); assumption; exact rfl) | apply ef_nil | apply seqQ.normal | apply loopQ.exit | apply ef_exit | apply seqQ.exit | apply blockQ.normal | apply blockQ.here | (apply ef_condf; exact rfl; (exact (rfl : false = false))))
      (refine loopQ.normal _ _ ⟨y + 1, hlt, (by first | (simp only; omega) | omega), ⟨by ((repeat (refine Hold.cons (by exact rfl) ?_)); exact Hold.nil), by ((repeat (refine Hold.cons (by exact rfl) ?_)); exact Hold.nil)⟩, .inl (Nat.le_refl _), (by first | exact List.take_length | exact rfl | exact takeF rfl rfl)⟩)
  · repeat (first | apply ef_seq | (apply ef_mv; exact rfl; exact rfl) | (apply ef_bin; exact rfl; exact rfl; exact rfl; (exact cmp_f rfl (by simp only [cmpP]; omega))) | (apply ef_len; exact rfl; exact rfl; (assumption)) | apply ef_nil | apply seqQ.normal | apply loopQ.exit | apply ef_ret | apply ef_exit | apply seqQ.exit | apply blockQ.here | (apply ef_condf; exact rfl; (exact (rfl : false = false))))
    (refine fin1 rfl (by exact rfl) rfl ?_)
    rfl
theorem nowhereLower_v (k : Nat) (t : Tk) (ok : OkT t) (hb : Bd t) (s g : List (List Int)) (os : OkZ t s) (og : OkZ t g) (hle : ∀ y x, y < t.H → x < t.W → t.fl y x = true → at2 g y x ≤ at2 s y x) (h : MHeap) {v : MV} (hv : frz 0 [] h 8 v = some (.sl (g.map encW))) : orA (k + 3) 76 [encT t, .sl (s.map encW), v] h = some (Bo true, h) :=
  callL (args' := [encT t, .sl (s.map encW), .sl (g.map encW)]) (by have h2 := frz_lt (h := h) (encT_lt t 0); have h3 := frz_lt (h := h) (m := .sl (s.map encW)) (by simp [MV.lt, ltL_W]); simp [List.mapM_cons, hv, h2, h3]) rfl (nowhereLower_z k t ok hb s g os og hle)

set_option maxHeartbeats 1000000 in
theorem rSurfaceErr_any (k : Nat) (t : Tk) (ok : OkT t) (s : List (List Int)) (hs : s.length ≤ 9223372036854775807) (hr : ∀ r ∈ s, r.length ≤ 9223372036854775807) (h : MHeap) {e : Int} (he : surfE t s = e) : orA (k + 2) 49 [encT t, .sl (s.map encW)] h = some (I64 e, h) := by
  subst he
  have hh1 := ok.h1
  have hw1 := ok.w1
  by_cases hgood : s.length = t.ter.length ∧ (s.any fun r => !decide (r.length = t.W)) = false
  · have h2 := List.any_eq_false.1 hgood.2
    exact rSurfaceErr_c k t ok s (by omega) (fun r hr => by have := h2 r hr; simp at this; omega) h
  · refine callL (args' := [encT t, .sl (s.map encW)]) (frzL_lt (by simp [ltL, MV.lt, ltL_I, ltL_W])) rfl (runZ_of mf_rSurfaceErr (by simp) ?_)
    have hs1 : (MV.sl (t.ter.map encW)).slen = some t.ter.length := by simp [MV.slen]
    have hs2 : (MV.sl (s.map encW)).slen = some s.length := by simp [MV.slen]
    have e0 := Tk.head hh1.1
    have hsw := Tk.headW t
    generalize t.ter.getD 0 [] = r0 at e0 hsw
    simp only [argsL]
    -- MFOF mf_rSurfaceErr
    by_cases hl : s.length = t.ter.length
    · have hB := Lib.hid (show (s.any fun r => !decide (r.length = t.W)) = true by
        cases hc : (s.any fun r => !decide (r.length = t.W))
        · exact absurd ⟨hl, hc⟩ hgood
        · rfl)
      clear hgood
      repeat (first | apply ef_seq | (apply ef_mv; exact rfl; exact rfl) | (apply ef_bin; exact rfl; exact rfl; exact rfl; (exact cmp_f rfl (by simp only [cmpP]; omega))) | (apply ef_len; exact rfl; exact rfl; (assumption)) | (apply ef_ldp; exact rfl; exact rfl; (exact rfl); exact rfl; (exact rfl); (exact rfl)) | (apply ef_fap; exact rfl; exact rfl) | (apply ef_box; exact rfl; exact rfl; exact rfl; exact rfl) | apply ef_nil | apply seqQ.normal | apply ef_block | apply ef_skip | (apply ef_condf; exact rfl; (exact (rfl : false = false))))
      refine ef_loopf (α := Nat) (fun i => i ≤ s.length ∧ (s.any fun r => !decide (r.length = t.W)) = ((s.drop i).any fun r => !decide (r.length = t.W))) (fun i => [(5, I64 (i : Int))]) [(1, _), (2, _)] (fun _ => _) (fun i => s.length - i) 0 [5] (fun _ => rfl) (by ((repeat (refine Hold.cons (by exact rfl) ?_)); exact Hold.nil)) (by ((repeat (refine Hold.cons (by exact rfl) ?_)); exact Hold.nil)) rfl rfl ⟨by simp, rfl⟩ (by simp; omega) ?_
      rintro i ⟨hi, hz⟩
      try simp only at hi hz ⊢
      by_cases hlt : i < s.length
      · have e1 := at_map encW s i hlt
        have HD := Lib.hid (drop_at s i hlt)
        have HZ := Lib.hid hz
        have hrl := hr _ (List.getElem_mem hlt)
        clear hz
        generalize s[i] = r at e1 HD hrl
        have hsr : (encW r).slen = some r.length := by simp [MV.slen]
        by_cases e : r.length = t.W
        · repeat (first | apply ef_seq | (apply ef_mv; exact rfl; exact rfl) | (apply ef_bin; exact rfl; exact rfl; exact rfl; (first | exact cmp_t rfl (by first | exact rfl | (simp only [cmpP]; omega)) | exact cmp_f rfl (by simp only [cmpP]; omega) | ((with_reducible refine bin_add (wrap_of ?_ ?_)) <;> omega))) | (apply ef_len; exact rfl; exact rfl; (assumption)) | (apply ef_ldr; exact rfl; exact rfl; (exact rfl)) | (apply ef_ldp; exact rfl; exact rfl; (exact rfl); exact rfl; (exact rfl); (exact rfl)) | (apply ef_ias; exact rfl; exact rfl; exact rfl; (omega); assumption; exact rfl) | (apply ef_fap; exact rfl; exact rfl) | apply ef_nil | apply seqQ.normal | apply blockQ.normal | apply ef_block | apply ef_skip | (apply ef_condt; exact rfl; (exact (rfl : true = true))) | (apply ef_condf; exact rfl; (exact (rfl : false = false))))
          (refine loopQ.normal _ _ ⟨i + 1, ⟨hlt, by rw [HZ.out, HD.out]; simp [e]⟩, (by first | (simp only; omega) | omega), ⟨by ((repeat (refine Hold.cons (by exact rfl) ?_)); exact Hold.nil), by ((repeat (refine Hold.cons (by exact rfl) ?_)); exact Hold.nil)⟩, .inl (Nat.le_refl _), (by first | exact List.take_length | exact rfl | exact takeF rfl rfl)⟩)
        · repeat (first | apply ef_seq | (apply ef_mv; exact rfl; exact rfl) | (apply ef_bin; exact rfl; exact rfl; exact rfl; (exact cmp_t rfl (by first | exact rfl | (simp only [cmpP]; omega)))) | (apply ef_len; exact rfl; exact rfl; (assumption)) | (apply ef_ldr; exact rfl; exact rfl; (exact rfl)) | (apply ef_ldp; exact rfl; exact rfl; (exact rfl); exact rfl; (exact rfl); (exact rfl)) | (apply ef_ias; exact rfl; exact rfl; exact rfl; (omega); assumption; exact rfl) | (apply ef_fap; exact rfl; exact rfl) | apply ef_nil | apply seqQ.normal | apply loopQ.ret | apply ef_ret | apply seqQ.ret | apply blockQ.ret | apply ef_block | apply ef_skip | (apply ef_condt; exact rfl; (exact (rfl : true = true))))
          (refine fin1 rfl (by exact rfl) rfl ?_)
          rw [surfE_row (by rw [HZ.out, HD.out]; simp [e])]
      · rw [hB.out, List.drop_eq_nil_of_le (by omega)] at hz
        cases hz
    · clear hgood
      repeat (first | apply ef_seq | (apply ef_mv; exact rfl; exact rfl) | (apply ef_bin; exact rfl; exact rfl; exact rfl; (exact cmp_t rfl (by first | exact rfl | (simp only [cmpP]; omega)))) | (apply ef_len; exact rfl; exact rfl; (assumption)) | (apply ef_ldp; exact rfl; exact rfl; (exact rfl); exact rfl; (exact rfl); (exact rfl)) | (apply ef_fap; exact rfl; exact rfl) | (apply ef_box; exact rfl; exact rfl; exact rfl; exact rfl) | apply ef_nil | apply seqQ.normal | apply ef_ret | apply seqQ.ret | (apply ef_condt; exact rfl; (exact (rfl : true = true))))
      (refine fin1 rfl (by exact rfl) rfl ?_)
      rw [surfE_len hl]
end Go.Proofs.Ytgjpdjihjphbdaa

/- Memory of the law of lower surfaces: rows that grow in a cell, and are given up. -/
namespace Go.Proofs.Ytgjpdjihjphbdaa
open Go.RowKit
set_option linter.unusedVariables false

/-- A cell of a task is given up. -/
theorem sealH_row {lk : Nat → Bool} {h : MHeap} {id idR g g0 sz i off gg : Nat} {nl : Bool} {a b c d : MV} {Q : List Int} (ho : h[id]? = some ⟨g0, nl, sz, [.agg [a, .arr idR 0 Q.length g, b, c, d]]⟩) (hr : h[idR]? = some ⟨g, false, 1, Q.map I64⟩) (la : a.lt 0 = true) (lb : b.lt 0 = true) (lc : c.lt 0 = true) (ld : d.lt 0 = true) (hne : idR ≠ id) (h1 : lk id = false) (h2 : lk idR = false) :
    sealH lk h (.ptr id i off gg) = some ((h.set idR ⟨g + 1, false, 1, []⟩).set id ⟨g0, nl, sz, [.agg [a, .sl (Q.map I64), b, c, d]]⟩) := by
  have hids : [MV.agg [a, .arr idR 0 Q.length g, b, c, d]].flatMap (MV.ids h 6) = [idR] := by
    have e1 : MV.ids h 6 (.agg [a, .arr idR 0 Q.length g, b, c, d]) = [a, .arr idR 0 Q.length g, b, c, d].flatMap (MV.ids h 5) := rfl
    have e2 : MV.ids h 5 (.arr idR 0 Q.length g) = idR :: (match h[idR]? with | some o => o.es.flatMap (MV.ids h 4) | none => []) := rfl
    rw [hr] at e2
    dsimp only at e2
    rw [idsL_lt0 (ltL_I 0 Q)] at e2
    rw [List.flatMap_cons, List.flatMap_nil, List.append_nil, e1]
    simp only [List.flatMap_cons, List.flatMap_nil]
    rw [ids_lt0 5 a la, ids_lt0 5 b lb, ids_lt0 5 c lc, ids_lt0 5 d ld, e2]
    rfl
  have himp : (id :: (List.range h.length).filter fun i => !([idR] : List Nat).contains i).contains idR = false := by
    rw [Bool.eq_false_iff]
    intro hc
    simp only [List.contains_iff_mem, List.mem_cons, List.mem_filter] at hc
    rcases hc with hc | hc
    · exact hne hc
    · simpa using hc.2
  have hfr : ∀ f imp, (frz 0 imp h (f + 1) a = some a) ∧ (frz 0 imp h (f + 1) b = some b) ∧ (frz 0 imp h (f + 1) c = some c) ∧ (frz 0 imp h (f + 1) d = some d) := fun f imp => by
    refine ⟨?_, ?_, ?_, ?_⟩ <;> simp [frz, la, lb, lc, ld]
  have hfa : ∀ imp : List Nat, imp.contains idR = false → frz 0 imp h 7 (.arr idR 0 Q.length g) = some (.sl (Q.map I64)) := fun imp hi => by
    have h3 : (Q.map I64).take Q.length = Q.map I64 := List.take_of_length_le (by simp)
    simp only [frz, MV.lt, Nat.not_lt_zero, decide_false, Bool.false_eq_true, if_false, hi, hr]
    simp only [ltL_I, if_true, List.drop_zero, h3]
    simp
  have hlt : (MV.agg [a, .arr idR 0 Q.length g, b, c, d]).lt 0 = false := by simp [MV.lt, ltL, la]
  have hes : ∀ imp : List Nat, imp.contains idR = false → [MV.agg [a, .arr idR 0 Q.length g, b, c, d]].mapM (frz 0 imp h 8) = some [MV.agg [a, .sl (Q.map I64), b, c, d]] := fun imp hi => by
    obtain ⟨f1, f2, f3, f4⟩ := hfr 6 imp
    have : frz 0 imp h 8 (.agg [a, .arr idR 0 Q.length g, b, c, d]) = some (.agg [a, .sl (Q.map I64), b, c, d]) := by
      rw [frz, hlt]
      simp only [Bool.false_eq_true, if_false, List.mapM_cons, List.mapM_nil, f1, f2, f3, f4, hfa imp hi]
      rfl
    simp [this]
  have hmap : (h.mapIdx fun i p => if ([idR] : List Nat).contains i then (⟨p.g + 1, p.nl, p.sz, []⟩ : MObj) else p) = h.set idR ⟨g + 1, false, 1, []⟩ := by
    apply List.ext_getElem?
    intro j
    rw [List.getElem?_mapIdx, List.getElem?_set]
    by_cases e : j = idR
    · subst e
      rw [if_pos rfl, if_pos (List.getElem?_eq_some_iff.1 hr).1, hr]
      simp
    · rw [if_neg (by omega)]
      cases h[j]? <;> simp [e]
  unfold sealH
  simp only [ho]
  rw [hids, hes _ himp]
  simp only [hmap]
  simp [h1, h2, hne]

/-- Numbers of the call's own, or nil. -/
inductive LiI (m0 : Nat) (h : MHeap) : MV → List Int → Prop
  | nil : LiI m0 h (.lit (.slice none 0 0)) []
  | arr (id gen : Nat) (Q : List Int) : h[id]? = some ⟨gen, false, 1, Q.map I64⟩ → m0 ≤ id → LiI m0 h (.arr id 0 Q.length gen) Q
theorem LiI.cell {m0 : Nat} {h : MHeap} {v : MV} {Q : List Int} (q : LiI m0 h v Q) : rdCells v.cells 0 none = some v := by
  cases q <;> rfl
section
variable {O : Oracle} {I : Iter} {M n : Nat} {lk : Nat → Bool} {A : Sl} {h : MHeap} {Qc : MX2 → Sl → MHeap → Prop}
theorem ef_pushF {c m0 t2 tp t1 tf ts : Nat} {a b c' d qv : MV} {Q : List Int} {q : Int} {os : List GO} (ht2 : Nat.blt t2 n = true) (htf : Nat.blt tf n = true) (hne : Nat.beq ts t2 = false) (hne2 : Nat.beq t2 tf = false) (hp : look A tp = some qv) (h1 : look A t1 = some (.arr h.length 0 1 0)) (hts : look A ts = some (.ptr c 0 0 0)) (hlk : ∀ i, lk i = false)
    (hcell : h[c]? = some ⟨0, false, 5, [.agg [a, qv, b, c', d]]⟩) (hqu : LiI m0 h qv Q) (hcm : c < m0) (hm : m0 ≤ h.length) (hB : Q.length < 4000000)
    (hE : ∀ h' qv', h'[c]? = some ⟨0, false, 5, [.agg [a, qv', b, c', d]]⟩ → LiI m0 h' qv' (Q ++ [q]) → qv'.lt m0 = false → (∀ j, j < m0 → j ≠ c → h'[j]? = h[j]?) → h.length ≤ h'.length → Ef O I M n lk (.reg os) ((tf, .ptr c 0 1 0) :: (t2, qv') :: A) h' Qc) :
    Ef O I M n lk (.reg (⟨none, some t2, .app 1 (.s tp) (.s t1)⟩ :: ⟨none, some tf, .fa 1 (.s ts)⟩ :: ⟨none, none, .st 1 (.s tf) (.s t2)⟩ :: os)) A (h ++ [⟨0, false, 1, [I64 q]⟩]) Qc := by
  cases hqu with
  | nil =>
    refine ef_appn (ht := ht2) (v := .arr h.length 0 1 0) (e := I64 q) (xs := []) hp h1 (by simp [MV.elems]) (by simp) rfl ?_
    refine ef_fap (ht := htf) (id := c) (i := 0) (o := 0) (g := 0) (look_next hne hts) ?_
    refine ef_st (o := ⟨0, false, 5, [.agg [a, .lit (.slice none 0 0), b, c', d]]⟩) (look_next hne2 look_here) rfl look_here (at_app (at_app hcell _) _) rfl (hlk _) rfl rfl ?_
    refine hE _ _ (by rw [List.getElem?_set_self (by simp; omega)]; rfl) ?_ (by simp [MV.lt]; omega) (fun j hj hjc => by rw [List.getElem?_set_ne (by omega), List.getElem?_append_left (by simp; omega), List.getElem?_append_left (by omega)]) (by simp)
    refine LiI.arr _ 0 [q] ?_ (by simp; omega)
    rw [List.getElem?_set_ne (by simp; omega)]
    simp
  | arr id gen Q k1 k2 =>
    have hid : id < h.length := (List.getElem?_eq_some_iff.1 k1).1
    refine ef_app (ht := ht2) (o := ⟨gen, false, 1, Q.map I64⟩) (v := .arr h.length 0 1 0) (e := I64 q) (xs := []) hp h1 (by simp [MV.elems]) (at_app k1 _) rfl (by simp) rfl (by simp; omega) rfl (hlk _) ?_
    refine ef_fap (ht := htf) (id := c) (i := 0) (o := 0) (g := 0) (look_next hne hts) ?_
    refine ef_st (o := ⟨0, false, 5, [.agg [a, .arr id 0 Q.length gen, b, c', d]]⟩) (look_next hne2 look_here) rfl look_here (by rw [List.getElem?_set_ne (by omega)]; exact at_app hcell _) rfl (hlk _) rfl rfl ?_
    refine hE _ _ (by rw [List.getElem?_set_self (by simp; omega)]; rfl) ?_ (by simp [MV.lt]; omega) (fun j hj hjc => by rw [List.getElem?_set_ne (by omega), List.getElem?_set_ne (by omega), List.getElem?_append_left (by omega)]) (by simp)
    have e : LiI m0 (((h ++ [(⟨0, false, 1, [I64 q]⟩ : MObj)]).set id ⟨gen + 1, false, 1, (Q.map I64).drop 0 ++ [I64 q]⟩).set c ⟨0, false, 5, [.agg [a, .arr id 0 (Q.length + 1) (gen + 1), b, c', d]]⟩) (.arr id 0 (Q ++ [q]).length (gen + 1)) (Q ++ [q]) :=
      .arr id (gen + 1) (Q ++ [q]) (by rw [List.getElem?_set_ne (by omega), List.getElem?_set_self (by simp; omega)]; simp) k2
    simpa [splice, MV.cells] using e
end
/-- The memory of the rows that grow. -/
structure WdM (t : Tk) (mm i : Nat) (qv : MV) (h0 h : MHeap) : Prop where
  cell : h[6]? = some ⟨0, false, 5, [.agg [.sl (t.ter.map encW), qv, .sl (t.ties.map I64), I64 t.cl, I64 t.cb]]⟩
  li : LiI 7 h qv (wRows t mm i)
  old : ∀ j, j < 7 → j ≠ 6 → h[j]? = h0[j]?
  len : 7 ≤ h.length
  sm : h.length ≤ 7 ∨ qv.lt 7 = false
theorem WdM.head {t : Tk} {mm i : Nat} {qv : MV} {h0 h : MHeap} (m : WdM t mm i qv h0 h) {keep : List Nat} {A : Sl} : HeadIs keep 7 A h h := by
  rcases m.sm with hl | hl
  · exact .all hl
  · exact .cell (hltL_no (j := 6) (by decide) m.cell (by simp [ltL, MV.lt, ltL_W, hl]))
end Go.Proofs.Ytgjpdjihjphbdaa

/- The examples that every law begins with. -/
namespace Go.Proofs.Ytgjpdjihjphbdaa
open Go.RowKit

theorem awake_z : runZ MT (orA 11) (itA 11) 4000000 15 [] [] = some (.lit (.bool true), []) := by kernel_rfl
end Go.Proofs.Ytgjpdjihjphbdaa

/- The law of groups: the walk. -/
namespace Go.Proofs.Ytgjpdjihjphbdaa
open Go.RowKit

theorem awake_c (h : MHeap) : orA 12 15 [] h = some (Bo true, h) := callL (args' := []) rfl rfl awake_z

end Go.Proofs.Ytgjpdjihjphbdaa

/- The law of lower surfaces: the walk. -/
namespace Go.Proofs.Ytgjpdjihjphbdaa
open Go.RowKit
set_option linter.unusedVariables false

theorem look_in {t : Nat} {v : MV} : ∀ {A : Sl}, look A t = some v → (t, v) ∈ A
  | [], h => by cases h
  | (u, x) :: A, h => by
    rw [look_cons] at h
    split at h
    · rename_i e
      cases h
      subst e
      exact List.mem_cons_self
    · exact List.mem_cons_of_mem _ (look_in h)
theorem ef_weak {O : Oracle} {I : Iter} {N n : Nat} {lk : Nat → Bool} {b : MC} {A A' : Sl} {h : MHeap} {Q : MX2 → Sl → MHeap → Prop} (hA : Hold A A') (hE : Ef O I N n lk b A' h Q) : Ef O I N n lk b A h Q :=
  .mk fun s hs => hE.run s ⟨hs.len, fun t v ht => hs.get t v (hA (t, v) (look_in ht))⟩
theorem giveV_arr {lk : Nat → Bool} {h : MHeap} {id k sz : Nat} {nl : Bool} {es : List MV} (ho : h[id]? = some ⟨0, nl, sz, es⟩) (hk : k = es.length) (hl : ltL 0 es = true) (h1 : lk id = false) : giveV lk h (.arr id 0 k 0) = some (.sl es, h.set id ⟨1, nl, sz, []⟩) := by
  have hids : MV.ids h 6 (.arr id 0 k 0) = [id] := by
    have e2 : MV.ids h 6 (.arr id 0 k 0) = id :: (match h[id]? with | some o => o.es.flatMap (MV.ids h 5) | none => []) := rfl
    rw [ho] at e2
    dsimp only at e2
    rw [idsL_lt0 hl] at e2
    exact e2
  have hmap : (h.mapIdx fun i p => if ([id] : List Nat).contains i then (⟨p.g + 1, p.nl, p.sz, []⟩ : MObj) else p) = h.set id ⟨1, nl, sz, []⟩ := by
    apply List.ext_getElem?
    intro j
    rw [List.getElem?_mapIdx, List.getElem?_set]
    by_cases e : j = id
    · subst e
      rw [if_pos rfl, if_pos (List.getElem?_eq_some_iff.1 ho).1, ho]
      simp
    · rw [if_neg (by omega)]
      cases h[j]? <;> simp [e]
  have himp : ((List.range h.length).filter fun i => !([id] : List Nat).contains i).contains id = false := by
    rw [Bool.eq_false_iff]
    intro hc
    simp only [List.contains_iff_mem, List.mem_filter] at hc
    simpa using hc.2
  have hfr : frz 0 ((List.range h.length).filter fun i => !([id] : List Nat).contains i) h 8 (.arr id 0 k 0) = some (.sl es) := by
    have h3 : es.take k = es := List.take_of_length_le (by omega)
    simp only [frz, MV.lt, Nat.not_lt_zero, decide_false, Bool.false_eq_true, if_false, himp, ho]
    simp only [hl, if_true, List.drop_zero, h3]
    simp; omega
  unfold giveV
  rw [hids, hfr]
  simp only [hmap]
  simp [h1]
def MC.rest : Nat → MC → MC
  | 0, c => c
  | n + 1, .seq _ b => MC.rest n b
  | _ + 1, c => c
def MC.cut : Nat → MC → MC → MC
  | 0, _, r => r
  | n + 1, .seq a b, r => .seq a (MC.cut n b r)
  | _ + 1, _, r => r
theorem cut_rest : ∀ (n : Nat) (c : MC), MC.cut n c (MC.rest n c) = c
  | 0, c => rfl
  | n + 1, c => by
    cases c <;> first | rfl | exact congrArg _ (cut_rest n _)
theorem rest_rest : ∀ (n m : Nat) (c : MC), MC.rest n (MC.rest m c) = MC.rest (m + n) c
  | n, 0, c => by rw [Nat.zero_add]; rfl
  | n, m + 1, c => by
    have h0 : ∀ k (c : MC), (∀ a b, c ≠ .seq a b) → MC.rest k c = c := fun k c hc => by
      cases k
      · rfl
      · cases c <;> first | rfl | exact absurd rfl (hc _ _)
    rw [show m + 1 + n = (m + n) + 1 by omega]
    cases c <;> first | exact rest_rest n m _ | exact h0 _ _ (fun _ _ h => by cases h)
def bodyNL : MC := (⟨266, [(.tmp 6)], (.seq (.reg [⟨none, (some 3), (.box 5 (.s 0))⟩, ⟨none, (some 6), (.mv (.c (.lit (.bool false))))⟩]) (.seq (.seq (.reg [⟨none, (some 23), (.call 15 [])⟩, ⟨none, (some 24), (.un .not (.s 23))⟩]) (.cond (.s 24) (.seq (.reg [⟨none, (some 6), (.mv (.c (.lit (.bool false))))⟩]) .ret) .skip)) (.seq (.seq (.reg [⟨none, (some 25), (.ld (some 5) (.s 3))⟩, ⟨none, (some 26), (.call 33 [(.s 25)])⟩, ⟨none, (some 27), (.un .not (.s 26))⟩, ⟨none, (some 28), (.mv (.s 27))⟩, ⟨(some (28, false)), (some 29), (.ld (some 5) (.s 3))⟩, ⟨(some (28, false)), (some 30), (.call 46 [(.s 29)])⟩, ⟨(some (28, false)), (some 31), (.bin .neq (.s 30) (.c (.lit (.int .i64 0))))⟩, ⟨none, (some 32), (.pick (.s 28) (.c (.lit (.bool true))) (.s 31))⟩, ⟨none, (some 33), (.mv (.s 32))⟩, ⟨(some (33, false)), (some 34), (.ld (some 5) (.s 3))⟩, ⟨(some (33, false)), (some 35), (.mv (.s 1))⟩, ⟨(some (33, false)), (some 36), (.call 49 [(.s 34), (.s 35)])⟩, ⟨(some (33, false)), (some 37), (.bin .neq (.s 36) (.c (.lit (.int .i64 0))))⟩, ⟨none, (some 38), (.pick (.s 33) (.c (.lit (.bool true))) (.s 37))⟩]) (.cond (.s 38) (.seq (.reg [⟨none, (some 6), (.mv (.c (.lit (.bool true))))⟩]) .ret) .skip)) (.seq (.reg [⟨none, (some 40), (.ld (some 5) (.s 3))⟩, ⟨none, (some 41), (.call 35 [(.s 40)])⟩, ⟨none, (some 42), (.call 37 [(.s 41)])⟩, ⟨none, (some 39), (.mv (.s 42))⟩, ⟨none, (some 43), (.ext (.s 39) 0)⟩, ⟨none, (some 44), (.ext (.s 39) 1)⟩, ⟨none, (some 7), (.mv (.s 43))⟩, ⟨none, (some 8), (.mv (.s 44))⟩]) (.seq (.seq (.give 7 (.reg [⟨none, (some 45), (.mv (.s 8))⟩, ⟨none, (some 46), (.bin .neq (.s 45) (.c (.lit (.int .i64 0))))⟩, ⟨none, (some 47), (.mv (.s 46))⟩, ⟨(some (47, false)), (some 48), (.ld (some 5) (.s 3))⟩, ⟨(some (47, false)), (some 49), (.mv (.s 7))⟩, ⟨(some (47, false)), (some 50), (.call 49 [(.s 48), (.s 49)])⟩, ⟨(some (47, false)), (some 51), (.bin .neq (.s 50) (.c (.lit (.int .i64 0))))⟩, ⟨none, (some 52), (.pick (.s 47) (.c (.lit (.bool true))) (.s 51))⟩, ⟨none, (some 53), (.mv (.s 52))⟩, ⟨(some (53, false)), (some 54), (.ld (some 5) (.s 3))⟩, ⟨(some (53, false)), (some 55), (.mv (.s 7))⟩, ⟨(some (53, false)), (some 56), (.call 75 [(.s 54), (.s 55)])⟩, ⟨(some (53, false)), (some 57), (.un .not (.s 56))⟩, ⟨none, (some 58), (.pick (.s 53) (.c (.lit (.bool true))) (.s 57))⟩])) (.cond (.s 58) (.seq (.reg [⟨none, (some 6), (.mv (.c (.lit (.bool false))))⟩]) .ret) .skip)) (.seq (.reg [⟨none, (some 60), (.ld (some 5) (.s 3))⟩, ⟨none, (some 61), (.call 35 [(.s 60)])⟩, ⟨none, (some 62), (.mv (.s 7))⟩, ⟨none, (some 63), (.call 73 [(.s 62)])⟩, ⟨none, (some 64), (.call 72 [(.s 61), (.s 63)])⟩, ⟨none, (some 59), (.mv (.s 64))⟩, ⟨none, (some 65), (.ext (.s 59) 0)⟩, ⟨none, (some 66), (.ext (.s 59) 1)⟩, ⟨none, (some 9), (.new (.agg [(.lit (.int .i64 0)), (.lit (.int .i64 0))]))⟩, ⟨none, none, (.st 2 (.s 9) (.s 65))⟩, ⟨none, (some 10), (.mv (.s 66))⟩]) (.seq (.seq (.reg [⟨none, (some 67), (.fa 4 (.s 3))⟩, ⟨none, (some 68), (.ld none (.s 67))⟩, ⟨none, (some 69), (.bin .gtr (.s 68) (.c (.lit (.int .i64 0))))⟩, ⟨none, (some 70), (.mv (.s 69))⟩, ⟨(some (70, true)), (some 71), (.mv (.s 10))⟩, ⟨(some (70, true)), (some 72), (.bin .neq (.s 71) (.c (.lit (.int .i64 0))))⟩, ⟨(some (70, true)), (some 73), (.mv (.s 72))⟩, ⟨(some (73, false)), (some 74), (.ld (some 2) (.s 9))⟩, ⟨(some (73, false)), (some 75), (.build [(.lit (.int .i64 0)), (.lit (.int .i64 0))] [])⟩, ⟨(some (73, false)), (some 76), (.eqa 2 true (.s 74) (.s 75))⟩, ⟨(some (70, true)), (some 77), (.pick (.s 73) (.c (.lit (.bool true))) (.s 76))⟩, ⟨none, (some 78), (.pick (.s 70) (.s 77) (.c (.lit (.bool false))))⟩, ⟨none, (some 79), (.mv (.s 78))⟩, ⟨(some (79, false)), (some 80), (.fa 4 (.s 3))⟩, ⟨(some (79, false)), (some 81), (.ld none (.s 80))⟩, ⟨(some (79, false)), (some 82), (.bin .eql (.s 81) (.c (.lit (.int .i64 0))))⟩, ⟨(some (79, false)), (some 83), (.mv (.s 82))⟩, ⟨(some (83, true)), (some 84), (.mv (.s 10))⟩, ⟨(some (83, true)), (some 85), (.bin .neq (.s 84) (.c (.lit (.int .i64 15))))⟩, ⟨(some (79, false)), (some 86), (.pick (.s 83) (.s 85) (.c (.lit (.bool false))))⟩, ⟨none, (some 87), (.pick (.s 79) (.c (.lit (.bool true))) (.s 86))⟩]) (.cond (.s 87) (.seq (.reg [⟨none, (some 6), (.mv (.c (.lit (.bool false))))⟩]) .ret) .skip)) (.seq (.seq (.reg [⟨none, (some 88), (.ld (some 5) (.s 3))⟩, ⟨none, (some 89), (.mv (.s 1))⟩, ⟨none, (some 90), (.call 75 [(.s 88), (.s 89)])⟩, ⟨none, (some 91), (.mv (.s 90))⟩, ⟨(some (91, true)), (some 92), (.ld (some 5) (.s 3))⟩, ⟨(some (91, true)), (some 93), (.mv (.s 1))⟩, ⟨(some (91, true)), (some 94), (.mv (.s 7))⟩, ⟨(some (91, true)), (some 95), (.call 76 [(.s 92), (.s 93), (.s 94)])⟩, ⟨(some (91, true)), (some 96), (.un .not (.s 95))⟩, ⟨none, (some 97), (.pick (.s 91) (.s 96) (.c (.lit (.bool false))))⟩]) (.cond (.s 97) (.seq (.reg [⟨none, (some 6), (.mv (.c (.lit (.bool false))))⟩]) .ret) .skip)) (.seq (.reg [⟨none, (some 98), (.mv (.s 2))⟩, ⟨none, (some 99), (.call 77 [(.s 98), (.c (.lit (.int .i64 100)))])⟩, ⟨none, (some 2), (.mv (.s 99))⟩]) (.seq (.reg [⟨none, (some 11), (.new (.agg [(.lit (.slice none 0 0)), (.lit (.slice none 0 0)), (.lit (.slice none 0 0)), (.lit (.int .i64 0)), (.lit (.int .i64 0))]))⟩, ⟨none, (some 12), (.new (.agg [(.lit (.slice none 0 0)), (.lit (.slice none 0 0)), (.lit (.slice none 0 0)), (.lit (.int .i64 0)), (.lit (.int .i64 0))]))⟩, ⟨none, (some 13), (.new (.agg [(.lit (.slice none 0 0)), (.lit (.slice none 0 0)), (.lit (.slice none 0 0)), (.lit (.int .i64 0)), (.lit (.int .i64 0))]))⟩, ⟨none, (some 100), (.ld (some 5) (.s 3))⟩, ⟨none, (some 101), (.call 35 [(.s 100)])⟩, ⟨none, (some 102), (.ld (some 5) (.s 3))⟩, ⟨none, (some 103), (.call 35 [(.s 102)])⟩, ⟨none, (some 104), (.ld (some 5) (.s 3))⟩, ⟨none, (some 105), (.call 35 [(.s 104)])⟩, ⟨none, (some 11), (.nilck (.s 11))⟩, ⟨none, (some 12), (.nilck (.s 12))⟩, ⟨none, (some 13), (.nilck (.s 13))⟩, ⟨none, none, (.st 5 (.s 11) (.s 101))⟩, ⟨none, none, (.st 5 (.s 12) (.s 103))⟩, ⟨none, none, (.st 5 (.s 13) (.s 105))⟩]) (.seq (.reg [⟨none, (some 106), (.fa 3 (.s 3))⟩, ⟨none, (some 107), (.ld none (.s 106))⟩, ⟨none, (some 108), (.mv (.s 2))⟩, ⟨none, (some 109), (.bin .add (.s 107) (.s 108))⟩, ⟨none, (some 110), (.fa 4 (.s 3))⟩, ⟨none, (some 111), (.ld none (.s 110))⟩, ⟨none, (some 112), (.mv (.s 2))⟩, ⟨none, (some 113), (.bin .add (.s 111) (.s 112))⟩, ⟨none, (some 114), (.fa 3 (.s 11))⟩, ⟨none, none, (.st 1 (.s 114) (.s 109))⟩, ⟨none, (some 115), (.fa 4 (.s 12))⟩, ⟨none, none, (.st 1 (.s 115) (.s 113))⟩, ⟨none, none, (.ne (.s 110) (.s 114))⟩]) (.seq (.reg [⟨none, (some 116), (.fa 1 (.s 13))⟩, ⟨none, none, (.st 1 (.s 116) (.c (.lit (.slice none 0 0))))⟩]) (.seq (.seq (.reg [⟨none, (some 14), (.mv (.c (.lit (.int .i64 0))))⟩]) (.block 0 (.loop [14, 3, 2, 13, 11, 12, 7] (.seq (.seq (.reg [⟨none, (some 117), (.mv (.s 14))⟩, ⟨none, (some 118), (.fa 0 (.s 3))⟩, ⟨none, (some 119), (.ld none (.s 118))⟩, ⟨none, (some 120), (.len (.s 119))⟩, ⟨none, (some 121), (.bin .lss (.s 117) (.s 120))⟩]) (.cond (.s 121) .skip (.exit 0))) (.seq (.block 1 (.seq (.reg [⟨none, (some 124), (.fa 1 (.s 3))⟩, ⟨none, (some 125), (.ld none (.s 124))⟩, ⟨none, (some 126), (.mv (.s 14))⟩, ⟨none, (some 127), (.call 71 [(.s 125), (.s 126)])⟩, ⟨none, (some 128), (.mv (.s 127))⟩, ⟨(some (128, false)), (some 129), (.mv (.s 14))⟩, ⟨(some (128, false)), (some 130), (.mv (.s 2))⟩, ⟨(some (128, false)), (some 131), (.fa 0 (.s 3))⟩, ⟨(some (128, false)), (some 132), (.ld none (.s 131))⟩, ⟨(some (128, false)), (some 133), (.len (.s 132))⟩, ⟨(some (128, false)), (some 134), (.call 77 [(.s 130), (.s 133)])⟩, ⟨(some (128, false)), (some 135), (.bin .eql (.s 129) (.s 134))⟩, ⟨none, (some 136), (.pick (.s 128) (.c (.lit (.bool true))) (.s 135))⟩]) (.cond (.s 136) (.reg [⟨none, (some 137), (.fa 1 (.s 13))⟩, ⟨none, (some 138), (.ld none (.s 137))⟩, ⟨none, (some 139), (.mv (.s 14))⟩, ⟨none, (some 140), (.bsl (.lit (.int .i64 0)) 1 1 [(0, (.s 139))])⟩, ⟨none, (some 141), (.app 1 (.s 138) (.s 140))⟩, ⟨none, (some 142), (.fa 1 (.s 13))⟩, ⟨none, none, (.st 1 (.s 142) (.s 141))⟩]) .skip))) (.reg [⟨none, (some 122), (.mv (.s 14))⟩, ⟨none, (some 123), (.bin .add (.s 122) (.c (.lit (.int .i64 1))))⟩, ⟨none, (some 14), (.mv (.s 123))⟩])))))) (.seq (.seq (.reg [⟨none, (some 143), (.ld (some 5) (.s 11))⟩, ⟨none, (some 144), (.call 46 [(.s 143)])⟩, ⟨none, (some 145), (.bin .neq (.s 144) (.c (.lit (.int .i64 0))))⟩, ⟨none, (some 146), (.mv (.s 145))⟩, ⟨(some (146, false)), (some 147), (.ld (some 5) (.s 12))⟩, ⟨(some (146, false)), (some 148), (.call 46 [(.s 147)])⟩, ⟨(some (146, false)), (some 149), (.bin .neq (.s 148) (.c (.lit (.int .i64 0))))⟩, ⟨none, (some 150), (.pick (.s 146) (.c (.lit (.bool true))) (.s 149))⟩]) (.cond (.s 150) (.seq (.reg [⟨none, (some 6), (.mv (.c (.lit (.bool true))))⟩]) .ret) .skip)) (.seq (.reg [⟨none, (some 152), (.ld (some 5) (.s 11))⟩, ⟨none, (some 153), (.call 37 [(.s 152)])⟩, ⟨none, (some 151), (.mv (.s 153))⟩, ⟨none, (some 154), (.ext (.s 151) 0)⟩, ⟨none, (some 155), (.ext (.s 151) 1)⟩, ⟨none, (some 15), (.mv (.s 154))⟩, ⟨none, (some 16), (.mv (.s 155))⟩]) (.seq (.give 15 (.reg [⟨none, (some 157), (.ld (some 5) (.s 12))⟩, ⟨none, (some 158), (.call 37 [(.s 157)])⟩, ⟨none, (some 156), (.mv (.s 158))⟩, ⟨none, (some 159), (.ext (.s 156) 0)⟩, ⟨none, (some 160), (.ext (.s 156) 1)⟩, ⟨none, (some 17), (.mv (.s 159))⟩, ⟨none, (some 18), (.mv (.s 160))⟩])) (.seq (.give 17 (.give 13 (.reg [⟨none, (some 162), (.ld (some 5) (.s 13))⟩, ⟨none, (some 163), (.call 37 [(.s 162)])⟩, ⟨none, (some 161), (.mv (.s 163))⟩, ⟨none, (some 164), (.ext (.s 161) 0)⟩, ⟨none, (some 165), (.ext (.s 161) 1)⟩, ⟨none, (some 19), (.mv (.s 164))⟩, ⟨none, (some 20), (.mv (.s 165))⟩]))) (.seq (.seq (.give 19 (.reg [⟨none, (some 166), (.mv (.s 16))⟩, ⟨none, (some 167), (.bin .neq (.s 166) (.c (.lit (.int .i64 0))))⟩, ⟨none, (some 168), (.mv (.s 167))⟩, ⟨(some (168, false)), (some 169), (.mv (.s 18))⟩, ⟨(some (168, false)), (some 170), (.bin .neq (.s 169) (.c (.lit (.int .i64 0))))⟩, ⟨none, (some 171), (.pick (.s 168) (.c (.lit (.bool true))) (.s 170))⟩, ⟨none, (some 172), (.mv (.s 171))⟩, ⟨(some (172, false)), (some 173), (.mv (.s 20))⟩, ⟨(some (172, false)), (some 174), (.bin .neq (.s 173) (.c (.lit (.int .i64 0))))⟩, ⟨none, (some 175), (.pick (.s 172) (.c (.lit (.bool true))) (.s 174))⟩, ⟨none, (some 176), (.mv (.s 175))⟩, ⟨(some (176, false)), (some 177), (.ld (some 5) (.s 3))⟩, ⟨(some (176, false)), (some 178), (.mv (.s 15))⟩, ⟨(some (176, false)), (some 179), (.call 49 [(.s 177), (.s 178)])⟩, ⟨(some (176, false)), (some 180), (.bin .neq (.s 179) (.c (.lit (.int .i64 0))))⟩, ⟨none, (some 181), (.pick (.s 176) (.c (.lit (.bool true))) (.s 180))⟩, ⟨none, (some 182), (.mv (.s 181))⟩, ⟨(some (182, false)), (some 183), (.ld (some 5) (.s 3))⟩, ⟨(some (182, false)), (some 184), (.mv (.s 17))⟩, ⟨(some (182, false)), (some 185), (.call 49 [(.s 183), (.s 184)])⟩, ⟨(some (182, false)), (some 186), (.bin .neq (.s 185) (.c (.lit (.int .i64 0))))⟩, ⟨none, (some 187), (.pick (.s 182) (.c (.lit (.bool true))) (.s 186))⟩, ⟨none, (some 188), (.mv (.s 187))⟩, ⟨(some (188, false)), (some 189), (.ld (some 5) (.s 3))⟩, ⟨(some (188, false)), (some 190), (.mv (.s 19))⟩, ⟨(some (188, false)), (some 191), (.call 49 [(.s 189), (.s 190)])⟩, ⟨(some (188, false)), (some 192), (.bin .neq (.s 191) (.c (.lit (.int .i64 0))))⟩, ⟨none, (some 193), (.pick (.s 188) (.c (.lit (.bool true))) (.s 192))⟩])) (.cond (.s 193) (.seq (.reg [⟨none, (some 6), (.mv (.c (.lit (.bool false))))⟩]) .ret) .skip)) (.seq (.seq (.reg [⟨none, (some 21), (.mv (.c (.lit (.int .i64 0))))⟩]) (.block 2 (.loop [21, 7, 3, 15, 2, 17, 19] (.seq (.seq (.reg [⟨none, (some 194), (.mv (.s 21))⟩, ⟨none, (some 195), (.mv (.s 7))⟩, ⟨none, (some 196), (.len (.s 195))⟩, ⟨none, (some 197), (.bin .lss (.s 194) (.s 196))⟩]) (.cond (.s 197) .skip (.exit 2))) (.seq (.block 3 (.seq (.reg [⟨none, (some 22), (.mv (.c (.lit (.int .i64 0))))⟩]) (.block 4 (.loop [22, 7, 21, 3, 15, 2, 17, 19] (.seq (.seq (.reg [⟨none, (some 200), (.mv (.s 22))⟩, ⟨none, (some 201), (.mv (.s 7))⟩, ⟨none, (some 202), (.mv (.s 21))⟩, ⟨none, (some 203), (.ia 1 (.s 201) (.s 202))⟩, ⟨none, (some 204), (.ld none (.s 203))⟩, ⟨none, (some 205), (.len (.s 204))⟩, ⟨none, (some 206), (.bin .lss (.s 200) (.s 205))⟩]) (.cond (.s 206) .skip (.exit 4))) (.seq (.block 5 (.seq (.reg [⟨none, (some 209), (.ld (some 5) (.s 3))⟩, ⟨none, (some 210), (.mv (.s 22))⟩, ⟨none, (some 211), (.mv (.s 21))⟩, ⟨none, (some 212), (.call 47 [(.s 209), (.s 210), (.s 211)])⟩, ⟨none, (some 213), (.mv (.s 212))⟩, ⟨(some (213, true)), (some 214), (.mv (.s 15))⟩, ⟨(some (213, true)), (some 215), (.mv (.s 21))⟩, ⟨(some (213, true)), (some 216), (.ia 1 (.s 214) (.s 215))⟩, ⟨(some (213, true)), (some 217), (.ld none (.s 216))⟩, ⟨(some (213, true)), (some 218), (.mv (.s 22))⟩, ⟨(some (213, true)), (some 219), (.ia 1 (.s 217) (.s 218))⟩, ⟨(some (213, true)), (some 220), (.ld none (.s 219))⟩, ⟨(some (213, true)), (some 221), (.mv (.s 7))⟩, ⟨(some (213, true)), (some 222), (.mv (.s 21))⟩, ⟨(some (213, true)), (some 223), (.ia 1 (.s 221) (.s 222))⟩, ⟨(some (213, true)), (some 224), (.ld none (.s 223))⟩, ⟨(some (213, true)), (some 225), (.mv (.s 22))⟩, ⟨(some (213, true)), (some 226), (.ia 1 (.s 224) (.s 225))⟩, ⟨(some (213, true)), (some 227), (.ld none (.s 226))⟩, ⟨(some (213, true)), (some 228), (.mv (.s 2))⟩, ⟨(some (213, true)), (some 229), (.bin .add (.s 227) (.s 228))⟩, ⟨(some (213, true)), (some 230), (.bin .neq (.s 220) (.s 229))⟩, ⟨(some (213, true)), (some 231), (.mv (.s 230))⟩, ⟨(some (231, false)), (some 232), (.mv (.s 17))⟩, ⟨(some (231, false)), (some 233), (.mv (.s 21))⟩, ⟨(some (231, false)), (some 234), (.ia 1 (.s 232) (.s 233))⟩, ⟨(some (231, false)), (some 235), (.ld none (.s 234))⟩, ⟨(some (231, false)), (some 236), (.mv (.s 22))⟩, ⟨(some (231, false)), (some 237), (.ia 1 (.s 235) (.s 236))⟩, ⟨(some (231, false)), (some 238), (.ld none (.s 237))⟩, ⟨(some (231, false)), (some 239), (.mv (.s 7))⟩, ⟨(some (231, false)), (some 240), (.mv (.s 21))⟩, ⟨(some (231, false)), (some 241), (.ia 1 (.s 239) (.s 240))⟩, ⟨(some (231, false)), (some 242), (.ld none (.s 241))⟩, ⟨(some (231, false)), (some 243), (.mv (.s 22))⟩, ⟨(some (231, false)), (some 244), (.ia 1 (.s 242) (.s 243))⟩, ⟨(some (231, false)), (some 245), (.ld none (.s 244))⟩, ⟨(some (231, false)), (some 246), (.bin .gtr (.s 238) (.s 245))⟩, ⟨(some (213, true)), (some 247), (.pick (.s 231) (.c (.lit (.bool true))) (.s 246))⟩, ⟨(some (213, true)), (some 248), (.mv (.s 247))⟩, ⟨(some (248, false)), (some 249), (.mv (.s 19))⟩, ⟨(some (248, false)), (some 250), (.mv (.s 21))⟩, ⟨(some (248, false)), (some 251), (.ia 1 (.s 249) (.s 250))⟩, ⟨(some (248, false)), (some 252), (.ld none (.s 251))⟩, ⟨(some (248, false)), (some 253), (.mv (.s 22))⟩, ⟨(some (248, false)), (some 254), (.ia 1 (.s 252) (.s 253))⟩, ⟨(some (248, false)), (some 255), (.ld none (.s 254))⟩, ⟨(some (248, false)), (some 256), (.mv (.s 7))⟩, ⟨(some (248, false)), (some 257), (.mv (.s 21))⟩, ⟨(some (248, false)), (some 258), (.ia 1 (.s 256) (.s 257))⟩, ⟨(some (248, false)), (some 259), (.ld none (.s 258))⟩, ⟨(some (248, false)), (some 260), (.mv (.s 22))⟩, ⟨(some (248, false)), (some 261), (.ia 1 (.s 259) (.s 260))⟩, ⟨(some (248, false)), (some 262), (.ld none (.s 261))⟩, ⟨(some (248, false)), (some 263), (.bin .lss (.s 255) (.s 262))⟩, ⟨(some (213, true)), (some 264), (.pick (.s 248) (.c (.lit (.bool true))) (.s 263))⟩, ⟨none, (some 265), (.pick (.s 213) (.s 264) (.c (.lit (.bool false))))⟩]) (.cond (.s 265) (.seq (.reg [⟨none, (some 6), (.mv (.c (.lit (.bool false))))⟩]) .ret) .skip))) (.reg [⟨none, (some 207), (.mv (.s 22))⟩, ⟨none, (some 208), (.bin .add (.s 207) (.c (.lit (.int .i64 1))))⟩, ⟨none, (some 22), (.mv (.s 208))⟩]))))))) (.reg [⟨none, (some 198), (.mv (.s 21))⟩, ⟨none, (some 199), (.bin .add (.s 198) (.c (.lit (.int .i64 1))))⟩, ⟨none, (some 21), (.mv (.s 199))⟩])))))) (.seq (.reg [⟨none, (some 6), (.mv (.c (.lit (.bool true))))⟩]) .ret))))))))))))))))))))⟩ : MF).body
theorem mf_DrapeNoLower : MT.mf 11 = some ⟨266, [(.tmp 6)], (.seq (.reg [⟨none, (some 3), (.box 5 (.s 0))⟩, ⟨none, (some 6), (.mv (.c (.lit (.bool false))))⟩]) (.seq (.seq (.reg [⟨none, (some 23), (.call 15 [])⟩, ⟨none, (some 24), (.un .not (.s 23))⟩]) (.cond (.s 24) (.seq (.reg [⟨none, (some 6), (.mv (.c (.lit (.bool false))))⟩]) .ret) .skip)) (.seq (.seq (.reg [⟨none, (some 25), (.ld (some 5) (.s 3))⟩, ⟨none, (some 26), (.call 33 [(.s 25)])⟩, ⟨none, (some 27), (.un .not (.s 26))⟩, ⟨none, (some 28), (.mv (.s 27))⟩, ⟨(some (28, false)), (some 29), (.ld (some 5) (.s 3))⟩, ⟨(some (28, false)), (some 30), (.call 46 [(.s 29)])⟩, ⟨(some (28, false)), (some 31), (.bin .neq (.s 30) (.c (.lit (.int .i64 0))))⟩, ⟨none, (some 32), (.pick (.s 28) (.c (.lit (.bool true))) (.s 31))⟩, ⟨none, (some 33), (.mv (.s 32))⟩, ⟨(some (33, false)), (some 34), (.ld (some 5) (.s 3))⟩, ⟨(some (33, false)), (some 35), (.mv (.s 1))⟩, ⟨(some (33, false)), (some 36), (.call 49 [(.s 34), (.s 35)])⟩, ⟨(some (33, false)), (some 37), (.bin .neq (.s 36) (.c (.lit (.int .i64 0))))⟩, ⟨none, (some 38), (.pick (.s 33) (.c (.lit (.bool true))) (.s 37))⟩]) (.cond (.s 38) (.seq (.reg [⟨none, (some 6), (.mv (.c (.lit (.bool true))))⟩]) .ret) .skip)) (.seq (.reg [⟨none, (some 40), (.ld (some 5) (.s 3))⟩, ⟨none, (some 41), (.call 35 [(.s 40)])⟩, ⟨none, (some 42), (.call 37 [(.s 41)])⟩, ⟨none, (some 39), (.mv (.s 42))⟩, ⟨none, (some 43), (.ext (.s 39) 0)⟩, ⟨none, (some 44), (.ext (.s 39) 1)⟩, ⟨none, (some 7), (.mv (.s 43))⟩, ⟨none, (some 8), (.mv (.s 44))⟩]) (.seq (.seq (.give 7 (.reg [⟨none, (some 45), (.mv (.s 8))⟩, ⟨none, (some 46), (.bin .neq (.s 45) (.c (.lit (.int .i64 0))))⟩, ⟨none, (some 47), (.mv (.s 46))⟩, ⟨(some (47, false)), (some 48), (.ld (some 5) (.s 3))⟩, ⟨(some (47, false)), (some 49), (.mv (.s 7))⟩, ⟨(some (47, false)), (some 50), (.call 49 [(.s 48), (.s 49)])⟩, ⟨(some (47, false)), (some 51), (.bin .neq (.s 50) (.c (.lit (.int .i64 0))))⟩, ⟨none, (some 52), (.pick (.s 47) (.c (.lit (.bool true))) (.s 51))⟩, ⟨none, (some 53), (.mv (.s 52))⟩, ⟨(some (53, false)), (some 54), (.ld (some 5) (.s 3))⟩, ⟨(some (53, false)), (some 55), (.mv (.s 7))⟩, ⟨(some (53, false)), (some 56), (.call 75 [(.s 54), (.s 55)])⟩, ⟨(some (53, false)), (some 57), (.un .not (.s 56))⟩, ⟨none, (some 58), (.pick (.s 53) (.c (.lit (.bool true))) (.s 57))⟩])) (.cond (.s 58) (.seq (.reg [⟨none, (some 6), (.mv (.c (.lit (.bool false))))⟩]) .ret) .skip)) (.seq (.reg [⟨none, (some 60), (.ld (some 5) (.s 3))⟩, ⟨none, (some 61), (.call 35 [(.s 60)])⟩, ⟨none, (some 62), (.mv (.s 7))⟩, ⟨none, (some 63), (.call 73 [(.s 62)])⟩, ⟨none, (some 64), (.call 72 [(.s 61), (.s 63)])⟩, ⟨none, (some 59), (.mv (.s 64))⟩, ⟨none, (some 65), (.ext (.s 59) 0)⟩, ⟨none, (some 66), (.ext (.s 59) 1)⟩, ⟨none, (some 9), (.new (.agg [(.lit (.int .i64 0)), (.lit (.int .i64 0))]))⟩, ⟨none, none, (.st 2 (.s 9) (.s 65))⟩, ⟨none, (some 10), (.mv (.s 66))⟩]) (.seq (.seq (.reg [⟨none, (some 67), (.fa 4 (.s 3))⟩, ⟨none, (some 68), (.ld none (.s 67))⟩, ⟨none, (some 69), (.bin .gtr (.s 68) (.c (.lit (.int .i64 0))))⟩, ⟨none, (some 70), (.mv (.s 69))⟩, ⟨(some (70, true)), (some 71), (.mv (.s 10))⟩, ⟨(some (70, true)), (some 72), (.bin .neq (.s 71) (.c (.lit (.int .i64 0))))⟩, ⟨(some (70, true)), (some 73), (.mv (.s 72))⟩, ⟨(some (73, false)), (some 74), (.ld (some 2) (.s 9))⟩, ⟨(some (73, false)), (some 75), (.build [(.lit (.int .i64 0)), (.lit (.int .i64 0))] [])⟩, ⟨(some (73, false)), (some 76), (.eqa 2 true (.s 74) (.s 75))⟩, ⟨(some (70, true)), (some 77), (.pick (.s 73) (.c (.lit (.bool true))) (.s 76))⟩, ⟨none, (some 78), (.pick (.s 70) (.s 77) (.c (.lit (.bool false))))⟩, ⟨none, (some 79), (.mv (.s 78))⟩, ⟨(some (79, false)), (some 80), (.fa 4 (.s 3))⟩, ⟨(some (79, false)), (some 81), (.ld none (.s 80))⟩, ⟨(some (79, false)), (some 82), (.bin .eql (.s 81) (.c (.lit (.int .i64 0))))⟩, ⟨(some (79, false)), (some 83), (.mv (.s 82))⟩, ⟨(some (83, true)), (some 84), (.mv (.s 10))⟩, ⟨(some (83, true)), (some 85), (.bin .neq (.s 84) (.c (.lit (.int .i64 15))))⟩, ⟨(some (79, false)), (some 86), (.pick (.s 83) (.s 85) (.c (.lit (.bool false))))⟩, ⟨none, (some 87), (.pick (.s 79) (.c (.lit (.bool true))) (.s 86))⟩]) (.cond (.s 87) (.seq (.reg [⟨none, (some 6), (.mv (.c (.lit (.bool false))))⟩]) .ret) .skip)) (.seq (.seq (.reg [⟨none, (some 88), (.ld (some 5) (.s 3))⟩, ⟨none, (some 89), (.mv (.s 1))⟩, ⟨none, (some 90), (.call 75 [(.s 88), (.s 89)])⟩, ⟨none, (some 91), (.mv (.s 90))⟩, ⟨(some (91, true)), (some 92), (.ld (some 5) (.s 3))⟩, ⟨(some (91, true)), (some 93), (.mv (.s 1))⟩, ⟨(some (91, true)), (some 94), (.mv (.s 7))⟩, ⟨(some (91, true)), (some 95), (.call 76 [(.s 92), (.s 93), (.s 94)])⟩, ⟨(some (91, true)), (some 96), (.un .not (.s 95))⟩, ⟨none, (some 97), (.pick (.s 91) (.s 96) (.c (.lit (.bool false))))⟩]) (.cond (.s 97) (.seq (.reg [⟨none, (some 6), (.mv (.c (.lit (.bool false))))⟩]) .ret) .skip)) (.seq (.reg [⟨none, (some 98), (.mv (.s 2))⟩, ⟨none, (some 99), (.call 77 [(.s 98), (.c (.lit (.int .i64 100)))])⟩, ⟨none, (some 2), (.mv (.s 99))⟩]) (.seq (.reg [⟨none, (some 11), (.new (.agg [(.lit (.slice none 0 0)), (.lit (.slice none 0 0)), (.lit (.slice none 0 0)), (.lit (.int .i64 0)), (.lit (.int .i64 0))]))⟩, ⟨none, (some 12), (.new (.agg [(.lit (.slice none 0 0)), (.lit (.slice none 0 0)), (.lit (.slice none 0 0)), (.lit (.int .i64 0)), (.lit (.int .i64 0))]))⟩, ⟨none, (some 13), (.new (.agg [(.lit (.slice none 0 0)), (.lit (.slice none 0 0)), (.lit (.slice none 0 0)), (.lit (.int .i64 0)), (.lit (.int .i64 0))]))⟩, ⟨none, (some 100), (.ld (some 5) (.s 3))⟩, ⟨none, (some 101), (.call 35 [(.s 100)])⟩, ⟨none, (some 102), (.ld (some 5) (.s 3))⟩, ⟨none, (some 103), (.call 35 [(.s 102)])⟩, ⟨none, (some 104), (.ld (some 5) (.s 3))⟩, ⟨none, (some 105), (.call 35 [(.s 104)])⟩, ⟨none, (some 11), (.nilck (.s 11))⟩, ⟨none, (some 12), (.nilck (.s 12))⟩, ⟨none, (some 13), (.nilck (.s 13))⟩, ⟨none, none, (.st 5 (.s 11) (.s 101))⟩, ⟨none, none, (.st 5 (.s 12) (.s 103))⟩, ⟨none, none, (.st 5 (.s 13) (.s 105))⟩]) (.seq (.reg [⟨none, (some 106), (.fa 3 (.s 3))⟩, ⟨none, (some 107), (.ld none (.s 106))⟩, ⟨none, (some 108), (.mv (.s 2))⟩, ⟨none, (some 109), (.bin .add (.s 107) (.s 108))⟩, ⟨none, (some 110), (.fa 4 (.s 3))⟩, ⟨none, (some 111), (.ld none (.s 110))⟩, ⟨none, (some 112), (.mv (.s 2))⟩, ⟨none, (some 113), (.bin .add (.s 111) (.s 112))⟩, ⟨none, (some 114), (.fa 3 (.s 11))⟩, ⟨none, none, (.st 1 (.s 114) (.s 109))⟩, ⟨none, (some 115), (.fa 4 (.s 12))⟩, ⟨none, none, (.st 1 (.s 115) (.s 113))⟩, ⟨none, none, (.ne (.s 110) (.s 114))⟩]) (.seq (.reg [⟨none, (some 116), (.fa 1 (.s 13))⟩, ⟨none, none, (.st 1 (.s 116) (.c (.lit (.slice none 0 0))))⟩]) (.seq (.seq (.reg [⟨none, (some 14), (.mv (.c (.lit (.int .i64 0))))⟩]) (.block 0 (.loop [14, 3, 2, 13, 11, 12, 7] (.seq (.seq (.reg [⟨none, (some 117), (.mv (.s 14))⟩, ⟨none, (some 118), (.fa 0 (.s 3))⟩, ⟨none, (some 119), (.ld none (.s 118))⟩, ⟨none, (some 120), (.len (.s 119))⟩, ⟨none, (some 121), (.bin .lss (.s 117) (.s 120))⟩]) (.cond (.s 121) .skip (.exit 0))) (.seq (.block 1 (.seq (.reg [⟨none, (some 124), (.fa 1 (.s 3))⟩, ⟨none, (some 125), (.ld none (.s 124))⟩, ⟨none, (some 126), (.mv (.s 14))⟩, ⟨none, (some 127), (.call 71 [(.s 125), (.s 126)])⟩, ⟨none, (some 128), (.mv (.s 127))⟩, ⟨(some (128, false)), (some 129), (.mv (.s 14))⟩, ⟨(some (128, false)), (some 130), (.mv (.s 2))⟩, ⟨(some (128, false)), (some 131), (.fa 0 (.s 3))⟩, ⟨(some (128, false)), (some 132), (.ld none (.s 131))⟩, ⟨(some (128, false)), (some 133), (.len (.s 132))⟩, ⟨(some (128, false)), (some 134), (.call 77 [(.s 130), (.s 133)])⟩, ⟨(some (128, false)), (some 135), (.bin .eql (.s 129) (.s 134))⟩, ⟨none, (some 136), (.pick (.s 128) (.c (.lit (.bool true))) (.s 135))⟩]) (.cond (.s 136) (.reg [⟨none, (some 137), (.fa 1 (.s 13))⟩, ⟨none, (some 138), (.ld none (.s 137))⟩, ⟨none, (some 139), (.mv (.s 14))⟩, ⟨none, (some 140), (.bsl (.lit (.int .i64 0)) 1 1 [(0, (.s 139))])⟩, ⟨none, (some 141), (.app 1 (.s 138) (.s 140))⟩, ⟨none, (some 142), (.fa 1 (.s 13))⟩, ⟨none, none, (.st 1 (.s 142) (.s 141))⟩]) .skip))) (.reg [⟨none, (some 122), (.mv (.s 14))⟩, ⟨none, (some 123), (.bin .add (.s 122) (.c (.lit (.int .i64 1))))⟩, ⟨none, (some 14), (.mv (.s 123))⟩])))))) (.seq (.seq (.reg [⟨none, (some 143), (.ld (some 5) (.s 11))⟩, ⟨none, (some 144), (.call 46 [(.s 143)])⟩, ⟨none, (some 145), (.bin .neq (.s 144) (.c (.lit (.int .i64 0))))⟩, ⟨none, (some 146), (.mv (.s 145))⟩, ⟨(some (146, false)), (some 147), (.ld (some 5) (.s 12))⟩, ⟨(some (146, false)), (some 148), (.call 46 [(.s 147)])⟩, ⟨(some (146, false)), (some 149), (.bin .neq (.s 148) (.c (.lit (.int .i64 0))))⟩, ⟨none, (some 150), (.pick (.s 146) (.c (.lit (.bool true))) (.s 149))⟩]) (.cond (.s 150) (.seq (.reg [⟨none, (some 6), (.mv (.c (.lit (.bool true))))⟩]) .ret) .skip)) (.seq (.reg [⟨none, (some 152), (.ld (some 5) (.s 11))⟩, ⟨none, (some 153), (.call 37 [(.s 152)])⟩, ⟨none, (some 151), (.mv (.s 153))⟩, ⟨none, (some 154), (.ext (.s 151) 0)⟩, ⟨none, (some 155), (.ext (.s 151) 1)⟩, ⟨none, (some 15), (.mv (.s 154))⟩, ⟨none, (some 16), (.mv (.s 155))⟩]) (.seq (.give 15 (.reg [⟨none, (some 157), (.ld (some 5) (.s 12))⟩, ⟨none, (some 158), (.call 37 [(.s 157)])⟩, ⟨none, (some 156), (.mv (.s 158))⟩, ⟨none, (some 159), (.ext (.s 156) 0)⟩, ⟨none, (some 160), (.ext (.s 156) 1)⟩, ⟨none, (some 17), (.mv (.s 159))⟩, ⟨none, (some 18), (.mv (.s 160))⟩])) (.seq (.give 17 (.give 13 (.reg [⟨none, (some 162), (.ld (some 5) (.s 13))⟩, ⟨none, (some 163), (.call 37 [(.s 162)])⟩, ⟨none, (some 161), (.mv (.s 163))⟩, ⟨none, (some 164), (.ext (.s 161) 0)⟩, ⟨none, (some 165), (.ext (.s 161) 1)⟩, ⟨none, (some 19), (.mv (.s 164))⟩, ⟨none, (some 20), (.mv (.s 165))⟩]))) (.seq (.seq (.give 19 (.reg [⟨none, (some 166), (.mv (.s 16))⟩, ⟨none, (some 167), (.bin .neq (.s 166) (.c (.lit (.int .i64 0))))⟩, ⟨none, (some 168), (.mv (.s 167))⟩, ⟨(some (168, false)), (some 169), (.mv (.s 18))⟩, ⟨(some (168, false)), (some 170), (.bin .neq (.s 169) (.c (.lit (.int .i64 0))))⟩, ⟨none, (some 171), (.pick (.s 168) (.c (.lit (.bool true))) (.s 170))⟩, ⟨none, (some 172), (.mv (.s 171))⟩, ⟨(some (172, false)), (some 173), (.mv (.s 20))⟩, ⟨(some (172, false)), (some 174), (.bin .neq (.s 173) (.c (.lit (.int .i64 0))))⟩, ⟨none, (some 175), (.pick (.s 172) (.c (.lit (.bool true))) (.s 174))⟩, ⟨none, (some 176), (.mv (.s 175))⟩, ⟨(some (176, false)), (some 177), (.ld (some 5) (.s 3))⟩, ⟨(some (176, false)), (some 178), (.mv (.s 15))⟩, ⟨(some (176, false)), (some 179), (.call 49 [(.s 177), (.s 178)])⟩, ⟨(some (176, false)), (some 180), (.bin .neq (.s 179) (.c (.lit (.int .i64 0))))⟩, ⟨none, (some 181), (.pick (.s 176) (.c (.lit (.bool true))) (.s 180))⟩, ⟨none, (some 182), (.mv (.s 181))⟩, ⟨(some (182, false)), (some 183), (.ld (some 5) (.s 3))⟩, ⟨(some (182, false)), (some 184), (.mv (.s 17))⟩, ⟨(some (182, false)), (some 185), (.call 49 [(.s 183), (.s 184)])⟩, ⟨(some (182, false)), (some 186), (.bin .neq (.s 185) (.c (.lit (.int .i64 0))))⟩, ⟨none, (some 187), (.pick (.s 182) (.c (.lit (.bool true))) (.s 186))⟩, ⟨none, (some 188), (.mv (.s 187))⟩, ⟨(some (188, false)), (some 189), (.ld (some 5) (.s 3))⟩, ⟨(some (188, false)), (some 190), (.mv (.s 19))⟩, ⟨(some (188, false)), (some 191), (.call 49 [(.s 189), (.s 190)])⟩, ⟨(some (188, false)), (some 192), (.bin .neq (.s 191) (.c (.lit (.int .i64 0))))⟩, ⟨none, (some 193), (.pick (.s 188) (.c (.lit (.bool true))) (.s 192))⟩])) (.cond (.s 193) (.seq (.reg [⟨none, (some 6), (.mv (.c (.lit (.bool false))))⟩]) .ret) .skip)) (.seq (.seq (.reg [⟨none, (some 21), (.mv (.c (.lit (.int .i64 0))))⟩]) (.block 2 (.loop [21, 7, 3, 15, 2, 17, 19] (.seq (.seq (.reg [⟨none, (some 194), (.mv (.s 21))⟩, ⟨none, (some 195), (.mv (.s 7))⟩, ⟨none, (some 196), (.len (.s 195))⟩, ⟨none, (some 197), (.bin .lss (.s 194) (.s 196))⟩]) (.cond (.s 197) .skip (.exit 2))) (.seq (.block 3 (.seq (.reg [⟨none, (some 22), (.mv (.c (.lit (.int .i64 0))))⟩]) (.block 4 (.loop [22, 7, 21, 3, 15, 2, 17, 19] (.seq (.seq (.reg [⟨none, (some 200), (.mv (.s 22))⟩, ⟨none, (some 201), (.mv (.s 7))⟩, ⟨none, (some 202), (.mv (.s 21))⟩, ⟨none, (some 203), (.ia 1 (.s 201) (.s 202))⟩, ⟨none, (some 204), (.ld none (.s 203))⟩, ⟨none, (some 205), (.len (.s 204))⟩, ⟨none, (some 206), (.bin .lss (.s 200) (.s 205))⟩]) (.cond (.s 206) .skip (.exit 4))) (.seq (.block 5 (.seq (.reg [⟨none, (some 209), (.ld (some 5) (.s 3))⟩, ⟨none, (some 210), (.mv (.s 22))⟩, ⟨none, (some 211), (.mv (.s 21))⟩, ⟨none, (some 212), (.call 47 [(.s 209), (.s 210), (.s 211)])⟩, ⟨none, (some 213), (.mv (.s 212))⟩, ⟨(some (213, true)), (some 214), (.mv (.s 15))⟩, ⟨(some (213, true)), (some 215), (.mv (.s 21))⟩, ⟨(some (213, true)), (some 216), (.ia 1 (.s 214) (.s 215))⟩, ⟨(some (213, true)), (some 217), (.ld none (.s 216))⟩, ⟨(some (213, true)), (some 218), (.mv (.s 22))⟩, ⟨(some (213, true)), (some 219), (.ia 1 (.s 217) (.s 218))⟩, ⟨(some (213, true)), (some 220), (.ld none (.s 219))⟩, ⟨(some (213, true)), (some 221), (.mv (.s 7))⟩, ⟨(some (213, true)), (some 222), (.mv (.s 21))⟩, ⟨(some (213, true)), (some 223), (.ia 1 (.s 221) (.s 222))⟩, ⟨(some (213, true)), (some 224), (.ld none (.s 223))⟩, ⟨(some (213, true)), (some 225), (.mv (.s 22))⟩, ⟨(some (213, true)), (some 226), (.ia 1 (.s 224) (.s 225))⟩, ⟨(some (213, true)), (some 227), (.ld none (.s 226))⟩, ⟨(some (213, true)), (some 228), (.mv (.s 2))⟩, ⟨(some (213, true)), (some 229), (.bin .add (.s 227) (.s 228))⟩, ⟨(some (213, true)), (some 230), (.bin .neq (.s 220) (.s 229))⟩, ⟨(some (213, true)), (some 231), (.mv (.s 230))⟩, ⟨(some (231, false)), (some 232), (.mv (.s 17))⟩, ⟨(some (231, false)), (some 233), (.mv (.s 21))⟩, ⟨(some (231, false)), (some 234), (.ia 1 (.s 232) (.s 233))⟩, ⟨(some (231, false)), (some 235), (.ld none (.s 234))⟩, ⟨(some (231, false)), (some 236), (.mv (.s 22))⟩, ⟨(some (231, false)), (some 237), (.ia 1 (.s 235) (.s 236))⟩, ⟨(some (231, false)), (some 238), (.ld none (.s 237))⟩, ⟨(some (231, false)), (some 239), (.mv (.s 7))⟩, ⟨(some (231, false)), (some 240), (.mv (.s 21))⟩, ⟨(some (231, false)), (some 241), (.ia 1 (.s 239) (.s 240))⟩, ⟨(some (231, false)), (some 242), (.ld none (.s 241))⟩, ⟨(some (231, false)), (some 243), (.mv (.s 22))⟩, ⟨(some (231, false)), (some 244), (.ia 1 (.s 242) (.s 243))⟩, ⟨(some (231, false)), (some 245), (.ld none (.s 244))⟩, ⟨(some (231, false)), (some 246), (.bin .gtr (.s 238) (.s 245))⟩, ⟨(some (213, true)), (some 247), (.pick (.s 231) (.c (.lit (.bool true))) (.s 246))⟩, ⟨(some (213, true)), (some 248), (.mv (.s 247))⟩, ⟨(some (248, false)), (some 249), (.mv (.s 19))⟩, ⟨(some (248, false)), (some 250), (.mv (.s 21))⟩, ⟨(some (248, false)), (some 251), (.ia 1 (.s 249) (.s 250))⟩, ⟨(some (248, false)), (some 252), (.ld none (.s 251))⟩, ⟨(some (248, false)), (some 253), (.mv (.s 22))⟩, ⟨(some (248, false)), (some 254), (.ia 1 (.s 252) (.s 253))⟩, ⟨(some (248, false)), (some 255), (.ld none (.s 254))⟩, ⟨(some (248, false)), (some 256), (.mv (.s 7))⟩, ⟨(some (248, false)), (some 257), (.mv (.s 21))⟩, ⟨(some (248, false)), (some 258), (.ia 1 (.s 256) (.s 257))⟩, ⟨(some (248, false)), (some 259), (.ld none (.s 258))⟩, ⟨(some (248, false)), (some 260), (.mv (.s 22))⟩, ⟨(some (248, false)), (some 261), (.ia 1 (.s 259) (.s 260))⟩, ⟨(some (248, false)), (some 262), (.ld none (.s 261))⟩, ⟨(some (248, false)), (some 263), (.bin .lss (.s 255) (.s 262))⟩, ⟨(some (213, true)), (some 264), (.pick (.s 248) (.c (.lit (.bool true))) (.s 263))⟩, ⟨none, (some 265), (.pick (.s 213) (.s 264) (.c (.lit (.bool false))))⟩]) (.cond (.s 265) (.seq (.reg [⟨none, (some 6), (.mv (.c (.lit (.bool false))))⟩]) .ret) .skip))) (.reg [⟨none, (some 207), (.mv (.s 22))⟩, ⟨none, (some 208), (.bin .add (.s 207) (.c (.lit (.int .i64 1))))⟩, ⟨none, (some 22), (.mv (.s 208))⟩]))))))) (.reg [⟨none, (some 198), (.mv (.s 21))⟩, ⟨none, (some 199), (.bin .add (.s 198) (.c (.lit (.int .i64 1))))⟩, ⟨none, (some 21), (.mv (.s 199))⟩])))))) (.seq (.reg [⟨none, (some 6), (.mv (.c (.lit (.bool true))))⟩]) .ret))))))))))))))))))))⟩ := by kernel_rfl
abbrev EfNL (k : Nat) (A : Sl) (h : MHeap) : Prop := Ef (orA 12) (itA 12) 4000000 266 (fun _ => false) (MC.rest k bodyNL) A h (FinF [.tmp 6] (Bo true) [])
set_option maxHeartbeats 4000000 in
theorem NoLower_p1 (t : Tk) (s : List (List Int)) (more : Int) (m1 : t.ter.length ≤ 9223372036854775807) (m2 : t.rows.length ≤ 9223372036854775807) (m3 : t.ties.length ≤ 9223372036854775807) (m4 : ∀ r ∈ t.ter, r.length ≤ 9223372036854775807) (m5 : s.length ≤ 9223372036854775807) (m6 : ∀ r ∈ s, r.length ≤ 9223372036854775807)
    (hp : ∀ g, OkT t → Bd t → Lea t g → EfNL 8 [(3, .ptr 0 0 0 0), (2, I64 more), (7, .sl (g.map encW))] [⟨0, false, 5, [encT t]⟩, ⟨1, false, 1, []⟩, ⟨0, nlN g.length, 1, g.map encW⟩, ⟨0, false, 2, [posI 0 0]⟩]) :
    runZ MT (orA 12) (itA 12) 4000000 11 [encT t, .sl (s.map encW), I64 more] [] = some (Bo true, []) := by
  unfold EfNL at hp
  have hb : MC.cut 8 bodyNL (MC.rest 8 bodyNL) = bodyNL := cut_rest 8 bodyNL
  generalize MC.rest 8 bodyNL = R at hp hb
  have hmf : MT.mf 11 = some ⟨266, [.tmp 6], MC.cut 8 bodyNL R⟩ := by rw [hb]; exact mf_DrapeNoLower
  refine runZ_of hmf (by simp) ?_
  -- MFOF mf_DrapeNoLower
  clear hmf hb
  replace hp := Bx.mk hp
  simp only [argsL]
  cases hf : fewT t
  · have hfw := fun h => Few_c 11 t m1 m2 m3 m4 h hf
    repeat (first | apply ef_seq | (apply ef_mv; exact rfl; exact rfl) | (apply ef_gn; exact rfl; (exact (rfl : true = true)); exact rfl) | (apply ef_pick; exact rfl; exact rfl; exact rfl) | (apply ef_ldp; exact rfl; exact rfl; (exact rfl); exact rfl; (exact rfl); (exact rd_5 rfl rfl rfl rfl rfl)) | (apply ef_notT; exact rfl; exact rfl) | (apply ef_notF; exact rfl; exact rfl) | (apply ef_box; exact rfl; exact rfl; exact rfl; exact rfl) | apply ef_nil | apply seqQ.normal | apply ef_ret | apply seqQ.ret | apply ef_skip | (apply ef_condt; exact rfl; (exact (rfl : true = true))) | (apply ef_condf; exact rfl; (exact (rfl : false = false))) | (apply ef_call; exact rfl; ((repeat (apply XVs.cons; exact rfl)); exact XVs.nil); (with_reducible first | exact awake_c _ | exact hfw _)))
    (refine fin1 rfl (by exact rfl) rfl ?_)
    rfl
  have hfw := fun h => Few_c 11 t m1 m2 m3 m4 h hf
  obtain ⟨bd, -⟩ := fewT_bd hf
  have hte := fun h => TaskErr_c 8 t bd h
  obtain ⟨hR1, -⟩ := taskF_rel t
  rw [hR1] at hte
  by_cases h0 : (taskF id t).2 = 0
  case neg =>
    generalize (taskF id t).2 = e at *
    repeat (first | apply ef_seq | (apply ef_mv; exact rfl; exact rfl) | (apply ef_bin; exact rfl; exact rfl; exact rfl; (exact cmp_t rfl (by first | exact rfl | (simp only [cmpP]; omega)))) | (apply ef_gy; exact rfl; (exact (rfl : false = false))) | (apply ef_gn; exact rfl; (exact (rfl : true = true)); exact rfl) | (apply ef_pick; exact rfl; exact rfl; exact rfl) | (apply ef_ldp; exact rfl; exact rfl; (exact rfl); exact rfl; (exact rfl); (exact rd_5 rfl rfl rfl rfl rfl)) | (apply ef_notT; exact rfl; exact rfl) | (apply ef_box; exact rfl; exact rfl; exact rfl; exact rfl) | apply ef_nil | apply seqQ.normal | apply ef_ret | apply seqQ.ret | apply ef_skip | (apply ef_condt; exact rfl; (exact (rfl : true = true))) | (apply ef_condf; exact rfl; (exact (rfl : false = false))) | (apply ef_call; exact rfl; ((repeat (apply XVs.cons; exact rfl)); exact XVs.nil); (with_reducible first | exact awake_c _ | exact hfw _ | exact hte _)))
    (refine fin1 rfl (by exact rfl) rfl ?_)
    rfl
  rw [h0] at hte
  have ok := (task_ok h0).1
  obtain ⟨e, hs0⟩ : ∃ e, surfE t s = e := ⟨_, rfl⟩
  have hse := fun h => rSurfaceErr_any 10 t ok s m5 m6 h hs0
  by_cases he0 : e = 0
  case neg =>
    clear hs0
    repeat (first | apply ef_seq | (apply ef_mv; exact rfl; exact rfl) | (apply ef_bin; exact rfl; exact rfl; exact rfl; (first | exact cmp_t rfl (by first | exact rfl | (simp only [cmpP]; omega)) | exact cmp_f rfl (by simp only [cmpP]; omega))) | (apply ef_gy; exact rfl; (exact (rfl : false = false))) | (apply ef_pick; exact rfl; exact rfl; exact rfl) | (apply ef_ldp; exact rfl; exact rfl; (exact rfl); exact rfl; (exact rfl); (exact rd_5 rfl rfl rfl rfl rfl)) | (apply ef_notT; exact rfl; exact rfl) | (apply ef_box; exact rfl; exact rfl; exact rfl; exact rfl) | apply ef_nil | apply seqQ.normal | apply ef_ret | apply seqQ.ret | apply ef_skip | (apply ef_condt; exact rfl; (exact (rfl : true = true))) | (apply ef_condf; exact rfl; (exact (rfl : false = false))) | (apply ef_call; exact rfl; ((repeat (apply XVs.cons; exact rfl)); exact XVs.nil); (with_reducible first | exact awake_c _ | exact hfw _ | exact hte _ | exact hse _)))
    (refine fin1 rfl (by exact rfl) rfl ?_)
    rfl
  subst he0
  have os := surfE_ok hs0
  obtain ⟨g, hg⟩ := ok.lea
  have og := hg.okz ok
  replace hp := Bx.mk (hp.out g ok bd hg)
  have hgl : g.length = t.ter.length := hg.1.sh.hl
  have hg1 : g.length ≤ 1000 := by have := ok.h1; omega
  have hg2 : ∀ r ∈ g, r.length ≤ 1000 := fun r hr => by
    obtain ⟨y, hy, rfl⟩ := List.getElem_of_mem hr
    have := hg.1.sh.wl y hy
    have := ok.w1
    omega
  have hlo := Bx.mk (Lowest_ok 4 bd h0 hg [⟨0, false, 5, [encT t]⟩])
  have hcp := fun h => CopyTask_c 9 t bd h
  have hseg := fun h => rSurfaceErr_c 10 t ok g hg1 hg2 h
  rw [surfE_of og] at hseg
  have hkg := fun h => keeps_v 9 t ok bd g og h (v := .sl (g.map encW)) (frz_lt (by simp [MV.lt, ltL_W])) (keepsB_iff.2 fun y x hy hx => val_keep hg.1 hy hx)
  have hclg := fun h => CopyLists_c 10 g h (by omega) (fun r hr => by have := hg2 r hr; omega)
  have hgv := Bx.mk (giveV_arr (lk := fun _ => false) (h := [⟨0, false, 5, [encT t]⟩] ++ [⟨0, false, 1, g.map encW⟩]) (id := 1) (k := t.ter.length) rfl (by simp [hgl]) (ltL_W 0 g) rfl)
  have hck : ∀ hh v, frz 0 [] hh 8 v = some (.sl (g.map encW)) → orA 12 72 [encT t, v] hh = some (.tup [posI 0 0, I64 (if t.cb > 0 then 0 else 15)], hh) := fun hh v hv => by
    have := CheckLowest_ok 4 bd h0 g (by omega) (by
      have key : ∀ l : List (List Int), (∀ r ∈ l, r.length ≤ 12) → l.flatten.length ≤ 12 * l.length := by
        intro l
        induction l with
        | nil => intro _; simp
        | cons a l ih =>
          intro hl
          have h1 := hl a List.mem_cons_self
          have h2 := ih fun r hr => hl r (List.mem_cons_of_mem _ hr)
          rw [List.flatten_cons, List.length_append, List.length_cons]
          omega
      have := key g fun r hr => by
        obtain ⟨y, hy, rfl⟩ := List.getElem_of_mem hr
        have := hg.1.sh.wl y hy
        have := ok.w1
        omega
      omega) hh hv
    rw [clE_lea ok hg] at this
    exact this
  have hckb := Bx.mk (hck ([⟨0, false, 5, [encT t]⟩, ⟨1, false, 1, []⟩] ++ [⟨0, nlN g.length, 1, g.map encW⟩]) (.arr 2 0 g.length 0) (fz_arr rfl rfl (by simp) (ltL_W 0 g) rfl).now)
  have hcb := ok.cb
  obtain ⟨b, hb⟩ : ∃ b, keepsB t s = b := ⟨_, rfl⟩
  have hks := fun h => keeps_v 9 t ok bd s os h (v := .sl (s.map encW)) (frz_lt (by simp [MV.lt, ltL_W])) hb
  have hnw := fun h (hh : b = true) => nowhereLower_v 9 t ok bd s g os og (fun y x hy hx _ => hg.2 s (keep_val os.sh (keepsB_iff.1 (hb.trans hh))) y x hy hx) h (v := .sl (g.map encW)) (frz_lt (by simp [MV.lt, ltL_W]))
  clear m1 m2 m3 m4 m5 m6 hf hs0 hb hck hR1 h0 hg1 hg2
  by_cases hc : t.cb > 0
  all_goals (simp only [hc, if_true, if_false] at hckb)
  all_goals cases b
  all_goals (try have hnw := fun h => hnw h rfl)
  all_goals repeat (first | apply ef_seq | (apply ef_mv; exact rfl; exact rfl) | (apply ef_bin; exact rfl; exact rfl; exact rfl; (exact cmp_f rfl (by simp only [cmpP]; omega))) | (apply ef_gy; exact rfl; (exact (rfl : false = false))) | (apply ef_pick; exact rfl; exact rfl; exact rfl) | (apply ef_ldp; exact rfl; exact rfl; (exact rfl); exact rfl; (exact rfl); (exact rd_5 rfl rfl rfl rfl rfl)) | (apply ef_notT; exact rfl; exact rfl) | (apply ef_box; exact rfl; exact rfl; exact rfl; exact rfl) | apply ef_nil | apply seqQ.normal | apply ef_skip | (apply ef_condf; exact rfl; (exact (rfl : false = false))) | (apply ef_call; exact rfl; ((repeat (apply XVs.cons; exact rfl)); exact XVs.nil); (with_reducible first | exact awake_c _ | exact hfw _ | exact hte _ | exact hse _)))
  all_goals repeat (first | (apply ef_call; exact rfl; ((repeat (apply XVs.cons; exact rfl)); exact XVs.nil); (with_reducible exact hcp _)))
  all_goals (apply ef_call; (· exact rfl); (· ((repeat (apply XVs.cons; exact rfl)); exact XVs.nil)); · exact hlo.out)
  all_goals repeat (first | apply ef_seq | (apply ef_mv; exact rfl; exact rfl) | (apply ef_ext; exact rfl; exact rfl; exact rfl) | apply ef_nil | apply seqQ.normal)
  all_goals (refine ef_givev rfl (by exact rfl) hgv.out ?_)
  all_goals (show Ef _ _ _ _ _ _ _ ([⟨0, false, 5, [encT t]⟩, ⟨1, false, 1, []⟩] : MHeap) _)
  all_goals repeat (first | apply ef_seq | (apply ef_mv; exact rfl; exact rfl) | (apply ef_bin; exact rfl; exact rfl; exact rfl; (exact cmp_f rfl (by simp only [cmpP]; omega))) | (apply ef_gy; exact rfl; (exact (rfl : false = false))) | (apply ef_pick; exact rfl; exact rfl; exact rfl) | (apply ef_ldp; exact rfl; exact rfl; (exact rfl); exact rfl; (exact rfl); (exact rd_5 rfl rfl rfl rfl rfl)) | (apply ef_notT; exact rfl; exact rfl) | apply ef_nil | apply seqQ.normal | apply ef_skip | (apply ef_condf; exact rfl; (exact (rfl : false = false))) | (apply ef_call; exact rfl; ((repeat (apply XVs.cons; exact rfl)); exact XVs.nil); (with_reducible first | exact hseg _ | exact hkg _ | exact hcp _ | exact hclg _)))
  all_goals (apply ef_call; (· exact rfl); (· ((repeat (apply XVs.cons; exact rfl)); exact XVs.nil)); · exact hckb.out)
  all_goals repeat (first | apply ef_seq | (apply ef_mv; exact rfl; exact rfl) | (apply ef_bin; exact rfl; exact rfl; exact rfl; (first | exact cmp_t rfl (by first | exact rfl | (simp only [cmpP]; omega)) | exact cmp_f rfl (by simp only [cmpP]; omega))) | (apply ef_gy; exact rfl; (first | exact (rfl : true = true) | exact (rfl : false = false))) | (apply ef_gn; exact rfl; (exact (rfl : false = false)); exact rfl) | (apply ef_gu; exact rfl; exact rfl) | (apply ef_pick; exact rfl; exact rfl; exact rfl) | (apply ef_ldp; exact rfl; exact rfl; (exact rfl); exact rfl; (exact rfl); (first | exact rd_2 rfl rfl | exact rd_5 rfl rfl rfl rfl rfl | exact rfl)) | (apply ef_fap; exact rfl; exact rfl) | (apply ef_notT; exact rfl; exact rfl) | (apply ef_ext; exact rfl; exact rfl; exact rfl) | (apply ef_newst; exact rfl; exact rfl; exact rfl; exact rfl; exact rfl) | (apply ef_build; exact rfl; (repeat (apply XVs.cons; exact rfl)); exact XVs.nil; exact rfl; exact rfl) | (apply ef_eqa; exact rfl; exact rfl; exact rfl; exact rfl; exact rfl; exact rfl) | apply ef_nil | apply seqQ.normal | apply ef_skip | (apply ef_condf; exact rfl; (exact (rfl : false = false))) | (apply ef_call; exact rfl; ((repeat (apply XVs.cons; exact rfl)); exact XVs.nil); (with_reducible first | exact hks _ | exact hnw _)))
  all_goals exact ef_weak (by ((repeat (refine Hold.cons (by exact rfl) ?_)); exact Hold.nil)) hp.out
abbrev nlH (t : Tk) (g : List (List Int)) (m : Int) (v : MV) : MHeap := [⟨0, false, 5, [encT t]⟩, ⟨1, false, 1, []⟩, ⟨0, nlN g.length, 1, g.map encW⟩, ⟨0, false, 2, [posI 0 0]⟩, ⟨0, false, 5, [encT (t.up m)]⟩, ⟨0, false, 5, [encT (t.steep m)]⟩, ⟨0, false, 5, [.agg [.sl (t.ter.map encW), v, .sl (t.ties.map I64), I64 t.cl, I64 t.cb]]⟩]
set_option maxHeartbeats 4000000 in
theorem NoLower_p2 (t : Tk) (ok : OkT t) (bd : Bd t) (g : List (List Int)) (more : Int)
    (hp : ∀ m mm, 0 ≤ m → m < 100 → mm < t.ter.length → ∀ qv h, WdM t mm t.ter.length qv (nlH t g m (.lit (.slice none 0 0))) h → EfNL 13 [(3, .ptr 0 0 0 0), (2, I64 m), (13, .ptr 6 0 0 0), (11, .ptr 4 0 0 0), (12, .ptr 5 0 0 0), (7, .sl (g.map encW))] h) :
    EfNL 8 [(3, .ptr 0 0 0 0), (2, I64 more), (7, .sl (g.map encW))] [⟨0, false, 5, [encT t]⟩, ⟨1, false, 1, []⟩, ⟨0, nlN g.length, 1, g.map encW⟩, ⟨0, false, 2, [posI 0 0]⟩] := by
  unfold EfNL at hp ⊢
  have hb : MC.cut 5 (MC.rest 8 bodyNL) (MC.rest 5 (MC.rest 8 bodyNL)) = MC.rest 8 bodyNL := cut_rest 5 _
  rw [← hb, rest_rest]
  generalize MC.rest (8 + 5) bodyNL = R at hp ⊢
  clear hb
  -- MFOF mf_DrapeNoLower
  have hmod := fun h => bMod_c 11 more 100 h (by decide) (by decide)
  have hm0 : 0 ≤ more % 100 := Int.emod_nonneg _ (by decide)
  have hm1 : more % 100 < 100 := Int.emod_lt_of_pos _ (by decide)
  generalize more % 100 = m at hmod hm0 hm1
  have hcp := fun h => CopyTask_c 9 t bd h
  have hh1 := ok.h1
  have hcl := ok.cl
  have hcb := ok.cb
  have hs1 : (MV.sl (t.ter.map encW)).slen = some t.ter.length := by simp [MV.slen]
  repeat (first | apply ef_seq | (apply ef_mv; exact rfl; exact rfl) | (apply ef_bin; exact rfl; exact rfl; exact rfl; (((with_reducible refine bin_add (wrap_of ?_ ?_)) <;> omega))) | (apply ef_ldp; exact rfl; exact rfl; (exact rfl); exact rfl; (exact rfl); (first | exact rd_5 rfl rfl rfl rfl rfl | exact rfl)) | (apply ef_fap; exact rfl; exact rfl) | (apply ef_new; exact rfl) | (apply ef_nilck; exact rfl; exact rfl; exact rfl) | (apply ef_ne; exact rfl; exact rfl; (exact rfl)) | (apply ef_st; exact rfl; exact rfl; exact rfl; exact rfl; exact rfl; exact rfl; (exact rfl); exact rfl) | apply ef_nil | apply seqQ.normal | apply ef_block | (apply ef_call; exact rfl; ((repeat (apply XVs.cons; exact rfl)); exact XVs.nil); (with_reducible first | exact hmod _ | exact hcp _)))
  have hk0 : 0 ≤ m % (t.ter.length : Int) := Int.emod_nonneg _ (by omega)
  have hk1 : m % (t.ter.length : Int) < t.ter.length := Int.emod_lt_of_pos _ (by omega)
  have hmod2 := fun h => bMod_c 11 m (t.ter.length : Int) h (by omega) (by omega)
  obtain ⟨mm, hmm⟩ : ∃ mm : Nat, m % (t.ter.length : Int) = (mm : Int) := ⟨(m % (t.ter.length : Int)).toNat, by omega⟩
  rw [hmm] at hk0 hk1 hmod2
  replace hp := Bx.mk (hp m mm hm0 hm1 (by omega))
  refine ef_loopg (α := Nat × MV × MHeap) (fun q => q.1 ≤ t.ter.length ∧ WdM t mm q.1 q.2.1 (nlH t g m (.lit (.slice none 0 0))) q.2.2) (fun q => [(14, I64 (q.1 : Int))]) [(3, .ptr 0 0 0 0), (2, I64 m), (13, .ptr 6 0 0 0), (11, .ptr 4 0 0 0), (12, .ptr 5 0 0 0), (7, .sl (g.map encW))] (fun q => q.2.2) (fun q => t.ter.length - q.1) (0, .lit (.slice none 0 0), nlH t g m (.lit (.slice none 0 0))) [14] (fun _ => rfl) (by ((repeat (refine Hold.cons (by exact rfl) ?_)); exact Hold.nil)) (by ((repeat (refine Hold.cons (by exact rfl) ?_)); exact Hold.nil)) rfl rfl (by exact rfl) ⟨by simp, ⟨rfl, .nil, fun _ _ _ => rfl, by simp, .inl (by simp)⟩⟩ (by simp; omega) ?_
  rintro ⟨i, qv, h⟩ ⟨hi, hm⟩
  try simp only at hi hm ⊢
  have b0 : h[0]? = some ⟨0, false, 5, [encT t]⟩ := hm.old 0 (by decide) (by decide)
  have b6 := hm.cell
  by_cases hlt : i < t.ter.length
  · cases hb : t.rows.contains (i : Int)
    · have hhas := fun h => bHas_c 11 t.rows (i : Int) h (v := .sl (t.rows.map I64)) bd.b2 (frz_lt (by simp [MV.lt, ltL_I])) hb
      by_cases e : i = mm
      · repeat (first | apply ef_seq | (apply ef_mv; exact rfl; exact rfl) | (apply ef_bin; exact rfl; exact rfl; exact rfl; (exact cmp_t rfl (by first | exact rfl | (simp only [cmpP]; omega)))) | (apply ef_gy; exact rfl; (exact (rfl : false = false))) | (apply ef_pick; exact rfl; exact rfl; exact rfl) | (apply ef_len; exact rfl; exact rfl; (assumption)) | (apply ef_ldp; exact rfl; exact rfl; (assumption); exact rfl; (exact rfl); (exact rfl)) | (apply ef_fap; exact rfl; exact rfl) | (apply ef_bsl; exact rfl; (repeat (apply XVs.cons; exact rfl)); exact XVs.nil; exact rfl) | apply ef_nil | apply seqQ.normal | apply ef_block | apply ef_skip | (apply ef_condt; exact rfl; (exact (rfl : true = true))) | (apply ef_call; exact rfl; ((repeat (apply XVs.cons; exact rfl)); exact XVs.nil); (with_reducible first | exact hhas _ | exact hmod2 _)))
        refine ef_pushF (a := .sl (t.ter.map encW)) (b := .sl (t.ties.map I64)) (c' := I64 t.cl) (d := I64 t.cb) (Q := wRows t mm i) (c := 6) (m0 := 7) rfl rfl rfl rfl (by exact rfl) (by exact rfl) (by exact rfl) (fun _ => rfl) hm.cell hm.li (by decide) hm.len (by have := wRows_len t mm i; omega) fun h' qv' k1 k2 k3 k4 k5 => ?_
        repeat (first | (apply ef_mv; exact rfl; exact rfl) | (apply ef_bin; exact rfl; exact rfl; exact rfl; (((with_reducible refine bin_add (wrap_of ?_ ?_)) <;> omega))) | apply ef_nil | apply seqQ.normal | apply blockQ.normal)
        exact loopQ.normal _ _ ⟨(i + 1, qv', h'), ⟨hlt, ⟨k1, by rw [wRows_succ, if_pos (by simp [e])]; exact k2, fun j h1 h2 => (k4 j h1 h2).trans (hm.old j h1 h2), Nat.le_trans hm.len k5, .inr k3⟩⟩, by simp only; omega, ⟨by ((repeat (refine Hold.cons (by exact rfl) ?_)); exact Hold.nil), by ((repeat (refine Hold.cons (by exact rfl) ?_)); exact Hold.nil)⟩, WdM.head (t := t) (mm := mm) (i := i + 1) (qv := qv') (h0 := nlH t g m (.lit (.slice none 0 0))) ⟨k1, by rw [wRows_succ, if_pos (by simp [e])]; exact k2, fun j h1 h2 => (k4 j h1 h2).trans (hm.old j h1 h2), Nat.le_trans hm.len k5, .inr k3⟩⟩
      · have e2 : (i : Int) ≠ (mm : Int) := by omega
        repeat (first | apply ef_seq | (apply ef_mv; exact rfl; exact rfl) | (apply ef_bin; exact rfl; exact rfl; exact rfl; (first | exact cmp_t rfl (by first | exact rfl | (simp only [cmpP]; omega)) | exact cmp_f rfl (by simp only [cmpP]; omega) | ((with_reducible refine bin_add (wrap_of ?_ ?_)) <;> omega))) | (apply ef_gy; exact rfl; (exact (rfl : false = false))) | (apply ef_pick; exact rfl; exact rfl; exact rfl) | (apply ef_len; exact rfl; exact rfl; (assumption)) | (apply ef_ldp; exact rfl; exact rfl; (assumption); exact rfl; (exact rfl); (exact rfl)) | (apply ef_fap; exact rfl; exact rfl) | apply ef_nil | apply seqQ.normal | apply blockQ.normal | apply ef_block | apply ef_skip | (apply ef_condt; exact rfl; (exact (rfl : true = true))) | (apply ef_condf; exact rfl; (exact (rfl : false = false))) | (apply ef_call; exact rfl; ((repeat (apply XVs.cons; exact rfl)); exact XVs.nil); (with_reducible first | exact hhas _ | exact hmod2 _)))
        have hw : wRows t mm (i + 1) = wRows t mm i := by rw [wRows_succ, if_neg (by simp only [hb, Bool.false_or, beq_iff_eq]; exact e), List.append_nil]
        exact loopQ.normal _ _ ⟨(i + 1, qv, h), ⟨hlt, ⟨hm.cell, by rw [hw]; exact hm.li, hm.old, hm.len, hm.sm⟩⟩, by simp only; omega, ⟨by ((repeat (refine Hold.cons (by exact rfl) ?_)); exact Hold.nil), by ((repeat (refine Hold.cons (by exact rfl) ?_)); exact Hold.nil)⟩, hm.head⟩
    · have hhas := fun h => bHas_c 11 t.rows (i : Int) h (v := .sl (t.rows.map I64)) bd.b2 (frz_lt (by simp [MV.lt, ltL_I])) hb
      repeat (first | apply ef_seq | (apply ef_mv; exact rfl; exact rfl) | (apply ef_bin; exact rfl; exact rfl; exact rfl; (exact cmp_t rfl (by first | exact rfl | (simp only [cmpP]; omega)))) | (apply ef_gn; exact rfl; (exact (rfl : true = true)); exact rfl) | (apply ef_pick; exact rfl; exact rfl; exact rfl) | (apply ef_len; exact rfl; exact rfl; (assumption)) | (apply ef_ldp; exact rfl; exact rfl; (assumption); exact rfl; (exact rfl); (exact rfl)) | (apply ef_fap; exact rfl; exact rfl) | (apply ef_bsl; exact rfl; (repeat (apply XVs.cons; exact rfl)); exact XVs.nil; exact rfl) | apply ef_nil | apply seqQ.normal | apply ef_block | apply ef_skip | (apply ef_condt; exact rfl; (exact (rfl : true = true))) | (apply ef_call; exact rfl; ((repeat (apply XVs.cons; exact rfl)); exact XVs.nil); (with_reducible exact hhas _)))
      refine ef_pushF (a := .sl (t.ter.map encW)) (b := .sl (t.ties.map I64)) (c' := I64 t.cl) (d := I64 t.cb) (Q := wRows t mm i) (c := 6) (m0 := 7) rfl rfl rfl rfl (by exact rfl) (by exact rfl) (by exact rfl) (fun _ => rfl) hm.cell hm.li (by decide) hm.len (by have := wRows_len t mm i; omega) fun h' qv' k1 k2 k3 k4 k5 => ?_
      repeat (first | (apply ef_mv; exact rfl; exact rfl) | (apply ef_bin; exact rfl; exact rfl; exact rfl; (((with_reducible refine bin_add (wrap_of ?_ ?_)) <;> omega))) | apply ef_nil | apply seqQ.normal | apply blockQ.normal)
      exact loopQ.normal _ _ ⟨(i + 1, qv', h'), ⟨hlt, ⟨k1, by rw [wRows_succ, if_pos (by rw [hb]; rfl)]; exact k2, fun j h1 h2 => (k4 j h1 h2).trans (hm.old j h1 h2), Nat.le_trans hm.len k5, .inr k3⟩⟩, by simp only; omega, ⟨by ((repeat (refine Hold.cons (by exact rfl) ?_)); exact Hold.nil), by ((repeat (refine Hold.cons (by exact rfl) ?_)); exact Hold.nil)⟩, WdM.head (t := t) (mm := mm) (i := i + 1) (qv := qv') (h0 := nlH t g m (.lit (.slice none 0 0))) ⟨k1, by rw [wRows_succ, if_pos (by rw [hb]; rfl)]; exact k2, fun j h1 h2 => (k4 j h1 h2).trans (hm.old j h1 h2), Nat.le_trans hm.len k5, .inr k3⟩⟩
  · obtain rfl : i = t.ter.length := by omega
    repeat (first | apply ef_seq | (apply ef_mv; exact rfl; exact rfl) | (apply ef_bin; exact rfl; exact rfl; exact rfl; (exact cmp_f rfl (by simp only [cmpP]; omega))) | (apply ef_len; exact rfl; exact rfl; (assumption)) | (apply ef_ldp; exact rfl; exact rfl; (assumption); exact rfl; (exact rfl); (exact rfl)) | (apply ef_fap; exact rfl; exact rfl) | apply ef_nil | apply seqQ.normal | apply loopQ.exit | apply ef_exit | apply seqQ.exit | apply blockQ.here | (apply ef_condf; exact rfl; (exact (rfl : false = false))))
    exact ef_weak (by ((repeat (refine Hold.cons (by exact rfl) ?_)); exact Hold.nil)) (hp.out qv h hm)
end Go.Proofs.Ytgjpdjihjphbdaa

/- The law of lower surfaces: the second half of the walk. -/
namespace Go.Proofs.Ytgjpdjihjphbdaa
open Go.RowKit
set_option linter.unusedVariables false

/-- The memory behind the rows that grow. -/
structure NlM (t : Tk) (m : Int) (R : List Int) (idR gR : Nat) (h : MHeap) : Prop where
  b0 : h[0]? = some ⟨0, false, 5, [encT t]⟩
  b4 : h[4]? = some ⟨0, false, 5, [encT (t.up m)]⟩
  b5 : h[5]? = some ⟨0, false, 5, [encT (t.steep m)]⟩
  b6 : h[6]? = some ⟨0, false, 5, [.agg [.sl (t.ter.map encW), .arr idR 0 R.length gR, .sl (t.ties.map I64), I64 t.cl, I64 t.cb]]⟩
  br : h[idR]? = some ⟨gR, false, 1, R.map I64⟩
  ir : 7 ≤ idR
theorem NlM.app {t : Tk} {m : Int} {R : List Int} {idR gR : Nat} {h : MHeap} (q : NlM t m R idR gR h) (X : MHeap) : NlM t m R idR gR (h ++ X) :=
  ⟨at_app q.b0 X, at_app q.b4 X, at_app q.b5 X, at_app q.b6 X, at_app q.br X, q.ir⟩
theorem set_last (h : MHeap) (c d : MObj) : (h ++ [c]).set h.length d = h ++ [d] := by
  rw [List.set_append_right _ _ (Nat.le_refl _)]; simp
theorem giveV_last {lk : Nat → Bool} {h : MHeap} {k : Nat} {g : List (List Int)} (hk : k = g.length) (h1 : lk h.length = false) : giveV lk (h ++ [⟨0, false, 1, g.map encW⟩]) (.arr h.length 0 k 0) = some (.sl (g.map encW), h ++ [⟨1, false, 1, []⟩]) := by
  rw [giveV_arr (at_end _ _) (by simp [hk]) (ltL_W 0 g) h1, set_last]
theorem lea_len {t : Tk} (ok : OkT t) {g : List (List Int)} (hg : Lea t g) : g.length ≤ 1000 ∧ ∀ r ∈ g, r.length ≤ 1000 := by
  have hgl : g.length = t.ter.length := hg.1.sh.hl
  have := ok.h1
  refine ⟨by omega, fun r hr => ?_⟩
  obtain ⟨y, hy, rfl⟩ := List.getElem_of_mem hr
  have := hg.1.sh.wl y hy
  have := ok.w1
  omega
set_option maxHeartbeats 4000000 in
theorem NoLower_p3 (t : Tk) (ok : OkT t) (bd : Bd t) (g : List (List Int)) (hg : Lea t g) (m : Int) (hm0 : 0 ≤ m) (hm1 : m < 100) (mm : Nat) (hmm : mm < t.ter.length) (idR gR : Nat) (h : MHeap) (q : NlM t m (wRows t mm t.ter.length) idR gR h) :
    EfNL 13 [(3, .ptr 0 0 0 0), (2, I64 m), (13, .ptr 6 0 0 0), (11, .ptr 4 0 0 0), (12, .ptr 5 0 0 0), (7, .sl (g.map encW))] h := by
  -- MFOF mf_DrapeNoLower
  have og := hg.okz ok
  have bdu : Bd (t.up m) := ⟨bd.b1, bd.b2, bd.b3, bd.b4⟩
  have bds : Bd (t.steep m) := ⟨bd.b1, bd.b2, bd.b3, bd.b4⟩
  have bdw : Bd (t.wide (wRows t mm t.ter.length)) := ⟨bd.b1, Nat.le_trans (wRows_len t mm _) bd.b1, bd.b3, bd.b4⟩
  have hteu := fun h => TaskErr_c 8 (t.up m) bdu h
  have htes := fun h => TaskErr_c 8 (t.steep m) bds h
  rw [(taskF_rel _).1] at hteu htes
  obtain ⟨okw, hsub⟩ := wide_ok ok hmm
  have h0w := okT_task okw
  by_cases h0u : (taskF id (t.up m)).2 = 0
  case neg =>
    have b0 := q.b0
    have b4 := q.b4
    generalize (taskF id (t.up m)).2 = e at *
    repeat (first | apply ef_seq | (apply ef_ldp; exact rfl; exact rfl; (assumption); exact rfl; (exact rfl); (exact rd_5 rfl rfl rfl rfl rfl)))
    (apply ef_call; (· exact rfl); (· ((repeat (apply XVs.cons; exact rfl)); exact XVs.nil)); · exact hteu _)
    repeat (first | apply ef_seq | (apply ef_mv; exact rfl; exact rfl) | (apply ef_bin; exact rfl; exact rfl; exact rfl; (exact cmp_t rfl (by first | exact rfl | (simp only [cmpP]; omega)))) | (apply ef_gn; exact rfl; (exact (rfl : true = true)); exact rfl) | (apply ef_pick; exact rfl; exact rfl; exact rfl) | apply ef_nil | apply seqQ.normal | apply ef_ret | apply seqQ.ret | (apply ef_condt; exact rfl; (exact (rfl : true = true))))
    (refine fin1 rfl (by exact rfl) rfl ?_)
    rfl
  by_cases h0s : (taskF id (t.steep m)).2 = 0
  case neg =>
    have b0 := q.b0
    have b4 := q.b4
    have b5 := q.b5
    rw [h0u] at hteu
    generalize (taskF id (t.steep m)).2 = e at *
    repeat (first | apply ef_seq | (apply ef_ldp; exact rfl; exact rfl; (assumption); exact rfl; (exact rfl); (exact rd_5 rfl rfl rfl rfl rfl)))
    (apply ef_call; (· exact rfl); (· ((repeat (apply XVs.cons; exact rfl)); exact XVs.nil)); · exact hteu _)
    repeat (first | (apply ef_mv; exact rfl; exact rfl) | (apply ef_bin; exact rfl; exact rfl; exact rfl; (exact cmp_f rfl (by simp only [cmpP]; omega))) | (apply ef_gy; exact rfl; (exact (rfl : false = false))) | (apply ef_ldp; exact rfl; exact rfl; (assumption); exact rfl; (exact rfl); (exact rd_5 rfl rfl rfl rfl rfl)))
    (apply ef_call; (· exact rfl); (· ((repeat (apply XVs.cons; exact rfl)); exact XVs.nil)); · exact htes _)
    repeat (first | apply ef_seq | (apply ef_mv; exact rfl; exact rfl) | (apply ef_bin; exact rfl; exact rfl; exact rfl; (exact cmp_t rfl (by first | exact rfl | (simp only [cmpP]; omega)))) | (apply ef_gy; exact rfl; (exact (rfl : false = false))) | (apply ef_pick; exact rfl; exact rfl; exact rfl) | apply ef_nil | apply seqQ.normal | apply ef_ret | apply seqQ.ret | (apply ef_condt; exact rfl; (exact (rfl : true = true))))
    (refine fin1 rfl (by exact rfl) rfl ?_)
    rfl
  rw [h0u] at hteu
  rw [h0s] at htes
  have oku := (task_ok h0u).1
  have oks := (task_ok h0s).1
  obtain ⟨gu, hgu⟩ := oku.lea
  obtain ⟨gs, hgs⟩ := oks.lea
  obtain ⟨gw, hgw⟩ := okw.lea
  have ogu : OkZ t gu := ⟨⟨hgu.1.sh.hl, hgu.1.sh.wl⟩, (hgu.okz oku).rg⟩
  have ogs : OkZ t gs := ⟨⟨hgs.1.sh.hl, hgs.1.sh.wl⟩, (hgs.okz oks).rg⟩
  have ogw : OkZ t gw := ⟨⟨hgw.1.sh.hl, hgw.1.sh.wl⟩, (hgw.okz okw).rg⟩
  have hseu := fun h => rSurfaceErr_c 10 t ok gu (lea_len oku hgu).1 (lea_len oku hgu).2 h
  have hses := fun h => rSurfaceErr_c 10 t ok gs (lea_len oks hgs).1 (lea_len oks hgs).2 h
  have hsew := fun h => rSurfaceErr_c 10 t ok gw (lea_len okw hgw).1 (lea_len okw hgw).2 h
  rw [surfE_of ogu] at hseu
  rw [surfE_of ogs] at hses
  rw [surfE_of ogw] at hsew
  have hlu := fun h => Lowest_ok 4 bdu h0u hgu h
  have hls := fun h => Lowest_ok 4 bds h0s hgs h
  have hlw := fun h => Lowest_ok 4 bdw h0w hgw h
  have hU := fun y x (hy : y < t.ter.length) (hx : x < t.W) (hf : t.fl y x = true) => up_lea hg hgu hy hx hf
  have hS := fun y x (hy : y < t.ter.length) (hx : x < t.W) => steep_lea hm0 hg hgs hy hx
  have hW := fun y x (hy : y < t.ter.length) (hx : x < t.W) (hf : t.fl y x = true) => wide_lea hsub hg hgw hy hx hf
  have b0 := q.b0
  have b4 := q.b4
  have b5 := q.b5
  repeat (first | apply ef_seq | (apply ef_ldp; exact rfl; exact rfl; (assumption); exact rfl; (exact rfl); (exact rd_5 rfl rfl rfl rfl rfl)))
  (apply ef_call; (· exact rfl); (· ((repeat (apply XVs.cons; exact rfl)); exact XVs.nil)); · exact hteu _)
  repeat (first | (apply ef_mv; exact rfl; exact rfl) | (apply ef_bin; exact rfl; exact rfl; exact rfl; (exact cmp_f rfl (by simp only [cmpP]; omega))) | (apply ef_gy; exact rfl; (exact (rfl : false = false))) | (apply ef_ldp; exact rfl; exact rfl; (assumption); exact rfl; (exact rfl); (exact rd_5 rfl rfl rfl rfl rfl)))
  (apply ef_call; (· exact rfl); (· ((repeat (apply XVs.cons; exact rfl)); exact XVs.nil)); · exact htes _)
  repeat (first | apply ef_seq | (apply ef_bin; exact rfl; exact rfl; exact rfl; (exact cmp_f rfl (by simp only [cmpP]; omega))) | (apply ef_gy; exact rfl; (exact (rfl : false = false))) | (apply ef_pick; exact rfl; exact rfl; exact rfl) | (apply ef_ldp; exact rfl; exact rfl; (assumption); exact rfl; (exact rfl); (exact rd_5 rfl rfl rfl rfl rfl)) | apply ef_nil | apply seqQ.normal | apply ef_skip | (apply ef_condf; exact rfl; (exact (rfl : false = false))))
  (apply ef_call; (· exact rfl); (· ((repeat (apply XVs.cons; exact rfl)); exact XVs.nil)); · exact hlu _)
  repeat (first | apply ef_seq | (apply ef_mv; exact rfl; exact rfl) | (apply ef_ext; exact rfl; exact rfl; exact rfl) | apply ef_nil | apply seqQ.normal)
  refine ef_givev rfl (by exact rfl) (giveV_last (by exact hgu.1.sh.hl.symm) rfl) ?_
  have q1 := q.app [(⟨1, false, 1, []⟩ : MObj)]
  generalize h ++ [(⟨1, false, 1, []⟩ : MObj)] = h1 at q1 ⊢
  clear b0 b4 b5
  have b5 := q1.b5
  repeat (first | (apply ef_ldp; exact rfl; exact rfl; (assumption); exact rfl; (exact rfl); (exact rd_5 rfl rfl rfl rfl rfl)))
  (apply ef_call; (· exact rfl); (· ((repeat (apply XVs.cons; exact rfl)); exact XVs.nil)); · exact hls _)
  repeat (first | apply ef_seq | (apply ef_mv; exact rfl; exact rfl) | (apply ef_ext; exact rfl; exact rfl; exact rfl) | apply ef_nil | apply seqQ.normal)
  refine ef_givev rfl (by exact rfl) (giveV_last (by exact hgs.1.sh.hl.symm) rfl) ?_
  have q2 := q1.app [(⟨1, false, 1, []⟩ : MObj)]
  generalize h1 ++ [(⟨1, false, 1, []⟩ : MObj)] = h2 at q2 ⊢
  clear b5
  refine ef_give (by exact rfl) (sealH_row q2.b6 q2.br (by simp [MV.lt, ltL_W]) (by simp [MV.lt, ltL_I]) rfl rfl (by have := q2.ir; omega) rfl rfl) ?_
  have b0 : ((h2.set idR ⟨gR + 1, false, 1, []⟩).set 6 ⟨0, false, 5, [.agg [.sl (t.ter.map encW), .sl ((wRows t mm t.ter.length).map I64), .sl (t.ties.map I64), I64 t.cl, I64 t.cb]]⟩)[0]? = some ⟨0, false, 5, [encT t]⟩ := by
    rw [List.getElem?_set_ne (by omega), List.getElem?_set_ne (by have := q2.ir; omega)]; exact q2.b0
  have b6 : ((h2.set idR ⟨gR + 1, false, 1, []⟩).set 6 ⟨0, false, 5, [.agg [.sl (t.ter.map encW), .sl ((wRows t mm t.ter.length).map I64), .sl (t.ties.map I64), I64 t.cl, I64 t.cb]]⟩)[6]? = some ⟨0, false, 5, [encT (t.wide (wRows t mm t.ter.length))]⟩ := by
    rw [List.getElem?_set_self (by rw [List.length_set]; exact (List.getElem?_eq_some_iff.1 q2.b6).1)]; rfl
  generalize ((h2.set idR ⟨gR + 1, false, 1, []⟩).set 6 ⟨0, false, 5, [.agg [.sl (t.ter.map encW), .sl ((wRows t mm t.ter.length).map I64), .sl (t.ties.map I64), I64 t.cl, I64 t.cb]]⟩) = h3 at b0 b6 ⊢
  repeat (first | (apply ef_ldp; exact rfl; exact rfl; (assumption); exact rfl; (exact rfl); (exact rd_5 rfl rfl rfl rfl rfl)))
  (apply ef_call; (· exact rfl); (· ((repeat (apply XVs.cons; exact rfl)); exact XVs.nil)); · exact hlw _)
  repeat (first | apply ef_seq | (apply ef_mv; exact rfl; exact rfl) | (apply ef_ext; exact rfl; exact rfl; exact rfl) | apply ef_nil | apply seqQ.normal)
  refine ef_givev rfl (by exact rfl) (giveV_last (by exact hgw.1.sh.hl.symm) rfl) ?_
  have c0 := at_app b0 [(⟨1, false, 1, []⟩ : MObj)]
  generalize h3 ++ [(⟨1, false, 1, []⟩ : MObj)] = h4 at c0 ⊢
  clear b0 b6 q q1 q2 hteu htes hlu hls hlw
  have hs7 : (MV.sl (g.map encW)).slen = some t.ter.length := by simp [MV.slen]; exact hg.1.sh.hl
  have hh1 := ok.h1
  have hw1 := ok.w1
  repeat (first | apply ef_seq | (apply ef_mv; exact rfl; exact rfl) | (apply ef_bin; exact rfl; exact rfl; exact rfl; (exact cmp_f rfl (by simp only [cmpP]; omega))) | (apply ef_gy; exact rfl; (exact (rfl : false = false))) | (apply ef_pick; exact rfl; exact rfl; exact rfl) | (apply ef_ldp; exact rfl; exact rfl; (assumption); exact rfl; (exact rfl); (exact rd_5 rfl rfl rfl rfl rfl)) | apply ef_nil | apply seqQ.normal | apply ef_block | apply ef_skip | (apply ef_condf; exact rfl; (exact (rfl : false = false))) | (apply ef_call; exact rfl; ((repeat (apply XVs.cons; exact rfl)); exact XVs.nil); (with_reducible first | exact hseu _ | exact hses _ | exact hsew _)))
  refine ef_loopf (α := Nat) (fun y => y ≤ t.ter.length) (fun y => [(21, I64 (y : Int))]) [(7, .sl (g.map encW)), (3, .ptr 0 0 0 0), (15, .sl (gu.map encW)), (2, I64 m), (17, .sl (gs.map encW)), (19, .sl (gw.map encW))] (fun _ => h4) (fun y => t.ter.length - y) 0 [21] (fun _ => rfl) (by ((repeat (refine Hold.cons (by exact rfl) ?_)); exact Hold.nil)) (by ((repeat (refine Hold.cons (by exact rfl) ?_)); exact Hold.nil)) rfl rfl (by simp) (by simp; omega) ?_
  rintro y hy
  try simp only at hy ⊢
  by_cases hlt : y < t.ter.length
  · have e1 := og.row (y := y) hlt
    have u1 := ogu.row (y := y) hlt
    have s1 := ogs.row (y := y) hlt
    have w1 := ogw.row (y := y) hlt
    have hrw := og.sh.row (y := y) hlt
    have hsr : (encW (g.getD y [])).slen = some t.W := by simp [MV.slen]; exact hrw
    repeat (first | apply ef_seq | (apply ef_mv; exact rfl; exact rfl) | (apply ef_bin; exact rfl; exact rfl; exact rfl; (exact cmp_t rfl (by first | exact rfl | (simp only [cmpP]; omega)))) | (apply ef_len; exact rfl; exact rfl; (assumption)) | apply ef_nil | apply seqQ.normal | apply ef_block | apply ef_skip | (apply ef_condt; exact rfl; (exact (rfl : true = true))))
    refine ef_loopf (α := Nat) (fun x => x ≤ t.W) (fun x => [(22, I64 (x : Int))]) [(7, .sl (g.map encW)), (21, I64 (y : Int)), (3, .ptr 0 0 0 0), (15, .sl (gu.map encW)), (2, I64 m), (17, .sl (gs.map encW)), (19, .sl (gw.map encW))] (fun _ => h4) (fun x => t.W - x) 0 [22] (fun _ => rfl) (by ((repeat (refine Hold.cons (by exact rfl) ?_)); exact Hold.nil)) (by ((repeat (refine Hold.cons (by exact rfl) ?_)); exact Hold.nil)) rfl rfl (by simp) (by simp; omega) ?_
    rintro x hx
    try simp only at hx ⊢
    by_cases hlt2 : x < t.W
    · have e2 := og.cell hlt hlt2
      have u2 := ogu.cell hlt hlt2
      have s2 := ogs.cell hlt hlt2
      have w2 := ogw.cell hlt hlt2
      obtain ⟨v1, v2⟩ := og.rg y x hlt hlt2
      cases hf : t.fl y x
      · have hfl := fun h => rFlown_c 10 t bd hh1.1 (x : Int) (y : Int) h ((t.flI_nat hlt hlt2).trans hf)
        repeat (first | apply ef_seq | (apply ef_mv; exact rfl; exact rfl) | (apply ef_bin; exact rfl; exact rfl; exact rfl; (first | exact cmp_t rfl (by first | exact rfl | (simp only [cmpP]; omega)) | ((with_reducible refine bin_add (wrap_of ?_ ?_)) <;> omega))) | (apply ef_gn; exact rfl; (exact (rfl : false = false)); exact rfl) | (apply ef_gu; exact rfl; exact rfl) | (apply ef_pick; exact rfl; exact rfl; exact rfl) | (apply ef_len; exact rfl; exact rfl; (assumption)) | (apply ef_ldr; exact rfl; exact rfl; (exact rfl)) | (apply ef_ldp; exact rfl; exact rfl; (assumption); exact rfl; (exact rfl); (exact rd_5 rfl rfl rfl rfl rfl)) | (apply ef_ias; exact rfl; exact rfl; exact rfl; (omega); assumption; exact rfl) | apply ef_nil | apply seqQ.normal | apply blockQ.normal | apply ef_block | apply ef_skip | (apply ef_condt; exact rfl; (exact (rfl : true = true))) | (apply ef_condf; exact rfl; (exact (rfl : false = false))) | (apply ef_call; exact rfl; ((repeat (apply XVs.cons; exact rfl)); exact XVs.nil); (with_reducible exact hfl _)))
        (refine loopQ.normal _ _ ⟨x + 1, hlt2, (by first | (simp only; omega) | omega), ⟨by ((repeat (refine Hold.cons (by exact rfl) ?_)); exact Hold.nil), by ((repeat (refine Hold.cons (by exact rfl) ?_)); exact Hold.nil)⟩, .inl (Nat.le_refl _), (by first | exact List.take_length | exact rfl | exact takeF rfl rfl)⟩)
      · have hfl := fun h => rFlown_c 10 t bd hh1.1 (x : Int) (y : Int) h ((t.flI_nat hlt hlt2).trans hf)
        have hu := hU y x hlt hlt2 hf
        have hs := hS y x hlt hlt2
        have hw := hW y x hlt hlt2 hf
        clear hU hS hW
        repeat (first | apply ef_seq | (apply ef_mv; exact rfl; exact rfl) | (apply ef_bin; exact rfl; exact rfl; exact rfl; (first | exact cmp_t rfl (by first | exact rfl | (simp only [cmpP]; omega)) | exact cmp_f rfl (by simp only [cmpP]; omega) | ((with_reducible refine bin_add (wrap_of ?_ ?_)) <;> omega))) | (apply ef_gy; exact rfl; (first | exact (rfl : true = true) | exact (rfl : false = false))) | (apply ef_pick; exact rfl; exact rfl; exact rfl) | (apply ef_len; exact rfl; exact rfl; (assumption)) | (apply ef_ldr; exact rfl; exact rfl; (exact rfl)) | (apply ef_ldp; exact rfl; exact rfl; (assumption); exact rfl; (exact rfl); (exact rd_5 rfl rfl rfl rfl rfl)) | (apply ef_ias; exact rfl; exact rfl; exact rfl; (omega); assumption; exact rfl) | apply ef_nil | apply seqQ.normal | apply blockQ.normal | apply ef_block | apply ef_skip | (apply ef_condt; exact rfl; (exact (rfl : true = true))) | (apply ef_condf; exact rfl; (exact (rfl : false = false))) | (apply ef_call; exact rfl; ((repeat (apply XVs.cons; exact rfl)); exact XVs.nil); (with_reducible exact hfl _)))
        (refine loopQ.normal _ _ ⟨x + 1, hlt2, (by first | (simp only; omega) | omega), ⟨by ((repeat (refine Hold.cons (by exact rfl) ?_)); exact Hold.nil), by ((repeat (refine Hold.cons (by exact rfl) ?_)); exact Hold.nil)⟩, .inl (Nat.le_refl _), (by first | exact List.take_length | exact rfl | exact takeF rfl rfl)⟩)
    · repeat (first | apply ef_seq | (apply ef_mv; exact rfl; exact rfl) | (apply ef_bin; exact rfl; exact rfl; exact rfl; (first | exact cmp_f rfl (by simp only [cmpP]; omega) | ((with_reducible refine bin_add (wrap_of ?_ ?_)) <;> omega))) | (apply ef_len; exact rfl; exact rfl; (assumption)) | (apply ef_ldr; exact rfl; exact rfl; (exact rfl)) | (apply ef_ias; exact rfl; exact rfl; exact rfl; (omega); assumption; exact rfl) | apply ef_nil | apply seqQ.normal | apply loopQ.exit | apply ef_exit | apply seqQ.exit | apply blockQ.normal | apply blockQ.here | (apply ef_condf; exact rfl; (exact (rfl : false = false))))
      (refine loopQ.normal _ _ ⟨y + 1, hlt, (by first | (simp only; omega) | omega), ⟨by ((repeat (refine Hold.cons (by exact rfl) ?_)); exact Hold.nil), by ((repeat (refine Hold.cons (by exact rfl) ?_)); exact Hold.nil)⟩, .inl (Nat.le_refl _), (by first | exact List.take_length | exact rfl | exact takeF rfl rfl)⟩)
  · repeat (first | apply ef_seq | (apply ef_mv; exact rfl; exact rfl) | (apply ef_bin; exact rfl; exact rfl; exact rfl; (exact cmp_f rfl (by simp only [cmpP]; omega))) | (apply ef_len; exact rfl; exact rfl; (assumption)) | apply ef_nil | apply seqQ.normal | apply loopQ.exit | apply ef_ret | apply ef_exit | apply seqQ.exit | apply blockQ.here | (apply ef_condf; exact rfl; (exact (rfl : false = false))))
    (refine fin1 rfl (by exact rfl) rfl ?_)
    rfl
theorem DrapeNoLower_z (t : Tk) (s : List (List Int)) (more : Int) (m1 : t.ter.length ≤ 9223372036854775807) (m2 : t.rows.length ≤ 9223372036854775807) (m3 : t.ties.length ≤ 9223372036854775807) (m4 : ∀ r ∈ t.ter, r.length ≤ 9223372036854775807) (m5 : s.length ≤ 9223372036854775807) (m6 : ∀ r ∈ s, r.length ≤ 9223372036854775807) :
    runZ MT (orA 12) (itA 12) 4000000 11 [encT t, .sl (s.map encW), I64 more] [] = some (Bo true, []) :=
  NoLower_p1 t s more m1 m2 m3 m4 m5 m6 fun g ok bd hg => NoLower_p2 t ok bd g more fun m mm h0 h1 hmm qv h hw => by
    obtain ⟨c, li, old, len, sm⟩ := hw
    have hin : (mm : Int) ∈ wRows t mm t.ter.length := wRows_mem.2 ⟨mm, hmm, rfl, .inr rfl⟩
    have h3 := NoLower_p3 t ok bd g hg m h0 h1 mm hmm
    generalize wRows t mm t.ter.length = R at li hin h3
    cases li with
    | nil => cases hin
    | arr id gen Q k1 k2 => exact h3 id gen h ⟨old 0 (by decide) (by decide), old 4 (by decide) (by decide), old 5 (by decide) (by decide), c, k1, k2⟩
end Go.Proofs.Ytgjpdjihjphbdaa

/- Open values of tasks. -/
namespace Go.Proofs.Ytgjpdjihjphbdaa
open Go.ChangeShapes Go.WideShapes Go.ChangeAt Go.RowKit

def taskSh : Sh := .agg [.slice (.slice (.int .i64)), .slice (.int .i64), .slice (.int .i64), .int .i64, .int .i64]
theorem fits_lists {m : MV} (h : Fits (.slice (.slice (.int .i64))) m) : ∃ g : List (List Int), m = .sl (g.map encW) ∧ g.length ≤ maxLen ∧ ∀ r ∈ g, r.length ≤ maxLen := by
  rw [Fits] at h
  obtain ⟨es, rfl, hl, he⟩ := h
  induction es with
  | nil => exact ⟨[], rfl, by simp, fun n hn => by cases hn⟩
  | cons e es ih =>
    obtain ⟨r, rfl, hr, _⟩ := fits_ints (he e List.mem_cons_self)
    obtain ⟨g, h1, h2, h3⟩ := ih (by simp at hl; omega) fun e h => he e (List.mem_cons_of_mem _ h)
    have e1 : es = g.map encW := by simpa using h1
    subst e1
    refine ⟨r :: g, rfl, by simpa using hl, fun k hk => ?_⟩
    rcases List.mem_cons.1 hk with rfl | hk
    · exact hr
    · exact h3 k hk
theorem fits_task {m : MV} (h : Fits taskSh m) : ∃ t : Tk, m = encT t ∧ t.ter.length ≤ 9223372036854775807 ∧ t.rows.length ≤ 9223372036854775807 ∧ t.ties.length ≤ 9223372036854775807 ∧ ∀ r ∈ t.ter, r.length ≤ 9223372036854775807 := by
  obtain ⟨ms, h', rfl⟩ := fits_agg h
  obtain ⟨m1, r1, rfl, h1, h⟩ := fitsL_cons h'
  obtain ⟨m2, r2, rfl, h2, h⟩ := fitsL_cons h
  obtain ⟨m3, r3, rfl, h3, h⟩ := fitsL_cons h
  obtain ⟨m4, r4, rfl, h4, h⟩ := fitsL_cons h
  obtain ⟨m5, r5, rfl, h5, h⟩ := fitsL_cons h
  obtain rfl := fitsL_nil h
  obtain ⟨g, rfl, hg, hr⟩ := fits_lists h1
  obtain ⟨rs, rfl, hrs, _⟩ := fits_ints h2
  obtain ⟨ts, rfl, hts, _⟩ := fits_ints h3
  obtain ⟨a, rfl, _⟩ := fits_int h4
  obtain ⟨b, rfl, _⟩ := fits_int h5
  exact ⟨⟨g, rs, ts, a, b⟩, rfl, Nat.le_trans hg maxLen_le, Nat.le_trans hrs maxLen_le, Nat.le_trans hts maxLen_le, fun r h => Nat.le_trans (hr r h) maxLen_le⟩
end Go.Proofs.Ytgjpdjihjphbdaa
