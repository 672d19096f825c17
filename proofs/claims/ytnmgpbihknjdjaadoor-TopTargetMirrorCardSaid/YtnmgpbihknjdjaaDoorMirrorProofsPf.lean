/- The row of TopTargetMirror. -/
import Derived.Laws.Bits64b
import Derived.Test.YtnmgpbihknjdjaaDoorRows
import Derived.ProofKit
import Derived.LaidSub
import Derived.LaidHandle
import Derived.FnData
import Derived.OpenShut
import Derived.Test.YtnmgpbihknjdjaaDoorCards
import Derived.Test.YtnmgpbihknjdjaaDoorTie
import Derived.LaidMore
import Derived.LaidOnce
import Derived.SevenTiedAt
import Derived.Stop.Joined
import Derived.Test.YtnmgpbihknjdjaaDoorProg
import Derived.Test.YtnmgpbihknjdjaaDoorChecked
import Derived.Test.YtnmgpbihknjdjaaDoorMirrorProofsPe
set_option linter.unusedVariables false
set_option linter.unusedSimpArgs false
/- Chapter 9: the bounds of the volume. -/
namespace Go.Proofs.YtnmgpbihknjdjaaDoor
open Go.RowKit
set_option linter.unusedVariables false
theorem giveV_arrg {lk : Nat → Bool} {h : MHeap} {id k sz g : Nat} {nl : Bool} {es : List MV} (ho : h[id]? = some ⟨g, nl, sz, es⟩) (hk : k = es.length) (hl : ltL 0 es = true) (h1 : lk id = false) : giveV lk h (.arr id 0 k g) = some (.sl es, h.set id ⟨g + 1, nl, sz, []⟩) := by
 have hids : MV.ids h 6 (.arr id 0 k g) = [id] := by
  have e2 : MV.ids h 6 (.arr id 0 k g) = id :: (match h[id]? with | some o => o.es.flatMap (MV.ids h 5) | none => []) := rfl
  rw [ho] at e2
  dsimp only at e2
  rw [idsL_lt0 hl] at e2
  exact e2
 have hmap : (h.mapIdx fun i p => if ([id] : List Nat).contains i then (⟨p.g + 1, p.nl, p.sz, []⟩ : MObj) else p) = h.set id ⟨g + 1, nl, sz, []⟩ := by
  apply List.ext_getElem?
  intro j
  rw [List.getElem?_mapIdx, List.getElem?_set]
  by_cases e : j = id
  ·subst e
   rw [if_pos rfl, if_pos (List.getElem?_eq_some_iff.1 ho).1, ho]
   simp
  ·rw [if_neg (by omega)]
   cases h[j]? <;> simp [e]
 have himp : ((List.range h.length).filter fun i => !([id] : List Nat).contains i).contains id = false := by
  rw [Bool.eq_false_iff]
  intro hc
  simp only [List.contains_iff_mem, List.mem_filter] at hc
  simpa using hc.2
 have hfr : frz 0 ((List.range h.length).filter fun i => !([id] : List Nat).contains i) h 8 (.arr id 0 k g) = some (.sl es) := by
  have h3 : es.take k = es := List.take_of_length_le (by omega)
  simp only [frz, MV.lt, Nat.not_lt_zero, decide_false, Bool.false_eq_true, if_false, himp, ho]
  simp only [hl, if_true, List.drop_zero, h3]
  simp; omega
 unfold giveV
 rw [hids, hfr]
 simp only [hmap]
 simp [h1]
def volsE (C : List (Int × Int)) (p : List MV) : List Int := ((p.map unK).filter (hasB C)).map List.sum
theorem volsE_app (C : List (Int × Int)) (p : List MV) (u : List Int) : volsE C (p ++ [entK u]) = volsE C p ++ if hasB C u then [u.sum] else [] := by
 unfold volsE
 rw [List.map_append, List.filter_append, List.map_append]
 congr 1
 simp only [List.map_cons, List.map_nil, unK_ent, List.filter_cons, List.filter_nil]
 split <;> rfl
theorem volsE_len (C : List (Int × Int)) (p : List MV) : (volsE C p).length ≤ p.length := by
 unfold volsE
 rw [List.length_map]
 refine Nat.le_trans (List.length_filter_le _ _) ?_
 rw [List.length_map]; exact Nat.le_refl _
abbrev M0v (R C : List (Int × Int)) (vs : List Int) : MHeap := [⟨0, false, 2, [encS R C]⟩, ⟨0, false, 2, [.agg [I64 0, I64 0]]⟩, ⟨0, false, 2, [encS R C]⟩, ⟨vs.length, vs.isEmpty, 1, vs.map I64⟩]
abbrev B0v (n : Nat) : Sl := [(6, .arr 3 0 n n), (2, .ptr 1 0 0 0), (3, I64 0), (4, .ptr 2 0 0 0)]
structure JV (R C : List (Int × Int)) (p : List MV) (B : Sl) (h : MHeap) : Prop where
 b : B = B0v (volsE C p).length
 h : h.take 4 = M0v R C (volsE C p)
theorem I64_lt (n : Nat) (l : List Int) : ltL n (l.map I64) = true := ltL_iff'.2 fun m hm => by obtain ⟨e, _, rfl⟩ := List.mem_map.1 hm; rfl
theorem M0v_lt (n : Nat) (R C : List (Int × Int)) (vs : List Int) : hltL n (M0v R C vs) = true := by
 simp only [hltL, List.all_cons, List.all_nil, ltL, encS_lt, I64_lt, Bool.and_true, Bool.true_and]
 rfl
theorem five_of : ∀ {v : List Int}, v.length = 5 → ∃ a b c d e, v = [a, b, c, d, e]
 | [a, b, c, d, e], _ => ⟨a, b, c, d, e, rfl⟩
 | [], h => by simp at h
 | [_], h => by simp at h
 | [_, _], h => by simp at h
 | [_, _, _], h => by simp at h
 | [_, _, _, _], h => by simp at h
 | _ :: _ :: _ :: _ :: _ :: _ :: _, h => by simp at h
def code6 : List Int → Nat
 | [] => 0
 | x :: l => x.toNat + 6 * code6 l
theorem code6_lt : ∀ {v : List Int}, (∀ x ∈ v, 0 ≤ x ∧ x ≤ 5) → code6 v < 6 ^ v.length
 | [], _ => by simp [code6]
 | x :: l, h => by
  have h1 := code6_lt (v := l) fun y hy => h y (List.mem_cons_of_mem _ hy)
  have h2 := h x (by simp)
  simp only [code6, List.length_cons, Nat.pow_succ]
  omega
theorem code6_inj : ∀ {v w : List Int}, v.length = w.length → (∀ x ∈ v, 0 ≤ x ∧ x ≤ 5) → (∀ x ∈ w, 0 ≤ x ∧ x ≤ 5) → code6 v = code6 w → v = w
 | [], [], _, _, _, _ => rfl
 | [], _ :: _, h, _, _, _ => by simp at h
 | _ :: _, [], h, _, _, _ => by simp at h
 | x :: v, y :: w, h, h1, h2, h3 => by
  have a1 := h1 x (by simp)
  have a2 := h2 y (by simp)
  simp only [code6] at h3
  have e1 : x = y := by omega
  have e2 : code6 v = code6 w := by omega
  rw [e1, code6_inj (by simpa using h) (fun z hz => h1 z (List.mem_cons_of_mem _ hz)) (fun z hz => h2 z (List.mem_cons_of_mem _ hz)) e2]
theorem reach_len (R : List (Int × Int)) (m : Nat) (P : Nat → Nat → Bool) (hR : R.length ≤ 5) : (reachL R m P R.length).length ≤ 7776 := by
 obtain ⟨h1, h2⟩ := reachL_ok R m P R.length
 generalize reachL R m P R.length = l at *
 have hb : ∀ v ∈ l, v.length = 5 ∧ ∀ x ∈ v, 0 ≤ x ∧ x ≤ 5 := fun v hv => ⟨(h1 v hv).1, fun x hx => by have := (h1 v hv).2 x hx; omega⟩
 have hn : (l.map code6).Nodup := by
  unfold List.Nodup
  rw [List.pairwise_map]
  refine List.Pairwise.imp_of_mem (R := fun a b => ltK a b = true) (fun {a b} ha hb2 hlt e => ?_) h2
  have := code6_inj ((hb a ha).1.trans (hb b hb2).1.symm) (hb a ha).2 (hb b hb2).2 e
  rw [this, ltK_irrefl] at hlt; cases hlt
 have := nodup_len (n := 7776) hn fun i hi => by
  obtain ⟨v, hv, rfl⟩ := List.mem_map.1 hi
  have := code6_lt (hb v hv).2
  rw [(hb v hv).1] at this
  exact this
 rwa [List.length_map] at this
theorem mf_Vol : MT.mf 7 = some ⟨37, [(.cell 2 (some 2)), (.tmp 3)], (.seq (.reg [gO 1 (.box 2 (.s 0)), gO 2 (.new (.agg [(.lit (.int .i64 0)), (.lit (.int .i64 0))])), gO 3 (.mv (cI 0))]) (.seq (.reg [gO 9 (.ld (some 2) (.s 1)), gO 10 (.call 18 [.s 9]), gO 8 (.mv (.s 10)), gO 11 (.ext (.s 8) 0), gO 12 (.ext (.s 8) 1), gO 4 (.new (.agg [(.lit (.slice none 0 0)), (.lit (.slice none 0 0))])), ⟨none, none, .st 2 (.s 4) (.s 11)⟩, gO 5 (.mv (.s 12))]) (.seq (.seq (.reg [gO 13 (.mv (.s 5)), gO 14 (.bin .neq (.s 13) (cI 0))]) (.cond (.s 14) (.seq (.reg [gO 15 (.build [(.lit (.int .i64 0)), (.lit (.int .i64 0))] []), gO 16 (.mv (.s 5)), ⟨none, none, .st 2 (.s 2) (.s 15)⟩, gO 3 (.mv (.s 16))]) .ret) .skip)) (.seq (.reg [gO 6 (.nil0 1)]) (.mrk [gO 17 (.ld (some 2) (.s 4)), gO 18 (.call 19 [.s 17, (cI 0), (.c (.fn 20 0 []))])] [6, 2, 3, 4] [6, 2, 3] 0 (.s 18) 19 20 21 (.block 1 (.seq (.reg [gO 22 (.ent (.s 19)), gO 23 (.ext (.s 22) 0), gO 7 (.new (.agg [(.lit (.int .i64 0)), (.lit (.int .i64 0)), (.lit (.int .i64 0)), (.lit (.int .i64 0)), (.lit (.int .i64 0))])), ⟨none, none, .st 5 (.s 7) (.s 23)⟩]) (.seq (.reg [gO 24 (.ld (some 2) (.s 4)), gO 25 (.ld (some 5) (.s 7)), gO 26 (.call 21 [.s 24, .s 25])]) (.cond (.s 26) (.reg [gO 27 (.mv (.s 6)), gO 28 (.ld (some 5) (.s 7)), gO 29 (.call 22 [.s 28]), gO 30 (.bsl (.lit (.int .i64 0)) 1 1 [(0, (.s 29))]), gO 31 (.app 1 (.s 27) (.s 30)), gO 6 (.mv (.s 31))]) .skip)))) [2, 3] (.seq (.give 6 (.reg [gO 32 (.mv (.s 6)), gO 33 (.call 23 [.s 32]), gO 34 (.mv (.s 6)), gO 35 (.call 24 [.s 34]), gO 36 (.build [(.lit (.int .i64 0)), (.lit (.int .i64 0))] [(0, (1, (.s 33))), (1, (1, (.s 35)))]), ⟨none, none, .st 2 (.s 2) (.s 36)⟩, gO 3 (.mv (cI 0))])) .ret))))))⟩ := by kernel_rfl
abbrev outR (p : Int × Int) (e : Int) : MV := .tup [encP p, I64 e]
set_option maxHeartbeats 2000000 in
theorem Vol_z (k : Nat) (R C : List (Int × Int)) (hR : R.length ≤ 100) (hC : C.length ≤ 100) : runZ MT (orA (k + 7)) (itA (k + 7)) 4000000 7 [encS R C] [] = some (outR (if opnE R C = 0 then (mnL (volL R C), mxL (volL R C)) else (0, 0)) (opnE R C), []) := by
 refine runZ_of mf_Vol (by simp) ?_
 simp only [argsL]
 have hop := openS_c k R C hR hC
 by_cases h0 : opnE R C = 0
 ·have hb : possB R C anyP = true ∧ ValS R C := by
   unfold opnE at h0
   split at h0
   ·rename_i h1
    split at h0
    ·rename_i h2; exact ⟨h2, chkS_val h1⟩
    ·cases h0
   ·rename_i h1; exact absurd h0 h1
  obtain ⟨hb, hv⟩ := hb
  rw [if_pos h0]
  generalize opnE R C = e at *
  subst h0
  have hre : ∀ h, orA (k + 7) 19 [encS R C, I64 0, .fn 20 0 []] h = some (.rm ((reachL R C.length anyP R.length).map entK), h) := fun h => reached_c (k + 2) R C 0 _ anyP hv.r5 (Nat.zero_le _) hv.c5 (may_any (k + 5) _) h
  have hmem : ∀ p : List MV, p.Perm ((reachL R C.length anyP R.length).map entK) → ∀ x, x ∈ volsE C p ↔ x ∈ volL R C := fun p hp x => by
   unfold volsE volL
   rw [List.mem_map, List.mem_map]
   refine exists_congr fun u => and_congr_left fun _ => ?_
   rw [List.mem_filter, List.mem_filter]
   refine and_congr_left fun _ => ?_
   rw [(hp.map unK).mem_iff, unK_map]
  have hlen : ∀ p : List MV, p.Perm ((reachL R C.length anyP R.length).map entK) → (volsE C p).length = (volL R C).length := fun p hp => by
   have h1 := (((hp.map unK).filter (hasB C)).map List.sum).length_eq
   rw [unK_map] at h1
   exact h1
  have hvne : volL R C ≠ [] := fun h => by
   obtain ⟨w, hw, _⟩ := possB_iff.1 hb
   have := mem_volL.2 ⟨w, hw, rfl⟩
   rw [h] at this; cases this
  have hm := reach_len R C.length anyP hv.r5
  obtain ⟨nok, _⟩ := reachL_ok R C.length anyP R.length
  have hR5 := hv.r5
  generalize volL R C = vl at *
  generalize reachL R C.length anyP R.length = now at *
  repeat (first | apply ef_seq | (apply ef_mv; exact rfl; exact rfl) | (apply ef_bin; (iterate 3 exact rfl); (exact cmp_f rfl (by simp only [cmpP]; omega))) | (apply ef_ldp; exact rfl; exact rfl; (exact rfl); exact rfl; (exact rfl); (exact rd_2 rfl rfl)) | (apply ef_ext; (iterate 3 exact rfl)) | (apply ef_box; (iterate 4 exact rfl)) | (apply ef_newst; (iterate 3 exact rfl); (exact rfl); exact rfl) | (apply ef_new; exact rfl) | (apply ef_nil0; exact rfl) | apply ef_nil | apply seqQ.normal | apply ef_skip | (apply ef_condf; exact rfl; (exact (rfl : false = false))) | (apply ef_call; exact rfl; ((repeat (apply XVs.cons; exact rfl)); exact XVs.nil); (with_reducible exact hop _)))
  refine ef_mrk ?_
  repeat (first | (apply ef_ldp; exact rfl; exact rfl; (exact rfl); exact rfl; (exact rfl); (exact rd_2 rfl rfl)) | apply ef_nil | (apply ef_call; exact rfl; ((repeat (apply XVs.cons; exact rfl)); exact XVs.nil); (with_reducible exact hre _)))
  refine ⟨rfl, ?_⟩
  refine eft_mrk (JV R C) .ret [(2, .ptr 1 0 0 0), (3, I64 0)] [⟨0, false, 2, [encS R C]⟩, ⟨0, false, 2, [.agg [I64 (mnL vl), I64 (mxL vl)]]⟩, ⟨0, false, 2, [encS R C]⟩, ⟨vl.length + 1, false, 1, []⟩] (by exact rfl) (entK_all now) rfl rfl rfl rfl rfl rfl rfl (B0v 0) (by ((repeat (refine Hold.cons (by exact rfl) ?_)); exact Hold.nil)) rfl ⟨rfl, rfl⟩ ?_ ?_ rfl ?_
  ·intro p kk vv l' B1 h1 hpm hJ
   have hmm : MV.tup [kk, vv] ∈ now.map entK := hpm.mem_iff.1 (by simp)
   have hpl : (volsE C p).length ≤ 7776 := by
    have h2 := volsE_len C p
    have h3 := hpm.length_eq
    simp at h3
    omega
   obtain ⟨u, hu, e⟩ := List.mem_map.1 hmm
   obtain ⟨hu5, hu6⟩ := nok u hu
   simp only [MV.tup.injEq, List.cons.injEq, and_true] at e
   obtain ⟨rfl, rfl⟩ := e
   have hap := volsE_app C p u
   have hcon := has_c (k + 5) R C u hu5 hv.c5
   have htot := total_c (k + 6) u hu5 (fun x hx => by have := hu6 x hx; omega)
   obtain ⟨rfl, hh⟩ := hJ
   generalize volsE C p = vs at *
   refine ⟨B0v vs.length, M0v R C vs, fun p hp => by
    simp only [List.mem_cons, List.not_mem_nil, or_false] at hp
    rcases hp with rfl | rfl | rfl | rfl <;> rfl, rfl, by rw [← hh]; exact .cut (fun t ht => by
    simp only [List.mem_cons, List.not_mem_nil, or_false] at ht
    rcases ht with rfl | rfl | rfl | rfl <;> exact ⟨_, rfl, rfl⟩) (by show hltL 4 (h1.take 4) = true; rw [hh]; exact M0v_lt 4 R C vs), fun t ht => by
    simp only [List.mem_cons, List.not_mem_nil, or_false] at ht
    rcases ht with rfl | rfl | rfl | rfl <;> exact ⟨_, rfl, rfl⟩, M0v_lt _ R C vs, ?_⟩
   obtain ⟨a, b, c', d, e', rfl⟩ := five_of hu5
   cases hh2 : hasB C [a, b, c', d, e']
   ·rw [hh2] at hcon hap
    repeat (first | apply ef_seq | (apply ef_ldp; exact rfl; exact rfl; (exact rfl); exact rfl; (exact rfl); (first | exact rd_2 rfl rfl | exact rd_5 rfl rfl rfl rfl rfl)) | (apply ef_ext; (iterate 3 exact rfl)) | (apply ef_newst; (iterate 3 exact rfl); (exact rfl); exact rfl) | (apply ef_ent; exact rfl; exact rfl) | apply ef_nil | apply seqQ.normal | apply ef_block)
    (apply ef_call; (· exact rfl); (· ((repeat (apply XVs.cons; exact rfl)); exact XVs.nil)); · exact hcon _)
    repeat (first | apply ef_nil | apply seqQ.normal | apply blockQ.normal | apply ef_skip | (apply ef_condf; exact rfl; (exact (rfl : false = false))))
    refine ⟨rfl, ⟨_, _, by exact rfl⟩, B0v vs.length, by ((repeat (refine Hold.cons (by exact rfl) ?_)); exact Hold.nil), ?_, ?_⟩
    ·rw [hap]; simp
    ·rw [hap]; simp
   ·rw [hh2] at hcon hap
    repeat (first | apply ef_seq | (apply ef_ldp; exact rfl; exact rfl; (exact rfl); exact rfl; (exact rfl); (first | exact rd_2 rfl rfl | exact rd_5 rfl rfl rfl rfl rfl)) | (apply ef_ext; (iterate 3 exact rfl)) | (apply ef_newst; (iterate 3 exact rfl); (exact rfl); exact rfl) | (apply ef_ent; exact rfl; exact rfl) | apply ef_nil | apply seqQ.normal | apply ef_block)
    (apply ef_call; (· exact rfl); (· ((repeat (apply XVs.cons; exact rfl)); exact XVs.nil)); · exact hcon _)
    repeat (first | (apply ef_mv; exact rfl; exact rfl) | (apply ef_ldp; exact rfl; exact rfl; (exact rfl); exact rfl; (exact rfl); (exact rd_5 rfl rfl rfl rfl rfl)) | apply ef_nil | apply seqQ.normal | (apply ef_condt; exact rfl; (exact (rfl : true = true))))
    (apply ef_call; (· exact rfl); (· ((repeat (apply XVs.cons; exact rfl)); exact XVs.nil)); · exact htot _)
    repeat (first | (apply ef_bsl; exact rfl; (repeat (apply XVs.cons; exact rfl)); exact XVs.nil; exact rfl))
    (apply ef_app; (· exact rfl); (· exact rfl); (· exact rfl); (· exact rfl); (· exact rfl); (· exact rfl); (· (simp)); (· exact rfl); (· (simp; omega)); (· (rfl)); (· exact rfl))
    repeat (first | (apply ef_mv; exact rfl; exact rfl) | apply ef_nil | apply blockQ.normal)
    refine ⟨rfl, ⟨_, _, by exact rfl⟩, B0v (vs.length + 1), by ((repeat (refine Hold.cons (by exact rfl) ?_)); exact Hold.nil), ?_, ?_⟩
    ·rw [hap]; simp
    ·rw [hap]; simp [List.take]
  ·intro p B1 h1 hp hJ
   obtain ⟨rfl, hh⟩ := hJ
   have hmm := hmem p hp
   have hln := hlen p hp
   have hne : volsE C p ≠ [] := fun e => by
    obtain ⟨x, hx⟩ := List.exists_mem_of_ne_nil _ hvne
    rw [← hmm x, e] at hx; cases hx
   have h6 : (volsE C p).length ≤ 7776 := by
    have h2 := volsE_len C p
    have h3 := hp.length_eq
    simp at h3
    omega
   have hmn := mn_ext hne hmm
   have hmx := mx_ext hne hmm
   generalize volsE C p = vs at *
   refine ⟨[(6, .arr 3 0 vs.length vs.length), (2, .ptr 1 0 0 0), (3, I64 0)], M0v R C vs, fun p hp => by
    simp only [List.mem_cons, List.not_mem_nil, or_false] at hp
    rcases hp with rfl | rfl | rfl <;> rfl, rfl, by rw [← hh]; exact .cut (fun t ht => by
    simp only [List.mem_cons, List.not_mem_nil, or_false] at ht
    rcases ht with rfl | rfl | rfl <;> exact ⟨_, rfl, rfl⟩) (by show hltL 4 (h1.take 4) = true; rw [hh]; exact M0v_lt 4 R C vs), fun t ht => by
    simp only [List.mem_cons, List.not_mem_nil, or_false] at ht
    rcases ht with rfl | rfl | rfl <;> exact ⟨_, rfl, rfl⟩, M0v_lt _ R C vs, ?_⟩
   have q1 := fun h => Min_c (k + 6) vs h (v := .sl (vs.map I64)) (by omega) hne (frz_sl (I64_lt 0 vs))
   have q2 := fun h => Max_c (k + 6) vs h (v := .sl (vs.map I64)) (by omega) hne (frz_sl (I64_lt 0 vs))
   repeat (first | apply ef_seq)
   refine ef_givev rfl (by exact rfl) (giveV_arrg (es := vs.map I64) rfl (by simp) (I64_lt 0 vs) rfl) ?_
   repeat (first | (apply ef_mv; exact rfl; exact rfl))
   (apply ef_call; (· exact rfl); (· ((repeat (apply XVs.cons; exact rfl)); exact XVs.nil)); · exact q1 _)
   repeat (first | (apply ef_mv; exact rfl; exact rfl))
   (apply ef_call; (· exact rfl); (· ((repeat (apply XVs.cons; exact rfl)); exact XVs.nil)); · exact q2 _)
   repeat (first | (apply ef_mv; exact rfl; exact rfl) | (apply ef_build; exact rfl; (repeat (apply XVs.cons; exact rfl)); exact XVs.nil; exact rfl; exact rfl) | (apply ef_st; (iterate 6 exact rfl); (exact rfl); (exact rfl)) | apply ef_nil | apply seqQ.normal | apply ef_ret)
   refine ⟨rfl, fun t ht => ?_, ?_⟩
   ·simp only [List.mem_cons, List.not_mem_nil, or_false] at ht
    rcases ht with rfl | rfl <;> exact ⟨_, rfl, rfl⟩
   ·have hem : vs.isEmpty = false := by cases vs with | nil => exact absurd rfl hne | cons => rfl
    have e1 : (⟨vl.length + 1, false, 1, []⟩ : MObj) = ⟨vs.length + 1, vs.isEmpty, 1, []⟩ := by rw [hln, hem]
    rw [e1, ← hmn, ← hmx]
    exact .all (Nat.le_refl _)
  ·repeat (fail)
   refine finR2 (v := encP (mnL vl, mxL vl)) (w := I64 0) rfl ?_ (by exact rfl) rfl rfl rfl
   apply resC <;> exact rfl
 ·rw [if_neg h0]
  generalize opnE R C = e at *
  repeat (first | apply ef_seq | (apply ef_mv; exact rfl; exact rfl) | (apply ef_bin; (iterate 3 exact rfl); (exact cmp_t rfl (by first | exact rfl | (simp only [cmpP]; omega)))) | (apply ef_ldp; exact rfl; exact rfl; (exact rfl); exact rfl; (exact rfl); (exact rd_2 rfl rfl)) | (apply ef_ext; (iterate 3 exact rfl)) | (apply ef_box; (iterate 4 exact rfl)) | (apply ef_newst; (iterate 3 exact rfl); (exact rfl); exact rfl) | (apply ef_new; exact rfl) | (apply ef_build; exact rfl; (repeat (apply XVs.cons; exact rfl)); exact XVs.nil; exact rfl; exact rfl) | (apply ef_st; (iterate 6 exact rfl); (exact rfl); (exact rfl)) | apply ef_nil | apply seqQ.normal | apply ef_ret | apply seqQ.ret | (apply ef_condt; exact rfl; (exact (rfl : true = true))) | (apply ef_call; exact rfl; ((repeat (apply XVs.cons; exact rfl)); exact XVs.nil); (with_reducible exact hop _)))
  refine finR2 (v := encP (0, 0)) (w := I64 e) rfl ?_ (by exact rfl) rfl rfl rfl
  apply resC <;> exact rfl
theorem Vol_c (k : Nat) (R C : List (Int × Int)) (hR : R.length ≤ 100) (hC : C.length ≤ 100) (h : MHeap) {v : MV} (hv : frz 0 [] h 8 v = some (encS R C)) : orA (k + 8) 7 [v] h = some (outR (if opnE R C = 0 then (mnL (volL R C), mxL (volL R C)) else (0, 0)) (opnE R C), h) := by
 have := callA (k := k + 7) (h := h) (args := [v]) (args' := [encS R C]) (by simp [List.mapM_cons, hv]) rfl (Vol_z k R C hR hC) (by simp [okV, ok1, MV.lt, ltL, MV.pure, pureL]) rfl
 simpa [shV, sh1] using this
end Go.Proofs.YtnmgpbihknjdjaaDoor

/- Small helpers about memory. -/
namespace Go.Proofs.YtnmgpbihknjdjaaDoor
open Go.RowKit
set_option linter.unusedVariables false
structure Bx (p : Prop) : Prop where
 out : p
theorem set_end (H : MHeap) (c d : MObj) : (H ++ [c]).set H.length d = H ++ [d] := by simp
theorem at_end (H : MHeap) (c : MObj) : (H ++ [c])[H.length]? = some c := List.getElem?_concat_length
theorem at_app {H : MHeap} {i : Nat} {o : MObj} (h : H[i]? = some o) (X : MHeap) : (H ++ X)[i]? = some o := by
 rw [List.getElem?_append_left (List.getElem?_eq_some_iff.1 h).1]; exact h
theorem hltL_no {m : Nat} {h : MHeap} {j : Nat} {o : MObj} (hj : j < m) (ho : h[j]? = some o) (hl : ltL m o.es = false) : hltL m (h.take m) = false := by
 unfold hltL
 rw [Bool.eq_false_iff]
 intro hc
 have h1 : (h.take m)[j]? = some o := by rw [List.getElem?_take, if_pos hj]; exact ho
 have := List.all_eq_true.1 hc o (List.mem_of_getElem? h1)
 rw [hl] at this
 cases this
end Go.Proofs.YtnmgpbihknjdjaaDoor

/- Contracts: the numbers of a set; the program. -/
namespace Go.Proofs.YtnmgpbihknjdjaaDoor
open Go.RowKit Go.Lib
set_option linter.unusedVariables false
set_option linter.unusedSimpArgs false
end Go.Proofs.YtnmgpbihknjdjaaDoor

/- Contracts: which targets are valid. -/
namespace Go.Proofs.YtnmgpbihknjdjaaDoor
open Go.RowKit
set_option linter.unusedVariables false
end Go.Proofs.YtnmgpbihknjdjaaDoor

/- Contracts: targets and budgets. -/
namespace Go.Proofs.YtnmgpbihknjdjaaDoor
open Go.RowKit
set_option linter.unusedVariables false
end Go.Proofs.YtnmgpbihknjdjaaDoor

/- Contracts: sets of targets compared; the document's sets. -/
namespace Go.Proofs.YtnmgpbihknjdjaaDoor
open Go.RowKit
set_option linter.unusedVariables false
theorem bits_and_i64_1 (a : Nat) (ha : a < 9223372036854775808) : binI .and .i64 (a : Int) 1 = some (.int .i64 ((a % 2 : Nat) : Int)) := by
 have h1 : (BitVec.ofInt 64 (a : Int)).toNat = a := by
  rw [BitVec.ofInt_natCast, BitVec.toNat_ofNat]; exact Nat.mod_eq_of_lt (by omega)
 have h2 : (BitVec.ofInt 64 (1 : Int)).toNat = 1 := by decide
 show some (Value.int .i64 (IntKind.i64.wrap ((BitVec.ofInt 64 (a : Int) &&& BitVec.ofInt 64 (1 : Int)).toNat : Int))) = _
 rw [BitVec.toNat_and, h1, h2, Nat.and_one_is_mod, wrap_of (by omega) (by omega)]
theorem shr_i64 {k : Nat} (a : Nat) (hk : k ≤ 63) : shfI .shr .i64 (a : Int) (k : Int) = some (.int .i64 ((a / 2 ^ k : Nat) : Int)) := by
 have e : shfI .shr .i64 (a : Int) (k : Int) = some (.int .i64 ((a : Int).fdiv (2 ^ min (k : Int).toNat 64))) := by
  unfold shfI
  rw [if_neg (by omega)]
  rfl
 rw [e, Int.toNat_natCast, Nat.min_eq_left (by omega)]
 congr 2
 rw [Int.fdiv_eq_ediv_of_nonneg _ (Int.pow_nonneg (by decide))]
 have : ((2 : Int) ^ k) = ((2 ^ k : Nat) : Int) := by rw [Int.natCast_pow]; rfl
 rw [this, Int.natCast_ediv]
end Go.Proofs.YtnmgpbihknjdjaaDoor

/- Chapter 9: the bounds of the top, the certain cells. -/
namespace Go.Proofs.YtnmgpbihknjdjaaDoor
open Go.RowKit
set_option linter.unusedVariables false
theorem mf_Cert2 : MT.mf 27 = some ⟨19, [(.tmp 7)], (.seq (.reg [gO 7 (.mv cF)]) (.seq (.reg [gO 8 (.mv (.s 0)), gO 9 (.ld none (.s 2)), gO 10 (.bin .neq (.s 8) (.s 9)), gO 11 (.mv (.s 10)), ⟨some (11, false), some 12, .mv (.s 1)⟩, ⟨some (11, false), some 13, .ld none (.s 3)⟩, ⟨some (11, false), some 14, .shf .shr (.s 12) (.s 13)⟩, ⟨some (11, false), some 15, .bin .and (.s 14) (cI 1)⟩, ⟨some (11, false), some 16, .ld none (.s 4)⟩, ⟨some (11, false), some 17, .bin .eql (.s 15) (.s 16)⟩, gO 18 (.pick (.s 11) cT (.s 17)), gO 7 (.mv (.s 18))]) .ret))⟩ := by kernel_rfl
theorem Cert2_z (k : Nat) (at_ c row set : Nat) (d : Bool) (hs : set < 32) (hc : c < 5) : runZ MT (orA k) (itA k) 4000000 27 [I64 row, I64 set, .rp (I64 at_) 0, .rp (I64 c) 0, .rp (I64 (if d then 1 else 0)) 0] [] = some (Bo (cellP at_ c d row set), []) := by
 refine runZ_of mf_Cert2 (by simp) ?_
 simp only [argsL]
 have e1 := shr_i64 (k := c) set (by omega)
 have e2 := bits_and_i64_1 (set / 2 ^ c) (by have := Nat.div_le_self set (2 ^ c); omega)
 have e3 : set.testBit c = decide (set / 2 ^ c % 2 = 1) := Nat.testBit_eq_decide_div_mod_eq
 have e4 : set / 2 ^ c % 2 = 0 ∨ set / 2 ^ c % 2 = 1 := by omega
 by_cases h1 : row = at_
 ·subst h1
  rcases e4 with e4 | e4 <;> rw [e4] at e2 e3 <;> cases d
  all_goals repeat (first | apply ef_seq | (apply ef_mv; exact rfl; exact rfl) | (apply ef_bin; (iterate 3 exact rfl); (first | assumption | exact cmp_t rfl (by first | exact rfl | (simp only [cmpP]; omega)) | exact cmp_f rfl (by simp only [cmpP]; omega) | exact rfl)) | (apply ef_gy; exact rfl; (exact (rfl : false = false))) | (apply ef_pick; (iterate 3 exact rfl)) | (apply ef_ldr; exact rfl; exact rfl; (exact rfl)) | (apply ef_shf; (iterate 3 exact rfl); (assumption)) | apply ef_nil | apply seqQ.normal | apply ef_ret)
  all_goals (refine fin1 rfl (by exact rfl) rfl ?_)
  all_goals simp [cellP, e3]
 ·repeat (first | apply ef_seq | (apply ef_mv; exact rfl; exact rfl) | (apply ef_bin; (iterate 3 exact rfl); (exact cmp_t rfl (by first | exact rfl | (simp only [cmpP]; omega)))) | (apply ef_gn; exact rfl; (exact (rfl : true = true)); exact rfl) | (apply ef_pick; (iterate 3 exact rfl)) | (apply ef_ldr; exact rfl; exact rfl; (exact rfl)) | apply ef_nil | apply seqQ.normal | apply ef_ret)
  (refine fin1 rfl (by exact rfl) rfl ?_)
  simp [cellP, h1]
theorem may_cell (k : Nat) (at_ c n : Nat) (d : Bool) (hc : c < 5) : MayB (k + 1) (.fn 27 0 [.rp (I64 at_) 0, .rp (I64 c) 0, .rp (I64 (if d then 1 else 0)) 0]) (cellP at_ c d) n :=
 ⟨_, _, _, rfl, rfl, fun row set hr hs h => callL (args' := [I64 row, I64 set, .rp (I64 at_) 0, .rp (I64 c) 0, .rp (I64 (if d then 1 else 0)) 0]) (frzL_lt rfl) rfl (Cert2_z k at_ c row set d hs hc)⟩
theorem mf_Cert1 : MT.mf 25 = some ⟨9, [(.tmp 5)], (.seq (.reg [gO 4 (.box 1 (.s 0)), gO 5 (.mv cF)]) (.seq (.reg [gO 6 (.ld (some 2) (.s 1)), gO 7 (.mf 27 0 [.s 2, .s 3, .s 4]), gO 8 (.call 26 [.s 6, .s 7]), gO 5 (.mv (.s 8))]) .ret))⟩ := by kernel_rfl
theorem Cert1_z (k : Nat) (R C : List (Int × Int)) (at_ c : Nat) (d : Bool) (hR : R.length ≤ 5) (hC : C.length ≤ 5) (hc : c < 5) : runZ MT (orA (k + 6)) (itA (k + 6)) 4000000 25 [I64 (if d then 1 else 0), .rp (encS R C) 0, .rp (I64 at_) 0, .rp (I64 c) 0] [] = some (Bo (possB R C (cellP at_ c d)), []) := by
 refine runZ_of mf_Cert1 (by simp) ?_
 simp only [argsL]
 have hlt := encS_lt 0 R C
 have hp := fun (h : MHeap) args ha => possible_f k R C _ (cellP at_ c d) hR hC (may_cell (k + 3) at_ c R.length d hc) (args := args) (h := h) ha
 generalize possB R C (cellP at_ c d) = t at *
 repeat (first | apply ef_seq | (apply ef_mv; exact rfl; exact rfl) | (apply ef_ldr; exact rfl; exact rfl; (exact rd_2 rfl rfl)) | (apply ef_box; (iterate 4 exact rfl)) | (apply ef_mf; exact rfl; (repeat (apply XVs.cons; exact rfl)); exact XVs.nil) | apply ef_nil | apply seqQ.normal)
 (apply ef_call; (· exact rfl); (· ((repeat (apply XVs.cons; exact rfl)); exact XVs.nil)); · exact hp _ _ (by simp [List.mapM_cons, frz, MV.lt, ltL, hlt, encP_lt]))
 repeat (first | (apply ef_mv; exact rfl; exact rfl) | apply ef_nil | apply seqQ.normal | apply ef_ret)
 (refine fin1 rfl (by exact rfl) rfl ?_)
 rfl
theorem frz_arrg {h : MHeap} {id k sz g : Nat} {nl : Bool} {es : List MV} (ho : h[id]? = some ⟨g, nl, sz, es⟩) (hk : k = es.length) (hl : ltL 0 es = true) : frz 0 [] h 8 (.arr id 0 k g) = some (.sl es) := by
 have h3 : es.take k = es := List.take_of_length_le (by omega)
 simp only [frz, MV.lt, Nat.not_lt_zero, decide_false, Bool.false_eq_true, if_false, List.contains_nil, ho]
 simp only [hl, if_true, List.drop_zero, h3]
 simp; omega
theorem opn_zero {R C : List (Int × Int)} (h0 : opnE R C = 0) : possB R C anyP = true ∧ ValS R C := by
 unfold opnE at h0
 split at h0
 ·rename_i h1
  split at h0
  ·rename_i h2; exact ⟨h2, chkS_val h1⟩
  ·cases h0
 ·rename_i h1; exact absurd h0 h1
end Go.Proofs.YtnmgpbihknjdjaaDoor

/- Chapter 9: the certain cells. -/
namespace Go.Proofs.YtnmgpbihknjdjaaDoor
open Go.RowKit
set_option linter.unusedVariables false
theorem or_i64 (a b : Nat) (ha : a < 4611686018427387904) (hb : b < 4611686018427387904) : binI .or .i64 (a : Int) (b : Int) = some (.int .i64 ((a ||| b : Nat) : Int)) := by
 have h1 : (BitVec.ofInt 64 (a : Int)).toNat = a := by
  rw [BitVec.ofInt_natCast, BitVec.toNat_ofNat]; exact Nat.mod_eq_of_lt (by omega)
 have h2 : (BitVec.ofInt 64 (b : Int)).toNat = b := by
  rw [BitVec.ofInt_natCast, BitVec.toNat_ofNat]; exact Nat.mod_eq_of_lt (by omega)
 have h3 : a ||| b < 2 ^ 62 := Nat.or_lt_two_pow (by omega) (by omega)
 show some (Value.int .i64 (IntKind.i64.wrap ((BitVec.ofInt 64 (a : Int) ||| BitVec.ofInt 64 (b : Int)).toNat : Int))) = _
 rw [BitVec.toNat_or, h1, h2, wrap_of (by omega) (by omega)]
theorem or_next (f : Nat → Bool) (c : Nat) (h : f c = true) : sumBits f c ||| 2 ^ c = sumBits f (c + 1) := by
 have h2 := Nat.two_pow_add_eq_or_of_lt (sumBits_lt f c) 1
 rw [Nat.mul_one] at h2
 simp only [sumBits, h, if_true]
 rw [Nat.add_comm, h2, Nat.or_comm]
theorem or_skip (f : Nat → Bool) (c : Nat) (h : f c = false) : sumBits f c = sumBits f (c + 1) := by
 simp [sumBits, h]
theorem sumBits_le (f : Nat → Bool) {c : Nat} (hc : c ≤ 5) : sumBits f c < 32 := sumBits_lt32 f hc
def alwR (R C : List (Int × Int)) (i : Nat) : List Nat := (List.range i).map (alwB R C)
def nevR (R C : List (Int × Int)) (i : Nat) : List Nat := (List.range i).map (nevB R C)
theorem alwR_succ (R C : List (Int × Int)) (i : Nat) : alwR R C (i + 1) = alwR R C i ++ [alwB R C i] := by simp [alwR, List.range_succ]
theorem nevR_succ (R C : List (Int × Int)) (i : Nat) : nevR R C (i + 1) = nevR R C i ++ [nevB R C i] := by simp [nevR, List.range_succ]
theorem alwR_len (R C : List (Int × Int)) (i : Nat) : (alwR R C i).length = i := by simp [alwR]
theorem nevR_len (R C : List (Int × Int)) (i : Nat) : (nevR R C i).length = i := by simp [nevR]
abbrev nilM : MV := .lit (.slice none 0 0)
abbrev M4c (R C : List (Int × Int)) : MHeap := [⟨0, false, 2, [encS R C]⟩, ⟨0, false, 2, [.agg [nilM, nilM]]⟩, ⟨0, false, 2, [encS R C]⟩, ⟨0, false, 2, [.agg [nilM, nilM]]⟩]
abbrev M7c (R C : List (Int × Int)) (i : Nat) (G : MHeap) : MHeap := ⟨0, false, 2, [encS R C]⟩ :: ⟨0, false, 2, [.agg [nilM, nilM]]⟩ :: ⟨0, false, 2, [encS R C]⟩ :: ⟨0, false, 2, [.agg [.arr 5 0 i (i - 1), .arr 6 0 i (i - 1)]]⟩ :: ⟨0, false, 1, [I64 0]⟩ :: ⟨i - 1, false, 1, natL (alwR R C i)⟩ :: ⟨i - 1, false, 1, natL (nevR R C i)⟩ :: G
def MC7 (R C : List (Int × Int)) (i : Nat) (G : MHeap) : MHeap := if i = 0 then M4c R C else M7c R C i G
theorem finR2f {n : Nat} {x : MX2} {A : Sl} {h : MHeap} {r1 r2 : MRes} {cs : List MV} {v' w m : MV} (hx : outX x = true) (h1 : ResV A h r1 (.agg cs)) (h2 : ResV A h r2 w) (hf : frz 0 [] h 8 (.agg cs) = some v') (l2 : w.lt 0 = true) (hm : MV.tup [v', w] = m) : FinF [r1, r2] m [] x A h := by
 subst hm
 have hi : impIds 0 [.agg cs, w] = [] := by
  cases w <;> first | (simp [MV.lt] at l2; done) | rfl
 refine ⟨hx, [.agg cs, w], [v', w], ⟨.agg cs, [w], rfl, h1, w, [], rfl, h2, rfl⟩, by rw [hi]; simp, ?_, rfl⟩
 rw [hi]
 have hw : frz 0 [] h 8 w = some w := frz_lt l2
 cases w <;> first | (simp [MV.lt] at l2; done) | simp [expL, hf, hw]
theorem mf_Cert : MT.mf 9 = some ⟨63, [(.cell 2 (some 2)), (.tmp 3)], (.seq (.reg [gO 1 (.box 2 (.s 0)), gO 2 (.new (.agg [(.lit (.slice none 0 0)), (.lit (.slice none 0 0))])), gO 3 (.mv (cI 0))]) (.seq (.reg [gO 13 (.ld (some 2) (.s 1)), gO 14 (.call 18 [.s 13]), gO 12 (.mv (.s 14)), gO 15 (.ext (.s 12) 0), gO 16 (.ext (.s 12) 1), gO 4 (.new (.agg [(.lit (.slice none 0 0)), (.lit (.slice none 0 0))])), ⟨none, none, .st 2 (.s 4) (.s 15)⟩, gO 5 (.mv (.s 16))]) (.seq (.seq (.reg [gO 17 (.mv (.s 5)), gO 18 (.bin .neq (.s 17) (cI 0))]) (.cond (.s 18) (.seq (.reg [gO 19 (.build [(.lit (.slice none 0 0)), (.lit (.slice none 0 0))] []), gO 20 (.mv (.s 5)), ⟨none, none, .st 2 (.s 2) (.s 19)⟩, gO 3 (.mv (.s 20))]) .ret) .skip)) (.seq (.reg [gO 6 (.new (.agg [(.lit (.slice none 0 0)), (.lit (.slice none 0 0))]))]) (.seq (.seq (.reg [gO 21 (.fa 0 (.s 1)), gO 22 (.ld none (.s 21)), gO 23 (.len (.s 22)), gO 24 (.mv (cI 0))]) (.block 0 (.loop [24, 23, 1, 4, 6, 2] (.seq (.reg [gO 25 (.bin .lss (.s 24) (.s 23))]) (.seq (.cond (.s 25) .skip (.exit 0)) (.seq (.block 1 (.seq (.reg [gO 26 (.mv (.s 24)), gO 7 (.new (.lit (.int .i64 0))), ⟨none, none, .st 1 (.s 7) (.s 26)⟩]) (.seq (.reg [gO 8 (.mv (cI 0)), gO 9 (.mv (cI 0))]) (.seq (.seq (.reg [gO 27 (.fa 1 (.s 1)), gO 28 (.ld none (.s 27)), gO 29 (.len (.s 28)), gO 30 (.mv (cI 0))]) (.block 2 (.loop [30, 29, 4, 7, 8, 9, 6, 24, 23, 1, 2] (.seq (.reg [gO 31 (.bin .lss (.s 30) (.s 29))]) (.seq (.cond (.s 31) .skip (.exit 2)) (.seq (.block 3 (.seq (.reg [gO 32 (.mv (.s 30)), gO 10 (.new (.lit (.int .i64 0))), ⟨none, none, .st 1 (.s 10) (.s 32)⟩]) (.seq (.reg [gO 33 (.mf 25 0 [.s 4, .s 7, .s 10]), gO 11 (.mv (.s 33))]) (.seq (.seq (.reg [gO 34 (.mv (.s 11)), gO 35 (.callv (.s 34) [(cI 0)]), gO 36 (.un .not (.s 35))]) (.cond (.s 36) (.reg [gO 37 (.mv (.s 8)), gO 38 (.ld none (.s 10)), gO 39 (.shf .shl (cI 1) (.s 38)), gO 40 (.bin .or (.s 37) (.s 39)), gO 8 (.mv (.s 40))]) .skip)) (.seq (.reg [gO 41 (.mv (.s 11)), gO 42 (.callv (.s 41) [(cI 1)]), gO 43 (.un .not (.s 42))]) (.cond (.s 43) (.reg [gO 44 (.mv (.s 9)), gO 45 (.ld none (.s 10)), gO 46 (.shf .shl (cI 1) (.s 45)), gO 47 (.bin .or (.s 44) (.s 46)), gO 9 (.mv (.s 47))]) .skip)))))) (.reg [gO 48 (.bin .add (.s 30) (cI 1)), gO 30 (.mv (.s 48))]))))))) (.reg [gO 49 (.fa 0 (.s 6)), gO 50 (.ld none (.s 49)), gO 51 (.mv (.s 8)), gO 52 (.vsl (.lit (.int .i64 0)) 1 1 [(0, (.s 51))]), gO 53 (.app 1 (.s 50) (.s 52)), gO 54 (.fa 1 (.s 6)), gO 55 (.ld none (.s 54)), gO 56 (.mv (.s 9)), gO 57 (.vsl (.lit (.int .i64 0)) 1 1 [(0, (.s 56))]), gO 58 (.app 1 (.s 55) (.s 57)), gO 59 (.fa 0 (.s 6)), ⟨none, none, .st 1 (.s 59) (.s 53)⟩, gO 60 (.fa 1 (.s 6)), ⟨none, none, .st 1 (.s 60) (.s 58)⟩, ⟨none, none, .ne (.s 54) (.s 50)⟩]))))) (.reg [gO 61 (.bin .add (.s 24) (cI 1)), gO 24 (.mv (.s 61))]))))))) (.seq (.reg [gO 62 (.ld (some 2) (.s 6)), ⟨none, none, .st 2 (.s 2) (.s 62)⟩, gO 3 (.mv (cI 0))]) .ret))))))⟩ := by kernel_rfl
theorem Cert_row (k : Nat) (R C : List (Int × Int)) (hR : R.length ≤ 5) (hC : C.length ≤ 5) (M : MHeap) (i : Nat) (h2 : M[2]? = some ⟨0, false, 2, [encS R C]⟩) (hcl : hltL M.length M = true) (h4 : 4 ≤ M.length) (c : Nat) (d : Bool) (hc : c < 5) : orA (k + 7) 25 [I64 (if d then 1 else 0), .ptr 2 0 0 0, .ptr M.length 0 0 0, .ptr (M.length + 1) 0 0 0] (M ++ [⟨0, false, 1, [I64 i]⟩] ++ [⟨0, false, 1, [I64 c]⟩]) = some (Bo (possB R C (cellP i c d)), M ++ [⟨0, false, 1, [I64 i]⟩] ++ [⟨0, false, 1, [I64 c]⟩]) := by
 refine callL (args' := [I64 (if d then 1 else 0), .rp (encS R C) 0, .rp (I64 i) 0, .rp (I64 c) 0]) ?_ rfl (Cert1_z k R C i c d hR hC hc)
 have e2 : (M ++ [(⟨0, false, 1, [I64 i]⟩ : MObj)] ++ [⟨0, false, 1, [I64 c]⟩])[2]? = some ⟨0, false, 2, [encS R C]⟩ := by
  rw [List.append_assoc, List.getElem?_append_left (by omega), h2]
 have e3 : (M ++ [(⟨0, false, 1, [I64 i]⟩ : MObj)] ++ [⟨0, false, 1, [I64 c]⟩])[M.length]? = some ⟨0, false, 1, [I64 i]⟩ := by
  rw [List.append_assoc, List.getElem?_append_right (Nat.le_refl _)]; simp
 have e4 : (M ++ [(⟨0, false, 1, [I64 i]⟩ : MObj)] ++ [⟨0, false, 1, [I64 c]⟩])[M.length + 1]? = some ⟨0, false, 1, [I64 c]⟩ := by
  rw [List.append_assoc, List.getElem?_append_right (by omega)]; simp
 have hle := encS_lt 0 R C
 generalize (M ++ [(⟨0, false, 1, [I64 i]⟩ : MObj)] ++ [⟨0, false, 1, [I64 c]⟩]) = H at *
 have p : ∀ id e, H[id]? = some ⟨0, false, e.cells.length, [e]⟩ → e.lt 0 = true → frz 0 [] H 8 (.ptr id 0 0 0) = some (.rp e 0) := fun id e h1 h2 => by
  simp only [frz, MV.lt, Nat.not_lt_zero, decide_false, Bool.false_eq_true, if_false, h1]
  simp [h2]
 simp only [List.mapM_cons, List.mapM_nil, p 2 (encS R C) e2 hle, p M.length (I64 i) e3 rfl, p (M.length + 1) (I64 c) e4 rfl, frz_lt (m := I64 (if d then 1 else 0)) rfl]
 rfl
set_option maxHeartbeats 2000000 in
theorem Cert_z (k : Nat) (R C : List (Int × Int)) (hR : R.length ≤ 100) (hC : C.length ≤ 100) : runZ MT (orA (k + 7)) (itA (k + 7)) 4000000 9 [encS R C] [] = some (.tup [if opnE R C = 0 then .agg [.sl (natL (alwR R C R.length)), .sl (natL (nevR R C R.length))] else .agg [nilM, nilM], I64 (opnE R C)], []) := by
 refine runZ_of mf_Cert (by simp) ?_
 simp only [argsL]
 have hop := openS_c k R C hR hC
 have hs1 : (MV.sl (R.map encP)).slen = some R.length := by simp [MV.slen]
 have hs2 : (MV.sl (C.map encP)).slen = some C.length := by simp [MV.slen]
 by_cases h0 : opnE R C = 0
 ·obtain ⟨hb, hv⟩ := opn_zero h0
  rw [if_pos h0]
  generalize opnE R C = e at *
  subst h0
  have hR5 := hv.r5
  have hC5 := hv.c5
  have hR1 := hv.r1
  repeat (first | apply ef_seq | (apply ef_mv; exact rfl; exact rfl) | (apply ef_bin; (iterate 3 exact rfl); (exact cmp_f rfl (by simp only [cmpP]; omega))) | (apply ef_len; exact rfl; exact rfl; (assumption)) | (apply ef_ldp; exact rfl; exact rfl; (exact rfl); exact rfl; (exact rfl); (first | exact rd_2 rfl rfl | exact rfl)) | (apply ef_fap; exact rfl; exact rfl) | (apply ef_ext; (iterate 3 exact rfl)) | (apply ef_box; (iterate 4 exact rfl)) | (apply ef_newst; (iterate 3 exact rfl); (exact rfl); exact rfl) | (apply ef_new; exact rfl) | apply ef_nil | apply seqQ.normal | apply ef_block | apply ef_skip | (apply ef_condf; exact rfl; (exact (rfl : false = false))) | (apply ef_call; exact rfl; ((repeat (apply XVs.cons; exact rfl)); exact XVs.nil); (with_reducible exact hop _)))
  refine ef_loopg (α := Nat × MHeap) (fun a => a.1 ≤ R.length ∧ hltL (MC7 R C a.1 a.2).length (MC7 R C a.1 a.2) = true) (fun a => [(24, I64 (a.1 : Int))]) [(23, I64 (R.length : Int)), (1, .ptr 0 0 0 0), (4, .ptr 2 0 0 0), (6, .ptr 3 0 0 0), (2, .ptr 1 0 0 0)] (fun a => MC7 R C a.1 a.2) (fun a => R.length - a.1) (0, []) [24] (fun _ => rfl) (by ((repeat (refine Hold.cons (by exact rfl) ?_)); exact Hold.nil)) (by ((repeat (refine Hold.cons (by exact rfl) ?_)); exact Hold.nil)) rfl rfl rfl ⟨by omega, ?_⟩ (by simp; omega) ?_
  ·show hltL 4 (M4c R C) = true
   simp only [hltL, List.all_cons, List.all_nil, ltL, encS_lt, Bool.and_true, Bool.true_and]
   rfl
  rintro ⟨i, G⟩ ⟨hi, hcl⟩
  simp only at hi hcl
  obtain ⟨M, hM⟩ : ∃ M, M = MC7 R C i G := ⟨_, rfl⟩
  have hMl : 4 ≤ M.length := by rw [hM]; unfold MC7; split <;> simp
  have m0 : M[0]? = some ⟨0, false, 2, [encS R C]⟩ := by rw [hM]; unfold MC7; split <;> rfl
  have m1 : M[1]? = some ⟨0, false, 2, [.agg [nilM, nilM]]⟩ := by rw [hM]; unfold MC7; split <;> rfl
  have m2 : M[2]? = some ⟨0, false, 2, [encS R C]⟩ := by rw [hM]; unfold MC7; split <;> rfl
  have HM := Lib.hid hM
  simp only [← hM] at hcl ⊢
  clear hM
  by_cases hlt : i < R.length
  ·have t0 : ∀ c, (M ++ [(⟨0, false, 1, [c]⟩ : MObj)])[0]? = some ⟨0, false, 2, [encS R C]⟩ := fun c => by rw [List.getElem?_append_left (by omega), m0]
   have t0' := t0 (I64 i)
   have hrow := Cert_row k R C hR5 hC5 M i m2 hcl hMl
   repeat (first | apply ef_seq | (apply ef_mv; exact rfl; exact rfl) | (apply ef_bin; (iterate 3 exact rfl); (exact cmp_t rfl (by first | exact rfl | (simp only [cmpP]; omega)))) | (apply ef_len; exact rfl; exact rfl; (assumption)) | (apply ef_ldp; exact rfl; exact rfl; (assumption); exact rfl; (exact rfl); (exact rfl)) | (apply ef_fap; exact rfl; exact rfl) | (apply ef_newst; (iterate 3 exact rfl); (exact rfl); exact rfl) | apply ef_nil | apply seqQ.normal | apply ef_block | apply ef_skip | (apply ef_condt; exact rfl; (exact (rfl : true = true))))
   have hHc : hltL (M.length + 1) (M ++ [(⟨0, false, 1, [I64 (i : Int)]⟩ : MObj)]) = true := by
    have h1 := hltL_le (show M.length ≤ M.length + 1 by omega) hcl
    unfold hltL at *
    rw [List.all_append, h1]; rfl
   have hHl : (M ++ [(⟨0, false, 1, [I64 (i : Int)]⟩ : MObj)]).length = M.length + 1 := by simp
   have hHl2 : (M ++ [(⟨0, false, (MV.lit (Value.int IntKind.i64 0)).cells.length, [I64 (i : Int)]⟩ : MObj)]).length = M.length + 1 := by simp
   refine ef_loopg (α := Nat × Nat × Nat) (fun a => a.1 ≤ C.length ∧ a.2.1 = sumBits (fun k => !possB R C (cellP i k false)) a.1 ∧ a.2.2 = sumBits (fun k => !possB R C (cellP i k true)) a.1) (fun a => [(30, I64 (a.1 : Int)), (8, I64 (a.2.1 : Int)), (9, I64 (a.2.2 : Int))]) [(29, I64 (C.length : Int)), (4, .ptr 2 0 0 0), (7, .ptr M.length 0 0 0), (6, .ptr 3 0 0 0), (24, I64 (i : Int)), (23, I64 (R.length : Int)), (1, .ptr 0 0 0 0), (2, .ptr 1 0 0 0)] (fun _ => M ++ [(⟨0, false, 1, [I64 (i : Int)]⟩ : MObj)]) (fun a => C.length - a.1) (0, 0, 0) [30, 8, 9] (fun _ => rfl) (by ((repeat (refine Hold.cons (by exact rfl) ?_)); exact Hold.nil)) (by ((repeat (refine Hold.cons (by exact rfl) ?_)); exact Hold.nil)) rfl rfl rfl ⟨by omega, rfl, rfl⟩ (by simp; omega) ?_
   rintro ⟨c, al, ne⟩ ⟨hc, hal, hne⟩
   simp only at hc hal hne
   by_cases hc2 : c < C.length
   ·have hl1 := sumBits_le (fun k => !possB R C (cellP i k false)) (c := c) (by omega)
    have hl2 := sumBits_le (fun k => !possB R C (cellP i k true)) (c := c) (by omega)
    rw [← hal] at hl1
    rw [← hne] at hl2
    have hpw := pow_le5 c (by omega)
    have o1 := or_i64 al (2 ^ c) (by omega) (by omega)
    have o2 := or_i64 ne (2 ^ c) (by omega) (by omega)
    have o3 := shl_n c (by omega)
    have p1 := hrow c false (by omega)
    have p2 := hrow c true (by omega)
    have n1 := or_next (fun k => !possB R C (cellP i k false)) c
    have n2 := or_next (fun k => !possB R C (cellP i k true)) c
    have s1 := or_skip (fun k => !possB R C (cellP i k false)) c
    have s2 := or_skip (fun k => !possB R C (cellP i k true)) c
    rw [← hal] at n1 s1
    rw [← hne] at n2 s2
    have N1 := Lib.hid n1
    have N2 := Lib.hid n2
    have S1 := Lib.hid s1
    have S2 := Lib.hid s2
    clear n1 n2 s1 s2 hal hne HM
    have tc : (M ++ [(⟨0, false, 1, [I64 (i : Int)]⟩ : MObj)] ++ [(⟨0, false, 1, [I64 (c : Int)]⟩ : MObj)])[M.length + 1]? = some ⟨0, false, 1, [I64 (c : Int)]⟩ := by
     rw [List.append_assoc, List.getElem?_append_right (by omega)]; simp
    have head : ∀ A, (∀ t ∈ [30, 29, 4, 7, 8, 9, 6, 24, 23, 1, 2], ∃ v, look A t = some v ∧ v.lt (M.length + 1) = true) → HeadIs [30, 29, 4, 7, 8, 9, 6, 24, 23, 1, 2] (M.length + 1) A (M ++ [(⟨0, false, 1, [I64 (i : Int)]⟩ : MObj)] ++ [(⟨0, false, 1, [I64 (c : Int)]⟩ : MObj)]) (M ++ [(⟨0, false, 1, [I64 (i : Int)]⟩ : MObj)]) := fun A hA => by
     have e1 : (M ++ [(⟨0, false, 1, [I64 (i : Int)]⟩ : MObj)] ++ [(⟨0, false, 1, [I64 (c : Int)]⟩ : MObj)]).take (M.length + 1) = M ++ [(⟨0, false, 1, [I64 (i : Int)]⟩ : MObj)] := by
      rw [← hHl, List.take_left]
     conv => arg 5; rw [← e1]
     exact .cut hA (by rw [e1]; exact hHc)
    repeat (first | apply ef_seq | (apply ef_mv; exact rfl; exact rfl) | (apply ef_bin; (iterate 3 exact rfl); (exact cmp_t rfl (by first | exact rfl | (simp only [cmpP]; omega)))) | (apply ef_newst; (iterate 3 exact rfl); (exact rfl); exact rfl) | (apply ef_mf; exact rfl; (repeat (apply XVs.cons; exact rfl)); exact XVs.nil) | apply ef_nil | apply seqQ.normal | apply ef_block | apply ef_skip | (apply ef_condt; exact rfl; (exact (rfl : true = true))))
    rw [hHl]
    cases q1 : possB R C (cellP i c false) <;> cases q2 : possB R C (cellP i c true) <;> rw [q1] at p1 <;> rw [q2] at p2
    all_goals repeat (fail)
    all_goals (apply ef_callv; (· exact rfl); (· exact rfl); (· ((repeat (apply XVs.cons; exact rfl)); exact XVs.nil)); (· exact rfl); (· exact p1))
    all_goals repeat (first | apply ef_seq | (apply ef_mv; exact rfl; exact rfl) | (apply ef_bin; (iterate 3 exact rfl); (assumption)) | (apply ef_ldp; exact rfl; exact rfl; (assumption); exact rfl; (exact rfl); (exact rfl)) | (apply ef_notT; exact rfl; exact rfl) | (apply ef_notF; exact rfl; exact rfl) | (apply ef_shf; (iterate 3 exact rfl); (assumption)) | apply ef_nil | apply seqQ.normal | apply ef_skip | (apply ef_condt; exact rfl; (exact (rfl : true = true))) | (apply ef_condf; exact rfl; (exact (rfl : false = false))))
    all_goals (apply ef_callv; (· exact rfl); (· exact rfl); (· ((repeat (apply XVs.cons; exact rfl)); exact XVs.nil)); (· exact rfl); (· exact p2))
    all_goals repeat (first | (apply ef_mv; exact rfl; exact rfl) | (apply ef_bin; (iterate 3 exact rfl); (first | assumption | ((with_reducible refine bin_add (wrap_of ?_ ?_)) <;> omega))) | (apply ef_ldp; exact rfl; exact rfl; (assumption); exact rfl; (exact rfl); (exact rfl)) | (apply ef_notT; exact rfl; exact rfl) | (apply ef_notF; exact rfl; exact rfl) | (apply ef_shf; (iterate 3 exact rfl); (assumption)) | apply ef_nil | apply seqQ.normal | apply blockQ.normal | apply ef_skip | (apply ef_condt; exact rfl; (exact (rfl : true = true))) | (apply ef_condf; exact rfl; (exact (rfl : false = false))))
    ·refine loopQ.normal _ _ ⟨(c + 1, al ||| 2 ^ c, ne ||| 2 ^ c), ⟨hc2, N1.out (by rw [q1]; rfl), N2.out (by rw [q2]; rfl)⟩, by simp only; omega, ⟨by ((repeat (refine Hold.cons (by exact rfl) ?_)); exact Hold.nil), by ((repeat (refine Hold.cons (by exact rfl) ?_)); exact Hold.nil)⟩, ?_⟩
     rw [hHl2]
     refine head _ fun t ht => ?_
     simp only [List.mem_cons, List.not_mem_nil, or_false] at ht
     rcases ht with rfl | rfl | rfl | rfl | rfl | rfl | rfl | rfl | rfl | rfl | rfl <;> exact ⟨_, rfl, by first | rfl | (simp only [MV.lt, decide_eq_true_eq]; omega)⟩
    ·refine loopQ.normal _ _ ⟨(c + 1, al ||| 2 ^ c, ne), ⟨hc2, N1.out (by rw [q1]; rfl), S2.out (by rw [q2]; rfl)⟩, by simp only; omega, ⟨by ((repeat (refine Hold.cons (by exact rfl) ?_)); exact Hold.nil), by ((repeat (refine Hold.cons (by exact rfl) ?_)); exact Hold.nil)⟩, ?_⟩
     rw [hHl2]
     refine head _ fun t ht => ?_
     simp only [List.mem_cons, List.not_mem_nil, or_false] at ht
     rcases ht with rfl | rfl | rfl | rfl | rfl | rfl | rfl | rfl | rfl | rfl | rfl <;> exact ⟨_, rfl, by first | rfl | (simp only [MV.lt, decide_eq_true_eq]; omega)⟩
    ·refine loopQ.normal _ _ ⟨(c + 1, al, ne ||| 2 ^ c), ⟨hc2, S1.out (by rw [q1]; rfl), N2.out (by rw [q2]; rfl)⟩, by simp only; omega, ⟨by ((repeat (refine Hold.cons (by exact rfl) ?_)); exact Hold.nil), by ((repeat (refine Hold.cons (by exact rfl) ?_)); exact Hold.nil)⟩, ?_⟩
     rw [hHl2]
     refine head _ fun t ht => ?_
     simp only [List.mem_cons, List.not_mem_nil, or_false] at ht
     rcases ht with rfl | rfl | rfl | rfl | rfl | rfl | rfl | rfl | rfl | rfl | rfl <;> exact ⟨_, rfl, by first | rfl | (simp only [MV.lt, decide_eq_true_eq]; omega)⟩
    ·refine loopQ.normal _ _ ⟨(c + 1, al, ne), ⟨hc2, S1.out (by rw [q1]; rfl), S2.out (by rw [q2]; rfl)⟩, by simp only; omega, ⟨by ((repeat (refine Hold.cons (by exact rfl) ?_)); exact Hold.nil), by ((repeat (refine Hold.cons (by exact rfl) ?_)); exact Hold.nil)⟩, ?_⟩
     rw [hHl2]
     refine head _ fun t ht => ?_
     simp only [List.mem_cons, List.not_mem_nil, or_false] at ht
     rcases ht with rfl | rfl | rfl | rfl | rfl | rfl | rfl | rfl | rfl | rfl | rfl <;> exact ⟨_, rfl, by first | rfl | (simp only [MV.lt, decide_eq_true_eq]; omega)⟩
   ·obtain rfl : c = C.length := by omega
    have hal2 : al = alwB R C i := hal
    have hne2 : ne = nevB R C i := hne
    clear hal hne
    have A1 := Lib.hid (alwR_succ R C i)
    have A2 := Lib.hid (nevR_succ R C i)
    have L1 := Lib.hid (alwR_len R C i)
    have L2 := Lib.hid (nevR_len R C i)
    subst hal2 hne2
    have c4 : ∀ (i : Nat) (G : MHeap), hltL (M7c R C (i + 1) G).length (M7c R C (i + 1) G) = (hltL (G.length + 7) G) := fun i G => by
     simp only [hltL, List.all_cons, ltL, MV.lt, encP_lt, natL_lt, Bool.and_true, Bool.true_and, List.length_cons]
     simp
    cases i with
    | zero =>
     have hM := HM.out
     have hM : M = M4c R C := hM
     subst hM
     repeat (first | apply ef_seq | (apply ef_mv; exact rfl; exact rfl) | (apply ef_bin; (iterate 3 exact rfl); (exact cmp_f rfl (by simp only [cmpP]; omega))) | (apply ef_ldp; exact rfl; exact rfl; (exact rfl); exact rfl; (exact rfl); (exact rfl)) | (apply ef_fap; exact rfl; exact rfl) | (apply ef_vsl; exact rfl; (repeat (apply XVs.cons; exact rfl)); exact XVs.nil; exact rfl; exact rfl) | apply ef_nil | apply seqQ.normal | apply loopQ.exit | apply ef_exit | apply seqQ.exit | apply blockQ.here | (apply ef_condf; exact rfl; (exact (rfl : false = false))))
     (apply ef_appn; (· exact rfl); (· exact rfl); (· exact rfl); (· exact rfl); (· simp); (· exact rfl))
     repeat (first | (apply ef_mv; exact rfl; exact rfl) | (apply ef_ldp; exact rfl; exact rfl; (exact rfl); exact rfl; (exact rfl); (exact rfl)) | (apply ef_fap; exact rfl; exact rfl) | (apply ef_vsl; exact rfl; (repeat (apply XVs.cons; exact rfl)); exact XVs.nil; exact rfl; exact rfl))
     (apply ef_appn; (· exact rfl); (· exact rfl); (· exact rfl); (· exact rfl); (· simp); (· exact rfl))
     repeat (first | (apply ef_mv; exact rfl; exact rfl) | (apply ef_bin; (iterate 3 exact rfl); (((with_reducible refine bin_add (wrap_of ?_ ?_)) <;> omega))) | (apply ef_fap; exact rfl; exact rfl) | (apply ef_ne; exact rfl; exact rfl; (exact rfl)) | (apply ef_st; (iterate 6 exact rfl); (exact rfl); (exact rfl)) | apply ef_nil | apply seqQ.normal | apply blockQ.normal)
     refine loopQ.normal _ _ ⟨(1, []), ⟨hR1, by show hltL (M7c R C 1 []).length (M7c R C 1 []) = true; rw [c4]; rfl⟩, by simp only; omega, ⟨by ((repeat (refine Hold.cons (by exact rfl) ?_)); exact Hold.nil), by ((repeat (refine Hold.cons (by exact rfl) ?_)); exact Hold.nil)⟩, ?_⟩
     have e1 : MC7 R C 1 [] = M7c R C 1 [] := rfl
     have e2 : alwR R C 1 = [alwB R C 0] := rfl
     have e3 : nevR R C 1 = [nevB R C 0] := rfl
     rw [e1]
     simp only [M7c, e2, e3]
     refine .cell ?_
     simp [hltL, ltL, MV.lt, encP_lt]
     rfl
    | succ i =>
     have hM := HM.out
     have hM : M = M7c R C (i + 1) G := hM
     subst hM
     rw [c4] at hcl
     have g1 : (natL (alwR R C (i + 1))).length = i + 1 := by rw [List.length_map]; exact L1.out
     have g2 : (natL (nevR R C (i + 1))).length = i + 1 := by rw [List.length_map]; exact L2.out
     repeat (first | apply ef_seq | (apply ef_mv; exact rfl; exact rfl) | (apply ef_bin; (iterate 3 exact rfl); (exact cmp_f rfl (by simp only [cmpP]; omega))) | (apply ef_ldp; exact rfl; exact rfl; (exact rfl); exact rfl; (exact rfl); (exact rfl)) | (apply ef_fap; exact rfl; exact rfl) | (apply ef_vsl; exact rfl; (repeat (apply XVs.cons; exact rfl)); exact XVs.nil; exact rfl; exact rfl) | apply ef_nil | apply seqQ.normal | apply loopQ.exit | apply ef_exit | apply seqQ.exit | apply blockQ.here | (apply ef_condf; exact rfl; (exact (rfl : false = false))))
     (apply ef_app; (· exact rfl); (· exact rfl); (· exact rfl); (· exact rfl); (· exact rfl); (· exact rfl); (· (simp [g1])); (· exact rfl); (· (simp [g1]; omega)); (· (rfl)); (· exact rfl))
     repeat (first | (apply ef_mv; exact rfl; exact rfl) | (apply ef_ldp; exact rfl; exact rfl; (exact rfl); exact rfl; (exact rfl); (exact rfl)) | (apply ef_fap; exact rfl; exact rfl) | (apply ef_vsl; exact rfl; (repeat (apply XVs.cons; exact rfl)); exact XVs.nil; exact rfl; exact rfl))
     (apply ef_app; (· exact rfl); (· exact rfl); (· exact rfl); (· exact rfl); (· exact rfl); (· exact rfl); (· (simp [g2])); (· exact rfl); (· (simp [g2]; omega)); (· (rfl)); (· exact rfl))
     repeat (first | (apply ef_mv; exact rfl; exact rfl) | (apply ef_bin; (iterate 3 exact rfl); (((with_reducible refine bin_add (wrap_of ?_ ?_)) <;> omega))) | (apply ef_fap; exact rfl; exact rfl) | (apply ef_ne; exact rfl; exact rfl; (exact rfl)) | (apply ef_st; (iterate 6 exact rfl); (exact rfl); (exact rfl)) | apply ef_nil | apply seqQ.normal | apply blockQ.normal)
     refine loopQ.normal _ _ ⟨(i + 2, G ++ [⟨0, false, 1, [I64 ((i + 1 : Nat) : Int)]⟩]), ⟨hlt, ?_⟩, by simp only; omega, ⟨by ((repeat (refine Hold.cons (by exact rfl) ?_)); exact Hold.nil), by ((repeat (refine Hold.cons (by exact rfl) ?_)); exact Hold.nil)⟩, ?_⟩
     ·show hltL (M7c R C (i + 1 + 1) _).length (M7c R C (i + 1 + 1) _) = true
      rw [c4]
      have h1 := hltL_le (show G.length + 7 ≤ (G ++ [(⟨0, false, 1, [I64 ((i + 1 : Nat) : Int)]⟩ : MObj)]).length + 7 by simp) hcl
      unfold hltL at *
      rw [List.all_append, h1]; rfl
     ·have e1 : ∀ G, MC7 R C (i + 2) G = M7c R C (i + 2) G := fun _ => rfl
      rw [e1]
      simp only [M7c, A1.out, A2.out, List.map_append, List.map_cons, List.map_nil]
      refine .cell ?_
      simp [hltL, ltL, MV.lt, encP_lt]
      rfl
  ·obtain rfl : i = R.length := by omega
   obtain ⟨n, hn⟩ : ∃ n, R.length = n + 1 := ⟨R.length - 1, by omega⟩
   have hM := HM.out
   unfold MC7 at hM
   rw [if_neg (by omega)] at hM
   have L1 := alwR_len R C R.length
   have L2 := nevR_len R C R.length
   have z1 := natL_lt 0 (alwR R C R.length)
   have z2 := natL_lt 0 (nevR R C R.length)
   subst hM
   repeat (first | apply ef_seq | (apply ef_mv; exact rfl; exact rfl) | (apply ef_bin; (iterate 3 exact rfl); (exact cmp_f rfl (by simp only [cmpP]; omega))) | (apply ef_ldp; exact rfl; exact rfl; (exact rfl); exact rfl; (exact rfl); (exact rd_2 rfl rfl)) | (apply ef_st; (iterate 6 exact rfl); (exact rfl); (exact rfl)) | apply ef_nil | apply seqQ.normal | apply loopQ.exit | apply ef_ret | apply ef_exit | apply seqQ.exit | apply blockQ.here | (apply ef_condf; exact rfl; (exact (rfl : false = false))))
   refine finR2f (n := 0) (cs := [.arr 5 0 R.length (R.length - 1), .arr 6 0 R.length (R.length - 1)]) (w := I64 0) (v' := .agg [.sl (natL (alwR R C R.length)), .sl (natL (nevR R C R.length))]) rfl ?_ (by exact rfl) ?_ rfl rfl
   ·apply resC <;> exact rfl
   ·have k1 : (natL (alwR R C R.length)).take R.length = natL (alwR R C R.length) := by rw [List.take_of_length_le (by rw [List.length_map, L1]; exact Nat.le_refl _)]
    have k2 : (natL (nevR R C R.length)).take R.length = natL (nevR R C R.length) := by rw [List.take_of_length_le (by rw [List.length_map, L2]; exact Nat.le_refl _)]
    simp [frz, MV.lt, ltL, z1, z2, k1, k2, L1, L2]
 ·rw [if_neg h0]
  generalize opnE R C = e at *
  repeat (first | apply ef_seq | (apply ef_mv; exact rfl; exact rfl) | (apply ef_bin; (iterate 3 exact rfl); (exact cmp_t rfl (by first | exact rfl | (simp only [cmpP]; omega)))) | (apply ef_ldp; exact rfl; exact rfl; (exact rfl); exact rfl; (exact rfl); (exact rd_2 rfl rfl)) | (apply ef_ext; (iterate 3 exact rfl)) | (apply ef_box; (iterate 4 exact rfl)) | (apply ef_newst; (iterate 3 exact rfl); (exact rfl); exact rfl) | (apply ef_new; exact rfl) | (apply ef_build; exact rfl; (repeat (apply XVs.cons; exact rfl)); exact XVs.nil; exact rfl; exact rfl) | (apply ef_st; (iterate 6 exact rfl); (exact rfl); (exact rfl)) | apply ef_nil | apply seqQ.normal | apply ef_ret | apply seqQ.ret | (apply ef_condt; exact rfl; (exact (rfl : true = true))) | (apply ef_call; exact rfl; ((repeat (apply XVs.cons; exact rfl)); exact XVs.nil); (with_reducible exact hop _)))
  refine finR2 (v := .agg [nilM, nilM]) (w := I64 e) rfl ?_ (by exact rfl) rfl rfl rfl
  apply resC <;> exact rfl
theorem Cert_c (k : Nat) (R C : List (Int × Int)) (hR : R.length ≤ 100) (hC : C.length ≤ 100) (h : MHeap) : orA (k + 8) 9 [encS R C] h = some (.tup [if opnE R C = 0 then .agg [.sl (natL (alwR R C R.length)), .sl (natL (nevR R C R.length))] else .agg [nilM, nilM], I64 (opnE R C)], h) := by
 have hz := Cert_z k R C hR hC
 by_cases h0 : opnE R C = 0
 ·rw [if_pos h0] at hz ⊢
  have hl : (MV.agg [.sl (natL (alwR R C R.length)), .sl (natL (nevR R C R.length))]).lt 0 = true := by simp only [MV.lt, ltL, natL_lt, Bool.and_self]
  have := callA (k := k + 7) (h := h) (args := [encS R C]) (args' := [encS R C]) (frzL_lt (ltS0 R C)) rfl hz (by rw [ltS0]; show ((MV.lt 0 _ && true) && true) = true; rw [hl]; rfl) rfl
  rw [List.append_nil] at this
  exact this
 ·rw [if_neg h0] at hz ⊢
  have := callA (k := k + 7) (h := h) (args := [encS R C]) (args' := [encS R C]) (frzL_lt (ltS0 R C)) rfl hz (by rw [ltS0]; rfl) rfl
  rw [List.append_nil] at this
  exact this
end Go.Proofs.YtnmgpbihknjdjaaDoor

/- Chapter 9: the first body, which bodies are accepted. -/
namespace Go.Proofs.YtnmgpbihknjdjaaDoor
open Go.RowKit
set_option linter.unusedVariables false
theorem Body_bad (k : Nat) (R C : List (Int × Int)) (hR : R.length ≤ 100) (hC : C.length ≤ 100) (h0 : opnE R C ≠ 0) : runZ MT (orA (k + 7)) (itA (k + 7)) 4000000 12 [encS R C] [] = some (.tup [.arr 0 0 0 0, I64 (opnE R C)], [⟨0, true, 1, []⟩]) := by
 refine runZ_of mf_body (by simp) ?_
 simp only [argsL]
 have hop := openS_c k R C hR hC
 generalize opnE R C = e at *
 repeat (first | apply ef_seq | (apply ef_mv; exact rfl; exact rfl) | (apply ef_bin; (iterate 3 exact rfl); (exact cmp_t rfl (by first | exact rfl | (simp only [cmpP]; omega)))) | (apply ef_ldp; exact rfl; exact rfl; (exact rfl); exact rfl; (exact rfl); (exact rd_2 rfl rfl)) | (apply ef_ext; (iterate 3 exact rfl)) | (apply ef_box; (iterate 4 exact rfl)) | (apply ef_newst; (iterate 3 exact rfl); (exact rfl); exact rfl) | (apply ef_nil0; exact rfl) | apply ef_nil | apply seqQ.normal | apply ef_ret | apply seqQ.ret | (apply ef_condt; exact rfl; (exact (rfl : true = true))) | (apply ef_call; exact rfl; ((repeat (apply XVs.cons; exact rfl)); exact XVs.nil); (with_reducible exact hop _)))
 exact fin_al (o := ⟨0, true, 1, []⟩) rfl (by exact rfl) (by exact rfl) rfl rfl rfl rfl rfl rfl rfl
theorem Body_ok (k : Nat) (R C : List (Int × Int)) (h0 : opnE R C = 0) : runZ MT (orA (k + 7)) (itA (k + 7)) 4000000 12 [encS R C] [] = some (.tup [.arr 0 0 R.length 0, I64 0], [⟨0, false, 1, natL (bodyB R C R.length)⟩]) := by
 obtain ⟨hb, hv⟩ := opn_zero h0
 have h5 := hv.r5
 have h6 := hv.c5
 refine body_z k R C hv.r5 hv.c5 (fun h => ?_) (body_picks (poss_any.1 hb)) hv.r1
 have := openS_c k R C (by omega) (by omega) h
 rw [h0] at this
 exact this
def bodyV (R C : List (Int × Int)) : List Nat := if opnE R C = 0 then bodyB R C R.length else []
theorem Body_c (k : Nat) (R C : List (Int × Int)) (hR : R.length ≤ 100) (hC : C.length ≤ 100) (h : MHeap) {v : MV} (hv : frz 0 [] h 8 v = some (encS R C)) : orA (k + 8) 12 [v] h = some (.tup [.arr h.length 0 (bodyV R C).length 0, I64 (opnE R C)], h ++ [⟨0, decide (opnE R C ≠ 0), 1, natL (bodyV R C)⟩]) := by
 have hp : pureL (natL (bodyV R C)) = true := natL_pure _
 by_cases h0 : opnE R C = 0
 ·have e1 : bodyV R C = bodyB R C R.length := if_pos h0
  have := callA (k := k + 7) (h := h) (args := [v]) (args' := [encS R C]) (by simp [List.mapM_cons, hv]) rfl (Body_ok k R C h0) (by simp [okV, ok1, MV.lt, MV.pure]) (by
   simp only [okH, List.all_cons, List.all_nil, Bool.and_true, natL_lt, Bool.true_and]; rw [Bool.or_eq_true]; exact .inr (natL_pure _))
  rw [e1, bodyB_len, h0]
  simpa [shV, sh1] using this
 ·have e1 : bodyV R C = [] := if_neg h0
  have := callA (k := k + 7) (h := h) (args := [v]) (args' := [encS R C]) (by simp [List.mapM_cons, hv]) rfl (Body_bad k R C hR hC h0) (by simp [okV, ok1, MV.lt, MV.pure]) (by
   simp only [okH, List.all_cons, List.all_nil, Bool.and_true, ltL, Bool.true_and]; rw [Bool.or_eq_true]; exact .inr rfl)
  rw [e1]
  simpa [shV, sh1, h0] using this
theorem sumV_snoc (w : List Nat) (s : Nat) : sumV (w ++ [s]) = plusV s 0 (sumV w) := by
 refine List.ext_getElem? fun k => ?_
 by_cases h : k < 5
 ·rw [sumV_get _ k h, plusV_get, sumV_get _ k h, colS_app, Nat.zero_add]
  simp [colS]
 ·rw [List.getElem?_eq_none (by rw [sumV_len]; omega), List.getElem?_eq_none (by rw [plusV_len, sumV_len]; omega)]
theorem sumV_le {w : List Nat} (hl : w.length ≤ 100) : ∀ x ∈ sumV w, 0 ≤ x ∧ x ≤ (100 : Nat) := fun x hx => by
 rw [sumV_eq] at hx
 simp only [List.mem_cons, List.not_mem_nil, or_false] at hx
 have h0 := colS_le w 0
 have h1 := colS_le w 1
 have h2 := colS_le w 2
 have h3 := colS_le w 3
 have h4 := colS_le w 4
 rcases hx with rfl | rfl | rfl | rfl | rfl <;> omega
def rowE (n : Nat) (r : Int × Int) (x : Int) : Int := if inB x 0 ((2 ^ n : Nat) - 1 : Int) then (if inB (pc x.toNat) r.1 r.2 then 0 else 22) else 2
def colE (w : List Nat) (k : Nat) (c : Int × Int) : Int := if inB (colS w k) c.1 c.2 then 0 else 22
def chkB (R C : List (Int × Int)) (b : List Int) : Int × Int :=
 if b.length ≠ R.length then (0, 10)
 else if (firG (fun i => rowE C.length (R.getD i (0, 0))) 0 b).2 ≠ 0 then firG (fun i => rowE C.length (R.getD i (0, 0))) 0 b
 else if (firG (colE (b.map Int.toNat)) 0 C).2 ≠ 0 then firG (colE (b.map Int.toNat)) 0 C
 else (volS (b.map Int.toNat), 0)
def chkBE (R C : List (Int × Int)) (b : List Int) : Int × Int := if (chkS R C).2 ≠ 0 then (0, (chkS R C).2) else chkB R C b
theorem mf_ChkB : MT.mf 13 = some ⟨92, [(.tmp 4), (.tmp 5)], (.seq (.reg [gO 2 (.box 2 (.s 0)), gO 4 (.mv (cI 0)), gO 5 (.mv (cI 0))]) (.seq (.reg [gO 15 (.ld (some 2) (.s 2)), gO 16 (.call 31 [.s 15]), gO 14 (.mv (.s 16)), gO 17 (.ext (.s 14) 0), gO 18 (.ext (.s 14) 1), gO 6 (.mv (.s 17)), gO 7 (.mv (.s 18))]) (.seq (.seq (.reg [gO 19 (.mv (.s 7)), gO 20 (.mv (.s 1)), gO 21 (.len (.s 20)), gO 22 (.fa 0 (.s 2)), gO 23 (.ld none (.s 22)), gO 24 (.len (.s 23)), gO 25 (.bin .eql (.s 21) (.s 24)), gO 26 (.call 33 [.s 25, (cI 10)]), gO 27 (.bsl (.lit (.int .i64 0)) 1 2 [(0, (.s 19)), (1, (.s 26))]), gO 28 (.call 32 [.s 27]), gO 7 (.mv (.s 28))]) (.seq (.reg [gO 29 (.mv (.s 7)), gO 30 (.bin .neq (.s 29) (cI 0))]) (.cond (.s 30) (.seq (.reg [gO 31 (.mv (.s 7)), gO 4 (.mv (cI 0)), gO 5 (.mv (.s 31))]) .ret) .skip))) (.seq (.reg [gO 8 (.new (.agg [(.lit (.int .i64 0)), (.lit (.int .i64 0)), (.lit (.int .i64 0)), (.lit (.int .i64 0)), (.lit (.int .i64 0))]))]) (.seq (.seq (.reg [gO 32 (.mv (.s 1)), gO 33 (.len (.s 32)), gO 34 (.mv (cI 0))]) (.block 0 (.loop [34, 33, 32, 2, 8] (.seq (.reg [gO 35 (.bin .lss (.s 34) (.s 33))]) (.seq (.cond (.s 35) .skip (.exit 0)) (.seq (.block 1 (.seq (.reg [gO 36 (.mv (.s 34)), gO 37 (.ia 1 (.s 32) (.s 34)), gO 38 (.ld none (.s 37)), gO 9 (.mv (.s 36)), gO 10 (.mv (.s 38))]) (.seq (.seq (.reg [gO 39 (.mv (.s 10)), gO 40 (.fa 1 (.s 2)), gO 41 (.ld none (.s 40)), gO 42 (.len (.s 41)), gO 43 (.shf .shl (cI 1) (.s 42)), gO 44 (.bin .sub (.s 43) (cI 1)), gO 45 (.call 34 [.s 39, (cI 0), .s 44]), gO 46 (.un .not (.s 45))]) (.cond (.s 46) (.seq (.reg [gO 47 (.mv (.s 9)), gO 4 (.mv (.s 47)), gO 5 (.mv (cI 2))]) .ret) .skip)) (.seq (.seq (.reg [gO 48 (.mv (.s 10)), gO 49 (.cv .u64 (.s 48)), gO 50 (.call 35 [.s 49]), gO 11 (.mv (.s 50))]) (.seq (.reg [gO 51 (.mv (.s 11)), gO 52 (.fa 0 (.s 2)), gO 53 (.ld none (.s 52)), gO 54 (.mv (.s 9)), gO 55 (.ia 2 (.s 53) (.s 54)), gO 56 (.fa 0 (.s 55)), gO 57 (.ld none (.s 56)), gO 58 (.fa 0 (.s 2)), gO 59 (.ld none (.s 58)), gO 60 (.mv (.s 9)), gO 61 (.ia 2 (.s 59) (.s 60)), gO 62 (.fa 1 (.s 61)), gO 63 (.ld none (.s 62)), gO 64 (.call 34 [.s 51, .s 57, .s 63]), gO 65 (.un .not (.s 64))]) (.cond (.s 65) (.seq (.reg [gO 66 (.mv (.s 9)), gO 4 (.mv (.s 66)), gO 5 (.mv (cI 22))]) .ret) .skip))) (.reg [gO 67 (.ld (some 5) (.s 8)), gO 68 (.mv (.s 10)), gO 69 (.call 36 [.s 67, .s 68]), ⟨none, none, .st 5 (.s 8) (.s 69)⟩]))))) (.reg [gO 70 (.bin .add (.s 34) (cI 1)), gO 34 (.mv (.s 70))]))))))) (.seq (.seq (.reg [gO 71 (.fa 1 (.s 2)), gO 72 (.ld none (.s 71)), gO 73 (.len (.s 72)), gO 74 (.mv (cI 0))]) (.block 2 (.loop [74, 73, 72, 8] (.seq (.reg [gO 75 (.bin .lss (.s 74) (.s 73))]) (.seq (.cond (.s 75) .skip (.exit 2)) (.seq (.block 3 (.seq (.reg [gO 76 (.mv (.s 74)), gO 77 (.ia 2 (.s 72) (.s 74)), gO 78 (.ld (some 2) (.s 77)), gO 13 (.new (.agg [(.lit (.int .i64 0)), (.lit (.int .i64 0))])), gO 12 (.mv (.s 76)), ⟨none, none, .st 2 (.s 13) (.s 78)⟩]) (.seq (.reg [gO 79 (.mv (.s 12)), gO 80 (.iaa 1 5 (.s 8) (.s 79)), gO 81 (.ld none (.s 80)), gO 82 (.fa 0 (.s 13)), gO 83 (.ld none (.s 82)), gO 84 (.fa 1 (.s 13)), gO 85 (.ld none (.s 84)), gO 86 (.call 34 [.s 81, .s 83, .s 85]), gO 87 (.un .not (.s 86))]) (.cond (.s 87) (.seq (.reg [gO 88 (.mv (.s 12)), gO 4 (.mv (.s 88)), gO 5 (.mv (cI 22))]) .ret) .skip)))) (.reg [gO 89 (.bin .add (.s 74) (cI 1)), gO 74 (.mv (.s 89))]))))))) (.seq (.reg [gO 90 (.ld (some 5) (.s 8)), gO 91 (.call 22 [.s 90]), gO 4 (.mv (.s 91)), gO 5 (.mv (cI 0))]) .ret)))))))⟩ := by kernel_rfl
set_option maxHeartbeats 2000000 in
theorem ChkB_z (k : Nat) (R C : List (Int × Int)) (b : List Int) (hR : R.length ≤ 100) (hC : C.length ≤ 100) (hb : b.length ≤ 1000) : runZ MT (orA (k + 6)) (itA (k + 6)) 4000000 13 [encS R C, .sl (b.map I64)] [] = some (outI (chkBE R C b), []) := by
 refine runZ_of mf_ChkB (by simp) ?_
 simp only [argsL]
 have hs1 : (MV.sl (R.map encP)).slen = some R.length := by simp [MV.slen]
 have hs2 : (MV.sl (C.map encP)).slen = some C.length := by simp [MV.slen]
 have hs3 : (MV.sl (b.map I64)).slen = some b.length := by simp [MV.slen]
 have hck := ChkS_c k R C hR hC
 have hu := fun b n h => unless_c (k + 5) b n h rfl
 by_cases h0 : (chkS R C).2 = 0
 ·have hv := chkS_val h0
  have HE := Lib.hid (show chkBE R C b = chkB R C b from if_neg (by simp [h0]))
  have h5 := hv.r5
  have h6 := hv.c5
  generalize chkS R C = ck at *
  have hf0 : firstE [ck.2, 0] = 0 := by simp [firstE, h0]
  have hf1 : firstE [ck.2, 10] = 10 := by simp [firstE, h0]
  have hu1 := fun h => unless_c (k + 5) true 10 h (e := 0) rfl
  have hu2 := fun h => unless_c (k + 5) false 10 h (e := 10) rfl
  clear hu
  by_cases h1 : b.length = R.length
  ·have HB := Lib.hid (HE.out.trans (show chkB R C b = _ from if_neg (by simp [h1])))
   have hpw := pow_le5 C.length h6
   have hsh := shl_n C.length h6
   clear HE
   repeat (first | apply ef_seq | (apply ef_mv; exact rfl; exact rfl) | (apply ef_bin; (iterate 3 exact rfl); (first | exact cmp_t rfl (by first | exact rfl | (simp only [cmpP]; omega)) | exact cmp_f rfl (by simp only [cmpP]; omega))) | (apply ef_len; exact rfl; exact rfl; (assumption)) | (apply ef_ldp; exact rfl; exact rfl; (exact rfl); exact rfl; (exact rfl); (first | exact rd_2 rfl rfl | exact rfl)) | (apply ef_fap; exact rfl; exact rfl) | (apply ef_ext; (iterate 3 exact rfl)) | (apply ef_box; (iterate 4 exact rfl)) | (apply ef_new; exact rfl) | (apply ef_bsl; exact rfl; (repeat (apply XVs.cons; exact rfl)); exact XVs.nil; exact rfl) | apply ef_nil | apply seqQ.normal | apply ef_block | apply ef_skip | (apply ef_condf; exact rfl; (exact (rfl : false = false))) | (apply ef_call; exact rfl; ((repeat (apply XVs.cons; exact rfl)); exact XVs.nil); (with_reducible first | exact hck _ | exact hu1 _)) | (apply ef_call; exact rfl; ((repeat (apply XVs.cons; exact rfl)); exact XVs.nil); (with_reducible apply first2_c); (iterate 3 exact rfl); (assumption)))
   obtain ⟨w, hw⟩ : ∃ w, w = b.map Int.toNat := ⟨_, rfl⟩
   have hwl : w.length = b.length := by rw [hw, List.length_map]
   have HB2 := Lib.hid HB.out
   clear HB hck hu1 hu2 hf0 hf1
   refine ef_loopg (α := Nat × List Int) (fun a => a.1 ≤ b.length ∧ firG (fun i => rowE C.length (R.getD i (0, 0))) 0 b = firG (fun i => rowE C.length (R.getD i (0, 0))) a.1 (b.drop a.1) ∧ a.2 = sumV (w.take a.1)) (fun a => [(34, I64 (a.1 : Int))]) [(33, I64 (b.length : Int)), (32, .sl (b.map I64)), (2, .ptr 0 0 0 0), (8, .ptr 2 0 0 0)] (fun a => [⟨0, false, 2, [encS R C]⟩, ⟨0, false, 1, [I64 ck.2, I64 0]⟩, ⟨0, false, 5, [keyA a.2]⟩]) (fun a => b.length - a.1) (0, [0, 0, 0, 0, 0]) [34] (fun _ => rfl) (by ((repeat (refine Hold.cons (by exact rfl) ?_)); exact Hold.nil)) (by ((repeat (refine Hold.cons (by exact rfl) ?_)); exact Hold.nil)) rfl rfl rfl ⟨by omega, rfl, rfl⟩ (by simp; omega) ?_
   rintro ⟨i, acc⟩ ⟨hi, hz, hacc⟩
   simp only at hi hz hacc
   have ha5 : acc.length = 5 := by rw [hacc]; exact sumV_len _
   have hab : ∀ x ∈ acc, 0 ≤ x ∧ x ≤ (100 : Nat) := by rw [hacc]; exact sumV_le (by rw [List.length_take]; omega)
   by_cases hlt : i < b.length
   ·obtain ⟨x, hx⟩ : ∃ x, b[i]? = some x := ⟨b[i], by simp [hlt]⟩
    obtain ⟨r, hr⟩ : ∃ r, R[i]? = some r := ⟨R[i]'(by omega), by simp⟩
    have e1 : (b.map I64)[((i : Nat) : Int).toNat]? = some (I64 x) := by rw [Int.toNat_natCast, List.getElem?_map, hx]; rfl
    have e2 : (R.map encP)[((i : Nat) : Int).toNat]? = some (encP r) := by rw [Int.toNat_natCast, List.getElem?_map, hr]; rfl
    have HD : b.drop i = x :: b.drop (i + 1) := by
     obtain ⟨q1, q2⟩ := List.getElem?_eq_some_iff.1 hx
     rw [← q2]; exact List.drop_eq_getElem_cons q1
    have HG : firG (fun i => rowE C.length (R.getD i (0, 0))) 0 b = if rowE C.length r x = 0 then firG (fun i => rowE C.length (R.getD i (0, 0))) (i + 1) (b.drop (i + 1)) else (i, rowE C.length r x) := by
     rw [hz, HD, firG, getD_some hr]
    have HE : rowE C.length r x = if inB x 0 ((2 ^ C.length : Nat) - 1 : Int) then (if inB (pc x.toNat) r.1 r.2 then 0 else 22) else 2 := rfl
    have hnx : w[i]? = some x.toNat := by rw [hw, List.getElem?_map, hx]; rfl
    have htk : w.take (i + 1) = w.take i ++ [x.toNat] := by rw [List.take_add_one, hnx]; rfl
    have hsn := sumV_snoc (w.take i) x.toNat
    rw [← htk, ← hacc] at hsn
    obtain ⟨pw, hpwe⟩ : ∃ pw, pw = 2 ^ C.length := ⟨_, rfl⟩
    rw [← hpwe] at HE hsh hpw
    replace HE := Lib.hid HE
    replace HG := Lib.hid HG
    replace hz := Lib.hid hz
    clear hacc hnx htk HD hx hr
    obtain ⟨a0, a1, a2, a3, a4, rfl⟩ := five_of ha5
    cases q1 : inB x 0 ((pw : Nat) - 1 : Int)
    ·repeat (first | apply ef_seq | (apply ef_mv; exact rfl; exact rfl) | (apply ef_bin; (iterate 3 exact rfl); (first | exact cmp_t rfl (by first | exact rfl | (simp only [cmpP]; omega)) | ((with_reducible refine bin_sub (wrap_of ?_ ?_)) <;> omega))) | (apply ef_len; exact rfl; exact rfl; (assumption)) | (apply ef_ldr; exact rfl; exact rfl; (exact rfl)) | (apply ef_ldp; exact rfl; exact rfl; (exact rfl); exact rfl; (exact rfl); (exact rfl)) | (apply ef_ias; (iterate 3 exact rfl); (omega); assumption; exact rfl) | (apply ef_fap; exact rfl; exact rfl) | (apply ef_notF; exact rfl; exact rfl) | (apply ef_shf; (iterate 3 exact rfl); (assumption)) | apply ef_nil | apply seqQ.normal | apply loopQ.ret | apply ef_ret | apply seqQ.ret | apply blockQ.ret | apply ef_block | apply ef_skip | (apply ef_condt; exact rfl; (exact (rfl : true = true))) | (apply ef_call; exact rfl; ((repeat (apply XVs.cons; exact rfl)); exact XVs.nil); (with_reducible exact within_c (k + 5) _ _ _ _ q1)))
     (refine fin2 rfl (by exact rfl) (by exact rfl) ?_)
     have hE : rowE C.length r x = 2 := by rw [HE.out, q1]; rfl
     rw [HB2.out, HG.out, hE]; rfl
    ·have hxr := inB_iff.1 q1
     obtain ⟨s, rfl⟩ : ∃ s : Nat, x = (s : Int) := ⟨x.toNat, by omega⟩
     have hs32 : s < 32 := by omega
     have hw64 : IntKind.u64.wrap (s : Int) = (s : Int) := by rw [IntKind.wrap_u64]; omega
     rw [Int.toNat_natCast] at hsn
     have hpl := fun h => plus_k (k + 5) [a0, a1, a2, a3, a4] s ha5 hab hs32 h
     have hpv : ∃ p, p = plusV s 0 [a0, a1, a2, a3, a4] := ⟨_, rfl⟩
     obtain ⟨p, hp⟩ := hpv
     have hp5 : p.length = 5 := by rw [hp, plusV_len]; rfl
     rw [← hp] at hpl hsn
     clear hp
     obtain ⟨b0, b1, b2, b3, b4, rfl⟩ := five_of hp5
     cases q2 : inB (pc s) r.1 r.2
     ·repeat (first | apply ef_seq | (apply ef_mv; exact rfl; exact rfl) | (apply ef_bin; (iterate 3 exact rfl); (first | exact cmp_t rfl (by first | exact rfl | (simp only [cmpP]; omega)) | ((with_reducible refine bin_sub (wrap_of ?_ ?_)) <;> omega))) | (apply ef_len; exact rfl; exact rfl; (assumption)) | (apply ef_ldr; exact rfl; exact rfl; (exact rfl)) | (apply ef_ldp; exact rfl; exact rfl; (exact rfl); exact rfl; (exact rfl); (exact rfl)) | (apply ef_ias; (iterate 3 exact rfl); (omega); assumption; exact rfl) | (apply ef_fap; exact rfl; exact rfl) | (apply ef_far; exact rfl; exact rfl) | (apply ef_notT; exact rfl; exact rfl) | (apply ef_notF; exact rfl; exact rfl) | (apply ef_cv; exact rfl; exact rfl; (assumption)) | (apply ef_shf; (iterate 3 exact rfl); (assumption)) | apply ef_nil | apply seqQ.normal | apply loopQ.ret | apply ef_ret | apply seqQ.ret | apply blockQ.ret | apply ef_block | apply ef_skip | (apply ef_condt; exact rfl; (exact (rfl : true = true))) | (apply ef_condf; exact rfl; (exact (rfl : false = false))) | (apply ef_call; exact rfl; ((repeat (apply XVs.cons; exact rfl)); exact XVs.nil); (with_reducible first | exact within_c (k + 5) _ _ _ _ q1 | exact ones_c (k + 4) s hs32 _ | exact within_c (k + 5) _ _ _ _ q2)))
      (refine fin2 rfl (by exact rfl) (by exact rfl) ?_)
      have hE : rowE C.length r (s : Int) = 22 := by rw [HE.out, q1, Int.toNat_natCast, q2]; rfl
      rw [HB2.out, HG.out, hE]; rfl
     ·repeat (first | apply ef_seq | (apply ef_mv; exact rfl; exact rfl) | (apply ef_bin; (iterate 3 exact rfl); (first | exact cmp_t rfl (by first | exact rfl | (simp only [cmpP]; omega)) | ((with_reducible refine bin_sub (wrap_of ?_ ?_)) <;> omega))) | (apply ef_len; exact rfl; exact rfl; (assumption)) | (apply ef_ldr; exact rfl; exact rfl; (exact rfl)) | (apply ef_ldp; exact rfl; exact rfl; (exact rfl); exact rfl; (exact rfl); (first | exact rd_5 rfl rfl rfl rfl rfl | exact rfl)) | (apply ef_ias; (iterate 3 exact rfl); (omega); assumption; exact rfl) | (apply ef_fap; exact rfl; exact rfl) | (apply ef_far; exact rfl; exact rfl) | (apply ef_notT; exact rfl; exact rfl) | (apply ef_cv; exact rfl; exact rfl; (assumption)) | (apply ef_shf; (iterate 3 exact rfl); (assumption)) | apply ef_nil | apply seqQ.normal | apply ef_block | apply ef_skip | (apply ef_condt; exact rfl; (exact (rfl : true = true))) | (apply ef_condf; exact rfl; (exact (rfl : false = false))) | (apply ef_call; exact rfl; ((repeat (apply XVs.cons; exact rfl)); exact XVs.nil); (with_reducible first | exact within_c (k + 5) _ _ _ _ q1 | exact ones_c (k + 4) s hs32 _ | exact within_c (k + 5) _ _ _ _ q2)))
      have hE : rowE C.length r (s : Int) = 0 := by rw [HE.out, q1, Int.toNat_natCast, q2]; rfl
      (apply ef_call; (· exact rfl); (· ((repeat (apply XVs.cons; exact rfl)); exact XVs.nil)); · exact hpl _)
      repeat (first | (apply ef_mv; exact rfl; exact rfl) | (apply ef_bin; (iterate 3 exact rfl); (((with_reducible refine bin_add (wrap_of ?_ ?_)) <;> omega))) | (apply ef_st; (iterate 6 exact rfl); (exact rfl); (exact rfl)) | apply ef_nil | apply seqQ.normal | apply blockQ.normal)
      (refine loopQ.normal _ _ ⟨(i + 1, [b0, b1, b2, b3, b4]), ⟨hlt, by rw [HG.out, if_pos hE], hsn.symm⟩, (by first | (simp only; omega) | omega), ⟨by ((repeat (refine Hold.cons (by exact rfl) ?_)); exact Hold.nil), by ((repeat (refine Hold.cons (by exact rfl) ?_)); exact Hold.nil)⟩, .all (by first | exact Nat.le_refl _ | (simp; done) | (simp; omega))⟩)
   ·obtain rfl : i = b.length := by omega
    rw [List.drop_eq_nil_of_le (Nat.le_refl _)] at hz
    have HB3 := Lib.hid (HB2.out.trans (if_neg (by rw [hz]; simp [firG])))
    have hw2 : w.take b.length = w := by rw [← hwl, List.take_length]
    rw [hw2] at hacc
    rw [← hw] at HB3
    clear hz HB2
    have hat : ∀ j : Nat, j < 5 → rdCells (keyA acc).cells (0 + (j : Int).toNat * 1) none = some (I64 (colS w j)) := fun j hj => by
     have h7 := sumV_eq w
     rw [← hacc] at h7
     rw [h7]
     match j, hj with
     | 0, _ => rfl
     | 1, _ => rfl
     | 2, _ => rfl
     | 3, _ => rfl
     | 4, _ => rfl
    have htot := total_c (k + 5) acc ha5 (fun x hx => by have := hab x hx; omega)
    have hvol : acc.sum = volS w := by rw [hacc]; rfl
    clear hacc hab
    repeat (first | apply ef_seq | (apply ef_mv; exact rfl; exact rfl) | (apply ef_bin; (iterate 3 exact rfl); (exact cmp_f rfl (by simp only [cmpP]; omega))) | (apply ef_len; exact rfl; exact rfl; (assumption)) | (apply ef_ldp; exact rfl; exact rfl; (exact rfl); exact rfl; (exact rfl); (exact rfl)) | (apply ef_fap; exact rfl; exact rfl) | apply ef_nil | apply seqQ.normal | apply loopQ.exit | apply ef_exit | apply seqQ.exit | apply blockQ.here | apply ef_block | (apply ef_condf; exact rfl; (exact (rfl : false = false))))
    refine ef_loopg (α := Nat) (fun j => j ≤ C.length ∧ firG (colE w) 0 C = firG (colE w) j (C.drop j)) (fun j => [(74, I64 (j : Int))]) [(73, I64 (C.length : Int)), (72, .sl (C.map encP)), (8, .ptr 2 0 0 0)] (fun _ => [⟨0, false, 2, [encS R C]⟩, ⟨0, false, 1, [I64 ck.2, I64 0]⟩, ⟨0, false, 5, [keyA acc]⟩]) (fun j => C.length - j) 0 [74] (fun _ => rfl) (by ((repeat (refine Hold.cons (by exact rfl) ?_)); exact Hold.nil)) (by ((repeat (refine Hold.cons (by exact rfl) ?_)); exact Hold.nil)) rfl rfl rfl ⟨by omega, rfl⟩ (by simp; omega) ?_
    rintro j ⟨hj, hz⟩
    by_cases hlt2 : j < C.length
    ·obtain ⟨c, hc⟩ : ∃ c, C[j]? = some c := ⟨C[j], by simp [hlt2]⟩
     have e1 : (C.map encP)[((j : Nat) : Int).toNat]? = some (encP c) := by rw [Int.toNat_natCast, List.getElem?_map, hc]; rfl
     have HD : C.drop j = c :: C.drop (j + 1) := by
      obtain ⟨q1, q2⟩ := List.getElem?_eq_some_iff.1 hc
      rw [← q2]; exact List.drop_eq_getElem_cons q1
     have HE : colE w j c = if inB (colS w j) c.1 c.2 then 0 else 22 := rfl
     have HZ := Lib.hid (show firG (colE w) 0 C = if colE w j c = 0 then firG (colE w) (j + 1) (C.drop (j + 1)) else (j, colE w j c) by rw [hz, HD, firG])
     have hat' := hat j (by omega)
     generalize colS w j = x at *
     generalize colE w j c = ce at *
     clear hz HD
     cases q1 : inB x c.1 c.2
     ·rw [q1] at HE
      obtain rfl : ce = 22 := HE
      repeat (first | apply ef_seq | (apply ef_mv; exact rfl; exact rfl) | (apply ef_bin; (iterate 3 exact rfl); (exact cmp_t rfl (by first | exact rfl | (simp only [cmpP]; omega)))) | (apply ef_ldr; exact rfl; exact rfl; (exact rd_2 rfl rfl)) | (apply ef_ldp; exact rfl; exact rfl; (exact rfl); exact rfl; (exact rfl); (first | assumption | exact rfl)) | (apply ef_ias; (iterate 3 exact rfl); (omega); assumption; exact rfl) | (apply ef_iaap; (iterate 3 exact rfl); (omega); (omega)) | (apply ef_fap; exact rfl; exact rfl) | (apply ef_notF; exact rfl; exact rfl) | (apply ef_new; exact rfl) | (apply ef_st; (iterate 6 exact rfl); (exact rfl); (exact rfl)) | apply ef_nil | apply seqQ.normal | apply loopQ.ret | apply ef_ret | apply seqQ.ret | apply blockQ.ret | apply ef_block | apply ef_skip | (apply ef_condt; exact rfl; (exact (rfl : true = true))) | (apply ef_call; exact rfl; ((repeat (apply XVs.cons; exact rfl)); exact XVs.nil); (with_reducible exact within_c (k + 5) _ _ _ _ q1)))
      (refine fin2 rfl (by exact rfl) (by exact rfl) ?_)
      rw [HB3.out, HZ.out]; rfl
     ·rw [q1] at HE
      obtain rfl : ce = 0 := HE
      repeat (first | apply ef_seq | (apply ef_mv; exact rfl; exact rfl) | (apply ef_bin; (iterate 3 exact rfl); (first | exact cmp_t rfl (by first | exact rfl | (simp only [cmpP]; omega)) | ((with_reducible refine bin_add (wrap_of ?_ ?_)) <;> omega))) | (apply ef_ldr; exact rfl; exact rfl; (exact rd_2 rfl rfl)) | (apply ef_ldp; exact rfl; exact rfl; (exact rfl); exact rfl; (exact rfl); (first | assumption | exact rfl)) | (apply ef_ias; (iterate 3 exact rfl); (omega); assumption; exact rfl) | (apply ef_iaap; (iterate 3 exact rfl); (omega); (omega)) | (apply ef_fap; exact rfl; exact rfl) | (apply ef_notT; exact rfl; exact rfl) | (apply ef_new; exact rfl) | (apply ef_st; (iterate 6 exact rfl); (exact rfl); (exact rfl)) | apply ef_nil | apply seqQ.normal | apply blockQ.normal | apply ef_block | apply ef_skip | (apply ef_condt; exact rfl; (exact (rfl : true = true))) | (apply ef_condf; exact rfl; (exact (rfl : false = false))) | (apply ef_call; exact rfl; ((repeat (apply XVs.cons; exact rfl)); exact XVs.nil); (with_reducible exact within_c (k + 5) _ _ _ _ q1)))
      refine loopQ.normal _ _ ⟨j + 1, ⟨hlt2, by rw [HZ.out]; rfl⟩, by omega, ⟨by ((repeat (refine Hold.cons (by exact rfl) ?_)); exact Hold.nil), by ((repeat (refine Hold.cons (by exact rfl) ?_)); exact Hold.nil)⟩, .cut (fun t ht => ?_) ?_⟩
      ·simp only [List.mem_cons, List.not_mem_nil, or_false] at ht
       rcases ht with rfl | rfl | rfl | rfl
       ·exact ⟨_, rfl, rfl⟩
       ·exact ⟨_, rfl, rfl⟩
       ·exact ⟨_, rfl, by simp only [MV.lt, encP_lt]⟩
       ·exact ⟨_, rfl, rfl⟩
      ·have h9 := keyA_lt 3 acc
       show (hltL 3 [⟨0, false, 2, [encS R C]⟩, ⟨0, false, 1, [I64 ck.2, I64 0]⟩, ⟨0, false, 5, [keyA acc]⟩]) = true
       simp only [hltL, List.all_cons, List.all_nil, ltL, encS_lt, h9, Bool.and_true, Bool.true_and]
       rfl
    ·obtain rfl : j = C.length := by omega
     rw [List.drop_eq_nil_of_le (Nat.le_refl _)] at hz
     have HB4 := Lib.hid (HB3.out.trans (if_neg (by rw [hz]; simp [firG])))
     have hrd : rdCells (keyA acc).cells 0 (some 5) = some (keyA acc) := by
      obtain ⟨a, b, c, d, e, rfl⟩ := five_of ha5
      rfl
     repeat (first | apply ef_seq | (apply ef_bin; (iterate 3 exact rfl); (exact cmp_f rfl (by simp only [cmpP]; omega))) | (apply ef_ldp; exact rfl; exact rfl; (exact rfl); exact rfl; (exact rfl); (assumption)) | apply ef_nil | apply seqQ.normal | apply loopQ.exit | apply ef_exit | apply seqQ.exit | apply blockQ.here | (apply ef_condf; exact rfl; (exact (rfl : false = false))))
     (apply ef_call; (· exact rfl); (· ((repeat (apply XVs.cons; exact rfl)); exact XVs.nil)); · exact htot _)
     repeat (first | (apply ef_mv; exact rfl; exact rfl) | apply ef_nil | apply seqQ.normal | apply ef_ret)
     (refine fin2 rfl (by exact rfl) (by exact rfl) ?_)
     rw [HB4.out, hvol]
  ·have HB := Lib.hid (HE.out.trans (show chkB R C b = (0, 10) from if_pos h1))
   repeat (first | apply ef_seq | (apply ef_mv; exact rfl; exact rfl) | (apply ef_bin; (iterate 3 exact rfl); (first | exact cmp_t rfl (by first | exact rfl | (simp only [cmpP]; omega)) | exact cmp_f rfl (by simp only [cmpP]; omega))) | (apply ef_len; exact rfl; exact rfl; (assumption)) | (apply ef_ldp; exact rfl; exact rfl; (exact rfl); exact rfl; (exact rfl); (first | exact rd_2 rfl rfl | exact rfl)) | (apply ef_fap; exact rfl; exact rfl) | (apply ef_ext; (iterate 3 exact rfl)) | (apply ef_box; (iterate 4 exact rfl)) | (apply ef_bsl; exact rfl; (repeat (apply XVs.cons; exact rfl)); exact XVs.nil; exact rfl) | apply ef_nil | apply seqQ.normal | apply ef_ret | apply seqQ.ret | (apply ef_condt; exact rfl; (exact (rfl : true = true))) | (apply ef_call; exact rfl; ((repeat (apply XVs.cons; exact rfl)); exact XVs.nil); (with_reducible first | exact hck _ | exact hu2 _)) | (apply ef_call; exact rfl; ((repeat (apply XVs.cons; exact rfl)); exact XVs.nil); (with_reducible apply first2_c); (iterate 3 exact rfl); (assumption)))
   (refine fin2 rfl (by exact rfl) (by exact rfl) ?_)
   rw [HB.out]
 ·have HE := Lib.hid (show chkBE R C b = (0, (chkS R C).2) from if_pos h0)
  generalize chkS R C = ck at *
  have hf : ∀ e, firstE [ck.2, e] = ck.2 := fun e => by simp [firstE, h0]
  have hf0 := hf (unl true 10)
  have hf1 := hf (unl false 10)
  by_cases h1 : b.length = R.length
  ·repeat (first | apply ef_seq | (apply ef_mv; exact rfl; exact rfl) | (apply ef_bin; (iterate 3 exact rfl); (exact cmp_t rfl (by first | exact rfl | (simp only [cmpP]; omega)))) | (apply ef_len; exact rfl; exact rfl; (assumption)) | (apply ef_ldp; exact rfl; exact rfl; (exact rfl); exact rfl; (exact rfl); (first | exact rd_2 rfl rfl | exact rfl)) | (apply ef_fap; exact rfl; exact rfl) | (apply ef_ext; (iterate 3 exact rfl)) | (apply ef_box; (iterate 4 exact rfl)) | (apply ef_bsl; exact rfl; (repeat (apply XVs.cons; exact rfl)); exact XVs.nil; exact rfl) | apply ef_nil | apply seqQ.normal | apply ef_ret | apply seqQ.ret | (apply ef_condt; exact rfl; (exact (rfl : true = true))) | (apply ef_call; exact rfl; ((repeat (apply XVs.cons; exact rfl)); exact XVs.nil); (with_reducible first | exact hck _ | exact hu _ _ _)) | (apply ef_call; exact rfl; ((repeat (apply XVs.cons; exact rfl)); exact XVs.nil); (with_reducible apply first2_c); (iterate 3 exact rfl); (assumption)))
   (refine fin2 rfl (by exact rfl) (by exact rfl) ?_)
   rw [HE.out]
  ·repeat (first | apply ef_seq | (apply ef_mv; exact rfl; exact rfl) | (apply ef_bin; (iterate 3 exact rfl); (first | exact cmp_t rfl (by first | exact rfl | (simp only [cmpP]; omega)) | exact cmp_f rfl (by simp only [cmpP]; omega))) | (apply ef_len; exact rfl; exact rfl; (assumption)) | (apply ef_ldp; exact rfl; exact rfl; (exact rfl); exact rfl; (exact rfl); (first | exact rd_2 rfl rfl | exact rfl)) | (apply ef_fap; exact rfl; exact rfl) | (apply ef_ext; (iterate 3 exact rfl)) | (apply ef_box; (iterate 4 exact rfl)) | (apply ef_bsl; exact rfl; (repeat (apply XVs.cons; exact rfl)); exact XVs.nil; exact rfl) | apply ef_nil | apply seqQ.normal | apply ef_ret | apply seqQ.ret | (apply ef_condt; exact rfl; (exact (rfl : true = true))) | (apply ef_call; exact rfl; ((repeat (apply XVs.cons; exact rfl)); exact XVs.nil); (with_reducible first | exact hck _ | exact hu _ _ _)) | (apply ef_call; exact rfl; ((repeat (apply XVs.cons; exact rfl)); exact XVs.nil); (with_reducible apply first2_c); (iterate 3 exact rfl); (assumption)))
   (refine fin2 rfl (by exact rfl) (by exact rfl) ?_)
   rw [HE.out]
theorem ChkB_c (k : Nat) (R C : List (Int × Int)) (b : List Int) (hR : R.length ≤ 100) (hC : C.length ≤ 100) (hb : b.length ≤ 1000) (h : MHeap) {v w : MV} (hv : frz 0 [] h 8 v = some (encS R C)) (hw : frz 0 [] h 8 w = some (.sl (b.map I64))) : orA (k + 7) 13 [v, w] h = some (outI (chkBE R C b), h) := callTT (args' := [encS R C, .sl (b.map I64)]) (by simp [List.mapM_cons, hv, hw]) rfl (ChkB_z k R C b hR hC hb)
theorem firG_zeroG {α : Type} {G : Nat → α → Int} : ∀ {l : List α} {i : Nat}, (∀ (j : Nat) x, l[j]? = some x → G (i + j) x = 0) → firG G i l = (0, 0)
 | [], _, _ => rfl
 | c :: l, i, h => by
  rw [firG, if_pos (by have := h 0 c rfl; simpa using this)]
  exact firG_zeroG fun j x hx => by have := h (j + 1) x (by simpa using hx); rwa [show i + (j + 1) = i + 1 + j by omega] at this
theorem body_chk {R C : List (Int × Int)} (hv : ValS R C) {w : List Nat} (h : IsBody R C w) : chkB R C (w.map fun s : Nat => (s : Int)) = (volS w, 0) := by
 obtain ⟨h1, h2, h3⟩ := (isBody_iff hv.c5).1 h
 have hw : (w.map fun s : Nat => (s : Int)).map Int.toNat = w := by
  rw [List.map_map]
  conv => rhs; rw [← List.map_id w]
  exact List.map_congr_left fun x _ => by simp
 have e2 : firG (fun i => rowE C.length (R.getD i (0, 0))) 0 (w.map fun s : Nat => (s : Int)) = (0, 0) := firG_zeroG fun i x hx => by
  rw [List.getElem?_map, Option.map_eq_some_iff] at hx
  obtain ⟨s, hs, rfl⟩ := hx
  have hi : i < R.length := by rw [← h1]; exact (List.getElem?_eq_some_iff.1 hs).1
  have hr : R[i]? = some R[i] := by simp [hi]
  obtain ⟨q1, q2, q3⟩ := h2 i s R[i] hs hr
  rw [Nat.zero_add, getD_some hr]
  unfold rowE
  rw [if_pos (inB_iff.2 (by omega)), Int.toNat_natCast, if_pos (inB_iff.2 (by omega))]
 have e3 : firG (colE w) 0 C = (0, 0) := firG_zeroG fun i c hc => by
  rw [Nat.zero_add]
  exact if_pos (inB_iff.2 (h3 i c hc))
 unfold chkB
 rw [hw, e2, e3, if_neg (by simp [h1]), if_neg (by simp), if_neg (by simp)]
end Go.Proofs.YtnmgpbihknjdjaaDoor

/- Chapter 9: copies of shadows, remainders. -/
namespace Go.Proofs.YtnmgpbihknjdjaaDoor
open Go.RowKit
set_option linter.unusedVariables false
theorem encP_sOk (xs : List (Int × Int)) : (xs.map encP).all (MV.sOk 2) = true := by
 rw [List.all_eq_true]
 intro m hm
 obtain ⟨⟨a, b⟩, _, rfl⟩ := List.mem_map.1 hm
 rfl
theorem mf_bCopyRanges : MT.mf 6 = some ⟨6, [(.tmp 2)], (.seq (.reg [gO 2 (.nil0 2)]) (.seq (.reg [gO 3 (.bsl (.agg [(.lit (.int .i64 0)), (.lit (.int .i64 0))]) 2 0 []), gO 4 (.mv (.s 0)), gO 5 (.app 2 (.s 3) (.s 4)), gO 2 (.mv (.s 5))]) .ret))⟩ := by kernel_rfl
theorem bCopyRanges_z (k : Nat) (xs : List (Int × Int)) (hx : xs.length ≤ 1000000) : runZ MT (orA k) (itA k) 4000000 6 [.sl (xs.map encP)] [] = some (.arr 0 0 xs.length 0, [⟨0, false, 2, xs.map encP⟩]) := by
 refine runZ_of mf_bCopyRanges (by simp) ?_
 simp only [argsL]
 cases xs with
 | nil =>
  repeat (first | apply ef_seq | (apply ef_mv; exact rfl; exact rfl) | (apply ef_nil0; exact rfl) | (apply ef_bsl; exact rfl; (repeat (apply XVs.cons; exact rfl)); exact XVs.nil; exact rfl) | apply ef_nil | apply seqQ.normal)
  (apply ef_app0; (· exact rfl); (· exact rfl); (· exact rfl); (· exact rfl); (· exact rfl); (· exact rfl); (· exact rfl); (· exact rfl))
  repeat (first | (apply ef_mv; exact rfl; exact rfl) | apply ef_nil | apply seqQ.normal | apply ef_ret)
  (apply fin_arr; (· exact rfl); (· exact rfl); (· exact rfl); (· exact rfl); (· simp); (· exact rfl); (· exact rfl); (· exact rfl); (· exact rfl); (· exact rfl))
 | cons x xs =>
  have hs := encP_sOk (x :: xs)
  repeat (first | apply ef_seq | (apply ef_mv; exact rfl; exact rfl) | (apply ef_nil0; exact rfl) | (apply ef_bsl; exact rfl; (repeat (apply XVs.cons; exact rfl)); exact XVs.nil; exact rfl) | apply ef_nil | apply seqQ.normal)
  (apply ef_app; (· exact rfl); (· exact rfl); (· exact rfl); (· exact rfl); (· exact rfl); (· exact rfl); (· exact rfl); (· exact rfl); (· (simp at hx ⊢; omega)); (· exact hs); (· exact rfl))
  repeat (first | (apply ef_mv; exact rfl; exact rfl) | apply ef_nil | apply seqQ.normal | apply ef_ret)
  (apply fin_arr; (· exact rfl); (· exact rfl); (· exact rfl); (· exact rfl); (· simp); (· (exact encP_lt 0 (x :: xs))); (· (simp; rw [List.take_of_length_le (by simp)])); (· exact rfl); (· exact rfl); (· (simp)))
theorem encP_pure (xs : List (Int × Int)) : pureL (xs.map encP) = true := by
 induction xs with
 | nil => rfl
 | cons x xs ih => show (true && pureL (xs.map encP)) = true; rw [ih]; rfl
theorem bCopyRanges_c (k : Nat) (xs : List (Int × Int)) (h : MHeap) {v : MV} (hx : xs.length ≤ 1000000) (hv : frz 0 [] h 8 v = some (.sl (xs.map encP))) : orA (k + 1) 6 [v] h = some (.arr h.length 0 xs.length 0, h ++ [⟨0, false, 2, xs.map encP⟩]) := by
 have := callA (k := k) (args := [v]) (args' := [.sl (xs.map encP)]) (h := h) (by simp [List.mapM_cons, hv]) rfl (bCopyRanges_z k xs hx) rfl (by simp [okH, encP_lt, encP_pure])
 simpa [shV, sh1] using this
theorem finR1f {x : MX2} {A : Sl} {h : MHeap} {r1 : MRes} {cs : List MV} {v' : MV} (hx : outX x = true) (h1 : ResV A h r1 (.agg cs)) (hf : frz 0 [] h 8 (.agg cs) = some v') : FinF [r1] v' [] x A h := by
 have hi : impIds 0 [.agg cs] = [] := rfl
 refine ⟨hx, [.agg cs], [v'], ⟨.agg cs, [], rfl, h1, rfl⟩, by rw [hi]; simp, ?_, rfl⟩
 rw [hi]
 simp [expL, hf]
theorem mf_CopyS : MT.mf 8 = some ⟨10, [(.cell 2 (some 2))], (.seq (.reg [gO 1 (.box 2 (.s 0)), gO 2 (.new (.agg [(.lit (.slice none 0 0)), (.lit (.slice none 0 0))]))]) (.seq (.reg [gO 3 (.fa 0 (.s 1)), gO 4 (.ld none (.s 3)), gO 5 (.call 6 [.s 4]), gO 6 (.fa 1 (.s 1)), gO 7 (.ld none (.s 6)), gO 8 (.call 6 [.s 7]), gO 9 (.build [(.lit (.slice none 0 0)), (.lit (.slice none 0 0))] [(0, (1, (.s 5))), (1, (1, (.s 8)))]), ⟨none, none, .st 2 (.s 2) (.s 9)⟩]) .ret))⟩ := by kernel_rfl
theorem CopyS_z (k : Nat) (R C : List (Int × Int)) (hR : R.length ≤ 1000000) (hC : C.length ≤ 1000000) : runZ MT (orA (k + 1)) (itA (k + 1)) 4000000 8 [encS R C] [] = some (encS R C, []) := by
 refine runZ_of mf_CopyS (by simp) ?_
 simp only [argsL]
 have h1 := fun h => bCopyRanges_c k R h (v := .sl (R.map encP)) hR (frz_sl (encP_lt 0 R))
 have h2 := fun h => bCopyRanges_c k C h (v := .sl (C.map encP)) hC (frz_sl (encP_lt 0 C))
 have z1 := encP_lt 0 R
 have z2 := encP_lt 0 C
 have k1 : (R.map encP).take R.length = R.map encP := by rw [List.take_of_length_le (by simp)]
 have k2 : (C.map encP).take C.length = C.map encP := by rw [List.take_of_length_le (by simp)]
 repeat (first | apply ef_seq | (apply ef_ldp; exact rfl; exact rfl; (exact rfl); exact rfl; (exact rfl); (exact rfl)) | (apply ef_fap; exact rfl; exact rfl) | (apply ef_box; (iterate 4 exact rfl)) | (apply ef_new; exact rfl) | apply ef_nil | apply seqQ.normal)
 (apply ef_call; (· exact rfl); (· ((repeat (apply XVs.cons; exact rfl)); exact XVs.nil)); · exact h1 _)
 repeat (first | (apply ef_ldp; exact rfl; exact rfl; (exact rfl); exact rfl; (exact rfl); (exact rfl)) | (apply ef_fap; exact rfl; exact rfl))
 (apply ef_call; (· exact rfl); (· ((repeat (apply XVs.cons; exact rfl)); exact XVs.nil)); · exact h2 _)
 repeat (first | (apply ef_build; exact rfl; (repeat (apply XVs.cons; exact rfl)); exact XVs.nil; exact rfl; exact rfl) | (apply ef_st; (iterate 6 exact rfl); (exact rfl); exact rfl) | apply ef_nil | apply seqQ.normal | apply ef_ret)
 refine finR1f (cs := [.arr 2 0 R.length 0, .arr 3 0 C.length 0]) rfl ?_ ?_
 ·apply resC <;> exact rfl
 ·simp [frz, MV.lt, ltL, z1, z2, k1, k2]
theorem CopyS_c (k : Nat) (R C : List (Int × Int)) (hR : R.length ≤ 1000000) (hC : C.length ≤ 1000000) (h : MHeap) : orA (k + 2) 8 [encS R C] h = some (encS R C, h) := by
 have := callA (k := k + 1) (h := h) (args := [encS R C]) (args' := [encS R C]) (frzL_lt (ltS0 R C)) rfl (CopyS_z k R C hR hC) (by rw [ltS0]; show (MV.lt 0 (encS R C) && true) = true; rw [encS_lt]; rfl) rfl
 rw [List.append_nil] at this
 exact this
theorem look_in {t : Nat} {v : MV} : ∀ {A : Sl}, look A t = some v → (t, v) ∈ A
 | [], h => by cases h
 | (u, x) :: A, h => by
  rw [look_cons] at h
  split at h
  ·rename_i e
   cases h
   subst e
   exact List.mem_cons_self
  ·exact List.mem_cons_of_mem _ (look_in h)
theorem ef_weak {O : Oracle} {I : Iter} {N n : Nat} {lk : Nat → Bool} {b : MC} {A A' : Sl} {h : MHeap} {Q : MX2 → Sl → MHeap → Prop} (hA : Hold A A') (hE : Ef O I N n lk b A' h Q) : Ef O I N n lk b A h Q :=
 .mk fun s hs => hE.run s ⟨hs.len, fun t v ht => hs.get t v (hA (t, v) (look_in ht))⟩
def MC.rest : Nat → MC → MC
 | 0, c => c
 | n + 1, .seq _ b => MC.rest n b
 | _ + 1, c => c
def MC.cut : Nat → MC → MC → MC
 | 0, _, r => r
 | n + 1, .seq a b, r => .seq a (MC.cut n b r)
 | _ + 1, _, r => r
theorem cut_rest : ∀ (n : Nat) (c : MC), MC.cut n c (MC.rest n c) = c
 | 0, c => rfl
 | n + 1, c => by
  cases c <;> first | rfl | exact congrArg _ (cut_rest n _)
end Go.Proofs.YtnmgpbihknjdjaaDoor

/- The examples: closed calls. -/
namespace Go.Proofs.YtnmgpbihknjdjaaDoor
open Go.RowKit
theorem items_z (k : Nat) : runZ MT (orA k) (itA k) 4000000 15 [] [] = some (.arr 0 0 3 0, [⟨0, false, 3, itemE⟩]) := by kernel_rfl
theorem best_f : runFf (orL tA mfW 4000000 12) noI 4000000 mfW_l14 [itemX, I64 8] [] = some (.tup [.arr 0 0 2 0, I64 16, I64 0], [⟨0, false, 1, [I64 0, I64 2]⟩]) := by kernel_rfl
end Go.Proofs.YtnmgpbihknjdjaaDoor

/- The examples that the law begins with. -/
namespace Go.Proofs.YtnmgpbihknjdjaaDoor
open Go.RowKit
set_option linter.unusedVariables false
theorem items_c (k : Nat) (h : MHeap) : orA (k + 1) 15 [] h = some (.arr h.length 0 3 0, h ++ [⟨0, false, 3, itemE⟩]) := by
 have := callA (k := k) (h := h) (args := []) (args' := []) rfl rfl (items_z k) rfl rfl
 simpa [shV, sh1] using this
theorem shadow_c (k : Nat) (h : MHeap) : orA (k + 1) 16 [] h = some (encS shR shC, h) := by
 have := callA (k := k) (h := h) (args := []) (args' := []) rfl rfl (shadow_x k) rfl rfl
 rw [List.append_nil] at this
 exact this
theorem bestX_c (h : MHeap) {v : MV} (hv : frz 0 [] h 8 v = some itemX) : orA 13 14 [v, I64 8] h = some (.tup [.arr h.length 0 2 0, I64 16, I64 0], h ++ [⟨0, false, 1, [I64 0, I64 2]⟩]) := by
 have hf : [v, I64 8].mapM (frz 0 [] h 8) = some [itemX, I64 8] := by simp [List.mapM_cons, hv, frz_lt (m := I64 8) rfl]
 have := callA (k := 12) (h := h) hf rfl (runL_ok mfW_ok (f := 14) (m := mfW_l14) (by kernel_rfl) best_f _) (by simp [okV, ok1, MV.lt, MV.pure]) (by simp [okH, ltL, MV.lt, pureL, MV.pure])
 simpa [shV, sh1] using this
theorem bodyX_c (h : MHeap) : orA 13 12 [encS shR shC] h = some (.tup [.arr h.length 0 2 0, I64 0], h ++ [⟨0, false, 1, [I64 1, I64 3]⟩]) := by
 have hp : ∀ i, i < shR.length → (pickB shR shC (bodyB shR shC i) i).isSome = true
  | 0, _ => by kernel_rfl
  | 1, _ => by kernel_rfl
  | i + 2, h => absurd h (by simp)
 have hb : natL (bodyB shR shC shR.length) = [I64 1, I64 3] := by kernel_rfl
 have hz := body_z 5 shR shC (by decide) (by decide) (open_xc 5) hp (by decide)
 rw [hb] at hz
 have := callA (k := 12) (h := h) (args := [encS shR shC]) (args' := [encS shR shC]) rfl rfl hz rfl rfl
 simpa [shV, sh1] using this
theorem mf_shown : MT.mf 4 = some ⟨37, [(.tmp 0)], (.seq (.reg [gO 0 (.mv cF)]) (.seq (.reg [gO 7 (.call 15 []), gO 8 (.call 14 [.s 7, (cI 8)]), gO 6 (.mv (.s 8)), gO 9 (.ext (.s 6) 0), gO 10 (.ext (.s 6) 1), gO 11 (.ext (.s 6) 2), gO 1 (.mv (.s 9)), gO 2 (.mv (.s 10)), gO 3 (.mv (.s 11))]) (.seq (.reg [gO 13 (.call 16 []), gO 14 (.call 12 [.s 13]), gO 12 (.mv (.s 14)), gO 15 (.ext (.s 12) 0), gO 16 (.ext (.s 12) 1), gO 4 (.mv (.s 15)), gO 5 (.mv (.s 16))]) (.seq (.reg [gO 17 (.mv (.s 3)), gO 18 (.bin .eql (.s 17) (cI 0)), gO 19 (.mv (.s 18)), ⟨some (19, true), some 20, .mv (.s 2)⟩, ⟨some (19, true), some 21, .bin .eql (.s 20) (cI 16)⟩, gO 22 (.pick (.s 19) (.s 21) cF), gO 23 (.mv (.s 22)), ⟨some (23, true), some 24, .mv (.s 1)⟩, ⟨some (23, true), some 25, .bsl (.lit (.int .i64 0)) 1 2 [(0, (cI 0)), (1, (cI 2))]⟩, ⟨some (23, true), some 26, .call 11 [.s 24, .s 25]⟩, gO 27 (.pick (.s 23) (.s 26) cF), gO 28 (.mv (.s 27)), ⟨some (28, true), some 29, .mv (.s 5)⟩, ⟨some (28, true), some 30, .bin .eql (.s 29) (cI 0)⟩, gO 31 (.pick (.s 28) (.s 30) cF), gO 32 (.mv (.s 31)), ⟨some (32, true), some 33, .mv (.s 4)⟩, ⟨some (32, true), some 34, .bsl (.lit (.int .i64 0)) 1 2 [(0, (cI 1)), (1, (cI 3))]⟩, ⟨some (32, true), some 35, .call 11 [.s 33, .s 34]⟩, gO 36 (.pick (.s 32) (.s 35) cF), gO 0 (.mv (.s 36))]) .ret))))⟩ := by kernel_rfl
set_option maxHeartbeats 1000000 in
theorem shown_z : runZ MT (orA 13) (itA 13) 4000000 4 [] [] = some (Bo true, []) := by
 refine runZ_of mf_shown (by simp) ?_
 simp only [argsL]
 repeat (first | apply ef_seq | (apply ef_mv; exact rfl; exact rfl) | (apply ef_bin; (iterate 3 exact rfl); (exact cmp_t rfl (by first | exact rfl | (simp only [cmpP]; omega)))) | (apply ef_gy; exact rfl; (exact (rfl : true = true))) | (apply ef_pick; (iterate 3 exact rfl)) | (apply ef_ext; (iterate 3 exact rfl)) | (apply ef_bsl; exact rfl; (repeat (apply XVs.cons; exact rfl)); exact XVs.nil; exact rfl) | apply ef_nil | apply seqQ.normal | apply ef_ret | (apply ef_call; exact rfl; ((repeat (apply XVs.cons; exact rfl)); exact XVs.nil); (with_reducible first | exact items_c _ _ | exact shadow_c _ _ | exact bestX_c _ rfl | exact bodyX_c _ | exact bInts_c 12 [0, 2] [0, 2] _ (by simp) rfl rfl rfl | exact bInts_c 12 [1, 3] [1, 3] _ (by simp) rfl rfl rfl)))
 (refine fin1 rfl (by exact rfl) rfl ?_)
 rfl
theorem shown_c (h : MHeap) : orA 14 4 [] h = some (Bo true, h) := callL (args' := []) rfl rfl shown_z
end Go.Proofs.YtnmgpbihknjdjaaDoor

/- Chapter 9: heads of loops, shadows given up. -/
namespace Go.Proofs.YtnmgpbihknjdjaaDoor
open Go.RowKit
set_option linter.unusedVariables false
theorem HeadIs.cellE {keep : List Nat} {m : Nat} {A : Sl} {h h1 : MHeap} (e : h = h1) (hc : hltL m (h1.take m) = false) : HeadIs keep m A h h1 := by
 subst e; exact .cell hc
theorem seal_S {H : MHeap} {j a b na nb ga gb : Nat} {la lb : Bool} {ea eb : List MV} (hj : H[j]? = some ⟨0, false, 2, [.agg [.arr a 0 na ga, .arr b 0 nb gb]]⟩) (ha : H[a]? = some ⟨ga, la, 2, ea⟩) (hb : H[b]? = some ⟨gb, lb, 2, eb⟩) (hna : na = ea.length) (hnb : nb = eb.length) (hea : ltL 0 ea = true) (heb : ltL 0 eb = true) (haj : a ≠ j) (hbj : b ≠ j) :
  ∃ H', sealH (fun _ => false) H (.ptr j 0 0 0) = some H' ∧ H'[j]? = some ⟨0, false, 2, [.agg [.sl ea, .sl eb]]⟩ ∧ ∀ i, i ≠ j → i ≠ a → i ≠ b → H'[i]? = H[i]? := by
 have ids : [MV.agg [.arr a 0 na ga, .arr b 0 nb gb]].flatMap (MV.ids H 6) = [a, b] := by
  have h1 : ea.flatMap (MV.ids H 4) = [] := idsL_lt0 hea
  have h2 : eb.flatMap (MV.ids H 4) = [] := idsL_lt0 heb
  have e1 : [MV.agg [.arr a 0 na ga, .arr b 0 nb gb]].flatMap (MV.ids H 6) = ((a :: (match H[a]? with | some o => o.es.flatMap (MV.ids H 4) | none => [])) ++ ((b :: (match H[b]? with | some o => o.es.flatMap (MV.ids H 4) | none => [])) ++ [])) ++ [] := rfl
  rw [e1, ha, hb]
  dsimp only
  rw [h1, h2]; rfl
 have himp : ∀ i, i ∈ [a, b] → (j :: (List.range H.length).filter fun i => ![a, b].contains i).contains i = false := fun i hi => by
  rw [Bool.eq_false_iff]
  intro hc
  simp only [List.contains_iff_mem, List.mem_cons, List.mem_filter] at hc hi
  rcases hc with rfl | hc
  ·rcases hi with rfl | rfl | hi
   ·exact haj rfl
   ·exact hbj rfl
   ·cases hi
  ·have := hc.2
   rcases hi with rfl | rfl | hi
   ·simp at this
   ·simp at this
   ·cases hi
 have ka : ea.take na = ea := List.take_of_length_le (by omega)
 have kb : eb.take nb = eb := List.take_of_length_le (by omega)
 have hf : frz 0 (j :: (List.range H.length).filter fun i => ![a, b].contains i) H 8 (.agg [.arr a 0 na ga, .arr b 0 nb gb]) = some (.agg [.sl ea, .sl eb]) := by
  have i1 := himp a (by simp)
  have i2 := himp b (by simp)
  have fa : frz 0 (j :: (List.range H.length).filter fun i => ![a, b].contains i) H 7 (.arr a 0 na ga) = some (.sl ea) := by
   simp only [frz, MV.lt, Nat.not_lt_zero, decide_false, Bool.false_eq_true, if_false, i1, ha]
   simp only [hea, if_true, List.drop_zero, ka]
   simp; omega
  have fb : frz 0 (j :: (List.range H.length).filter fun i => ![a, b].contains i) H 7 (.arr b 0 nb gb) = some (.sl eb) := by
   simp only [frz, MV.lt, Nat.not_lt_zero, decide_false, Bool.false_eq_true, if_false, i2, hb]
   simp only [heb, if_true, List.drop_zero, kb]
   simp; omega
  have e8 : frz 0 (j :: (List.range H.length).filter fun i => ![a, b].contains i) H 8 (.agg [.arr a 0 na ga, .arr b 0 nb gb]) = ([MV.arr a 0 na ga, .arr b 0 nb gb].mapM (frz 0 (j :: (List.range H.length).filter fun i => ![a, b].contains i) H 7)).map .agg := by
   have : (MV.agg [.arr a 0 na ga, .arr b 0 nb gb]).lt 0 = false := by simp [MV.lt, ltL]
   conv => lhs; unfold frz
   rw [this]
   rfl
  rw [e8]
  simp only [List.mapM_cons, List.mapM_nil, fa, fb]; rfl
 refine ⟨(H.mapIdx fun i p => if [a, b].contains i then ⟨p.g + 1, p.nl, p.sz, []⟩ else p).set j ⟨0, false, 2, [.agg [.sl ea, .sl eb]]⟩, ?_, ?_, fun i h1 h2 h3 => ?_⟩
 ·unfold sealH
  simp only [hj, ids, List.mapM_cons, List.mapM_nil, hf]
  have hc : ([a, b].all (fun i => !false && i != j) && !false) = true := by simp [haj, hbj]
  simp only [Option.pure_def, Option.bind_eq_bind, Option.bind_some, hc, if_true]
 ·rw [List.getElem?_set_self (by simpa using (List.getElem?_eq_some_iff.1 hj).1)]
 ·rw [List.getElem?_set_ne (Ne.symm h1), List.getElem?_mapIdx]
  cases H[i]? with
  | none => rfl
  | some o => simp [h2, h3]
end Go.Proofs.YtnmgpbihknjdjaaDoor

/- TopTargetMirror: memory of the loops. -/
namespace Go.Proofs.YtnmgpbihknjdjaaDoor
open Go.RowKit
set_option linter.unusedVariables false
theorem elems_oneM (H : MHeap) (e : MV) (sz : Nat) : (MV.arr H.length 0 1 0).elems (H ++ [⟨0, false, sz, [e]⟩]) = some [e] := by simp only [MV.elems, at_endC]; rfl
theorem rev_take (R : List (Int × Int)) {i : Nat} (h : i < R.length) : R.reverse.take (i + 1) = R.reverse.take i ++ [R.getD (R.length - 1 - i) (0, 0)] := by
 rw [List.take_add_one, List.getElem?_reverse h, List.getD_eq_getElem?_getD]
 rw [List.getElem?_eq_getElem (show R.length - 1 - i < R.length by omega)]
 rfl
theorem oth_take (n : Nat) (R : List (Int × Int)) {i : Nat} (h : i < R.length) : (oth n R).take (i + 1) = (oth n R).take i ++ [((n : Int) - (R.getD i (0, 0)).2, (n : Int) - (R.getD i (0, 0)).1)] := by
 rw [List.take_add_one, List.getD_eq_getElem?_getD]
 simp [oth, h]
def mem1 (R C : List (Int × Int)) (g1 g2 : MV) (rc : MV) : Nat → MHeap → MHeap
 | 0, _ => [⟨0, false, 2, [encS R C]⟩, ⟨0, false, 2, C.map encP⟩, ⟨0, false, 2, [.agg [nilM, rc]]⟩, ⟨0, false, 2, [.agg [nilM, .arr 1 0 C.length 0]]⟩]
 | i + 1, G => ⟨0, false, 2, [encS R C]⟩ :: ⟨0, false, 2, C.map encP⟩ :: ⟨0, false, 2, [.agg [.arr 5 0 (i + 1) i, rc]]⟩ :: ⟨0, false, 2, [.agg [.arr 7 0 (i + 1) i, .arr 1 0 C.length 0]]⟩ ::
   ⟨0, false, 2, [g1]⟩ :: ⟨i, false, 2, ((oth C.length R).take (i + 1)).map encP⟩ :: ⟨0, false, 2, [g2]⟩ :: ⟨i, false, 2, (R.reverse.take (i + 1)).map encP⟩ :: G
def bodyMi : MC := (⟨271, [(.tmp 2)], (.seq (.reg [gO 1 (.box 2 (.s 0)), gO 2 (.mv cF)]) (.seq (.seq (.reg [gO 27 (.call 4 []), gO 28 (.un .not (.s 27))]) (.cond (.s 28) (.seq (.reg [gO 2 (.mv cF)]) .ret) .skip)) (.seq (.seq (.reg [gO 29 (.ld (some 2) (.s 1)), gO 30 (.call 5 [.s 29]), gO 31 (.bin .neq (.s 30) (cI 0)), gO 32 (.mv (.s 31)), ⟨some (32, false), some 33, .fa 0 (.s 1)⟩, ⟨some (32, false), some 34, .ld none (.s 33)⟩, ⟨some (32, false), some 35, .len (.s 34)⟩, ⟨some (32, false), some 36, .bin .gtr (.s 35) (cI 4)⟩, gO 37 (.pick (.s 32) cT (.s 36)), gO 38 (.mv (.s 37)), ⟨some (38, false), some 39, .fa 1 (.s 1)⟩, ⟨some (38, false), some 40, .ld none (.s 39)⟩, ⟨some (38, false), some 41, .len (.s 40)⟩, ⟨some (38, false), some 42, .bin .gtr (.s 41) (cI 4)⟩, gO 43 (.pick (.s 38) cT (.s 42))]) (.cond (.s 43) (.seq (.reg [gO 2 (.mv cT)]) .ret) .skip)) (.seq (.reg [gO 44 (.fa 0 (.s 1)), gO 45 (.ld none (.s 44)), gO 46 (.len (.s 45)), gO 47 (.fa 1 (.s 1)), gO 48 (.ld none (.s 47)), gO 49 (.len (.s 48)), gO 3 (.mv (.s 46)), gO 4 (.mv (.s 49))]) (.seq (.reg [gO 50 (.build [(.lit (.slice none 0 0)), (.lit (.slice none 0 0))] []), gO 51 (.fa 1 (.s 1)), gO 52 (.ld none (.s 51)), gO 53 (.call 6 [.s 52]), gO 54 (.build [(.lit (.slice none 0 0)), (.lit (.slice none 0 0))] [(1, (1, (.s 53)))]), gO 5 (.new (.agg [(.lit (.slice none 0 0)), (.lit (.slice none 0 0))])), gO 6 (.new (.agg [(.lit (.slice none 0 0)), (.lit (.slice none 0 0))])), ⟨none, none, .st 2 (.s 5) (.s 50)⟩, ⟨none, none, .st 2 (.s 6) (.s 54)⟩]) (.seq (.seq (.reg [gO 7 (.mv (cI 0))]) (.block 0 (.loop [7, 3, 5, 4, 1, 6] (.seq (.seq (.reg [gO 55 (.mv (.s 7)), gO 56 (.mv (.s 3)), gO 57 (.bin .lss (.s 55) (.s 56))]) (.cond (.s 57) .skip (.exit 0))) (.seq (.block 1 (.seq (.reg [gO 60 (.fa 0 (.s 5)), gO 61 (.ld none (.s 60)), gO 62 (.mv (.s 4)), gO 63 (.fa 0 (.s 1)), gO 64 (.ld none (.s 63)), gO 65 (.mv (.s 7)), gO 66 (.ia 2 (.s 64) (.s 65)), gO 67 (.fa 1 (.s 66)), gO 68 (.ld none (.s 67)), gO 69 (.bin .sub (.s 62) (.s 68)), gO 70 (.mv (.s 4)), gO 71 (.fa 0 (.s 1)), gO 72 (.ld none (.s 71)), gO 73 (.mv (.s 7)), gO 74 (.ia 2 (.s 72) (.s 73)), gO 75 (.fa 0 (.s 74)), gO 76 (.ld none (.s 75)), gO 77 (.bin .sub (.s 70) (.s 76)), gO 78 (.build [(.lit (.int .i64 0)), (.lit (.int .i64 0))] [(0, (1, (.s 69))), (1, (1, (.s 77)))]), gO 79 (.bsl (.agg [(.lit (.int .i64 0)), (.lit (.int .i64 0))]) 2 1 [(0, (.s 78))]), gO 80 (.app 2 (.s 61) (.s 79)), gO 81 (.fa 0 (.s 5)), ⟨none, none, .st 1 (.s 81) (.s 80)⟩]) (.reg [gO 82 (.fa 0 (.s 6)), gO 83 (.ld none (.s 82)), gO 84 (.fa 0 (.s 1)), gO 85 (.ld none (.s 84)), gO 86 (.mv (.s 3)), gO 87 (.bin .sub (.s 86) (cI 1)), gO 88 (.mv (.s 7)), gO 89 (.bin .sub (.s 87) (.s 88)), gO 90 (.ia 2 (.s 85) (.s 89)), gO 91 (.ld (some 2) (.s 90)), gO 92 (.bsl (.agg [(.lit (.int .i64 0)), (.lit (.int .i64 0))]) 2 1 [(0, (.s 91))]), gO 93 (.app 2 (.s 83) (.s 92)), gO 94 (.fa 0 (.s 6)), ⟨none, none, .st 1 (.s 94) (.s 93)⟩]))) (.reg [gO 58 (.mv (.s 7)), gO 59 (.bin .add (.s 58) (cI 1)), gO 7 (.mv (.s 59))])))))) (.seq (.seq (.reg [gO 8 (.mv (cI 0))]) (.block 2 (.loop [8, 4, 5, 3, 1, 6] (.seq (.seq (.reg [gO 95 (.mv (.s 8)), gO 96 (.mv (.s 4)), gO 97 (.bin .lss (.s 95) (.s 96))]) (.cond (.s 97) .skip (.exit 2))) (.seq (.block 3 (.reg [gO 100 (.fa 1 (.s 5)), gO 101 (.ld none (.s 100)), gO 102 (.mv (.s 3)), gO 103 (.fa 1 (.s 1)), gO 104 (.ld none (.s 103)), gO 105 (.mv (.s 8)), gO 106 (.ia 2 (.s 104) (.s 105)), gO 107 (.fa 1 (.s 106)), gO 108 (.ld none (.s 107)), gO 109 (.bin .sub (.s 102) (.s 108)), gO 110 (.mv (.s 3)), gO 111 (.fa 1 (.s 1)), gO 112 (.ld none (.s 111)), gO 113 (.mv (.s 8)), gO 114 (.ia 2 (.s 112) (.s 113)), gO 115 (.fa 0 (.s 114)), gO 116 (.ld none (.s 115)), gO 117 (.bin .sub (.s 110) (.s 116)), gO 118 (.build [(.lit (.int .i64 0)), (.lit (.int .i64 0))] [(0, (1, (.s 109))), (1, (1, (.s 117)))]), gO 119 (.bsl (.agg [(.lit (.int .i64 0)), (.lit (.int .i64 0))]) 2 1 [(0, (.s 118))]), gO 120 (.app 2 (.s 101) (.s 119)), gO 121 (.fa 1 (.s 5)), ⟨none, none, .st 1 (.s 121) (.s 120)⟩])) (.reg [gO 98 (.mv (.s 8)), gO 99 (.bin .add (.s 98) (cI 1)), gO 8 (.mv (.s 99))])))))) (.seq (.give 5 (.give 6 (.reg [gO 9 (.new (.agg [(.lit (.slice none 0 0)), (.lit (.slice none 0 0))])), gO 122 (.fa 1 (.s 1)), gO 123 (.ld none (.s 122)), gO 124 (.call 6 [.s 123]), gO 125 (.fa 0 (.s 1)), gO 126 (.ld none (.s 125)), gO 127 (.call 6 [.s 126]), gO 128 (.build [(.lit (.slice none 0 0)), (.lit (.slice none 0 0))] [(0, (1, (.s 124))), (1, (1, (.s 127)))]), gO 9 (.nilck (.s 9)), ⟨none, none, .st 2 (.s 9) (.s 128)⟩]))) (.seq (.reg [gO 130 (.ld (some 2) (.s 1)), gO 131 (.call 8 [.s 130]), gO 132 (.call 7 [.s 131]), gO 129 (.mv (.s 132)), gO 133 (.ext (.s 129) 0), gO 134 (.ext (.s 129) 1), gO 10 (.new (.agg [(.lit (.int .i64 0)), (.lit (.int .i64 0))])), ⟨none, none, .st 2 (.s 10) (.s 133)⟩, gO 11 (.mv (.s 134))]) (.seq (.reg [gO 136 (.ld (some 2) (.s 5)), gO 137 (.call 8 [.s 136]), gO 138 (.call 7 [.s 137]), gO 135 (.mv (.s 138)), gO 139 (.ext (.s 135) 0), gO 140 (.ext (.s 135) 1), gO 12 (.new (.agg [(.lit (.int .i64 0)), (.lit (.int .i64 0))])), ⟨none, none, .st 2 (.s 12) (.s 139)⟩, gO 13 (.mv (.s 140))]) (.seq (.reg [gO 142 (.ld (some 2) (.s 9)), gO 143 (.call 7 [.s 142]), gO 141 (.mv (.s 143)), gO 144 (.ext (.s 141) 0), gO 145 (.ext (.s 141) 1), gO 14 (.new (.agg [(.lit (.int .i64 0)), (.lit (.int .i64 0))])), ⟨none, none, .st 2 (.s 14) (.s 144)⟩, gO 15 (.mv (.s 145))]) (.seq (.reg [gO 147 (.ld (some 2) (.s 1)), gO 148 (.call 8 [.s 147]), gO 149 (.call 9 [.s 148]), gO 146 (.mv (.s 149)), gO 150 (.ext (.s 146) 0), gO 151 (.ext (.s 146) 1), gO 16 (.new (.agg [(.lit (.slice none 0 0)), (.lit (.slice none 0 0))])), ⟨none, none, .st 2 (.s 16) (.s 150)⟩, gO 17 (.mv (.s 151))]) (.seq (.reg [gO 153 (.ld (some 2) (.s 5)), gO 154 (.call 9 [.s 153]), gO 152 (.mv (.s 154)), gO 155 (.ext (.s 152) 0), gO 156 (.ext (.s 152) 1), gO 18 (.new (.agg [(.lit (.slice none 0 0)), (.lit (.slice none 0 0))])), ⟨none, none, .st 2 (.s 18) (.s 155)⟩, gO 19 (.mv (.s 156))]) (.seq (.seq (.reg [gO 157 (.mv (.s 11)), gO 158 (.mv (.s 13)), gO 159 (.bin .neq (.s 157) (.s 158)), gO 160 (.mv (.s 159)), ⟨some (160, false), some 161, .mv (.s 11)⟩, ⟨some (160, false), some 162, .mv (.s 15)⟩, ⟨some (160, false), some 163, .bin .neq (.s 161) (.s 162)⟩, gO 164 (.pick (.s 160) cT (.s 163)), gO 165 (.mv (.s 164)), ⟨some (165, false), some 166, .mv (.s 11)⟩, ⟨some (165, false), some 167, .mv (.s 17)⟩, ⟨some (165, false), some 168, .bin .neq (.s 166) (.s 167)⟩, gO 169 (.pick (.s 165) cT (.s 168)), gO 170 (.mv (.s 169)), ⟨some (170, false), some 171, .mv (.s 11)⟩, ⟨some (170, false), some 172, .mv (.s 19)⟩, ⟨some (170, false), some 173, .bin .neq (.s 171) (.s 172)⟩, gO 174 (.pick (.s 170) cT (.s 173))]) (.cond (.s 174) (.seq (.reg [gO 2 (.mv cF)]) .ret) .skip)) (.seq (.seq (.reg [gO 175 (.mv (.s 11)), gO 176 (.bin .neq (.s 175) (cI 0))]) (.cond (.s 176) (.seq (.reg [gO 177 (.mv (.s 11)), gO 178 (.bin .eql (.s 177) (cI 12)), gO 2 (.mv (.s 178))]) .ret) .skip)) (.seq (.reg [gO 179 (.mv (.s 3)), gO 180 (.mv (.s 4)), gO 181 (.bin .mul (.s 179) (.s 180)), gO 20 (.mv (.s 181))]) (.seq (.seq (.reg [gO 182 (.fa 0 (.s 10)), gO 183 (.ld none (.s 182)), gO 184 (.fa 1 (.s 10)), gO 185 (.ld none (.s 184)), gO 186 (.call 10 [.s 183, (cI 0), .s 185]), gO 187 (.un .not (.s 186)), gO 188 (.mv (.s 187)), ⟨some (188, false), some 189, .fa 1 (.s 10)⟩, ⟨some (188, false), some 190, .ld none (.s 189)⟩, ⟨some (188, false), some 191, .mv (.s 20)⟩, ⟨some (188, false), some 192, .bin .gtr (.s 190) (.s 191)⟩, gO 193 (.pick (.s 188) cT (.s 192)), gO 194 (.mv (.s 193)), ⟨some (194, false), some 195, .ld (some 2) (.s 12)⟩, ⟨some (194, false), some 196, .mv (.s 20)⟩, ⟨some (194, false), some 197, .fa 1 (.s 10)⟩, ⟨some (194, false), some 198, .ld none (.s 197)⟩, ⟨some (194, false), some 199, .bin .sub (.s 196) (.s 198)⟩, ⟨some (194, false), some 200, .mv (.s 20)⟩, ⟨some (194, false), some 201, .fa 0 (.s 10)⟩, ⟨some (194, false), some 202, .ld none (.s 201)⟩, ⟨some (194, false), some 203, .bin .sub (.s 200) (.s 202)⟩, ⟨some (194, false), some 204, .build [(.lit (.int .i64 0)), (.lit (.int .i64 0))] [(0, (1, (.s 199))), (1, (1, (.s 203)))]⟩, ⟨some (194, false), some 205, .eqa 2 true (.s 195) (.s 204)⟩, gO 206 (.pick (.s 194) cT (.s 205)), gO 207 (.mv (.s 206)), ⟨some (207, false), some 208, .ld (some 2) (.s 14)⟩, ⟨some (207, false), some 209, .ld (some 2) (.s 10)⟩, ⟨some (207, false), some 210, .eqa 2 true (.s 208) (.s 209)⟩, gO 211 (.pick (.s 207) cT (.s 210)), gO 212 (.mv (.s 211)), ⟨some (212, false), some 213, .fa 0 (.s 16)⟩, ⟨some (212, false), some 214, .ld none (.s 213)⟩, ⟨some (212, false), some 215, .fa 1 (.s 18)⟩, ⟨some (212, false), some 216, .ld none (.s 215)⟩, ⟨some (212, false), some 217, .call 11 [.s 214, .s 216]⟩, ⟨some (212, false), some 218, .un .not (.s 217)⟩, gO 219 (.pick (.s 212) cT (.s 218)), gO 220 (.mv (.s 219)), ⟨some (220, false), some 221, .fa 1 (.s 16)⟩, ⟨some (220, false), some 222, .ld none (.s 221)⟩, ⟨some (220, false), some 223, .fa 0 (.s 18)⟩, ⟨some (220, false), some 224, .ld none (.s 223)⟩, ⟨some (220, false), some 225, .call 11 [.s 222, .s 224]⟩, ⟨some (220, false), some 226, .un .not (.s 225)⟩, gO 227 (.pick (.s 220) cT (.s 226))]) (.cond (.s 227) (.seq (.reg [gO 2 (.mv cF)]) .ret) .skip)) (.seq (.reg [gO 229 (.ld (some 2) (.s 1)), gO 230 (.call 8 [.s 229]), gO 231 (.call 12 [.s 230]), gO 228 (.mv (.s 231)), gO 232 (.ext (.s 228) 0), gO 233 (.ext (.s 228) 1), gO 21 (.mv (.s 232)), gO 22 (.mv (.s 233))]) (.seq (.seq (.reg [gO 234 (.mv (.s 22)), gO 235 (.bin .neq (.s 234) (cI 0)), gO 236 (.mv (.s 235)), ⟨some (236, false), some 237, .mv (.s 21)⟩, ⟨some (236, false), some 238, .len (.s 237)⟩, ⟨some (236, false), some 239, .mv (.s 3)⟩, ⟨some (236, false), some 240, .bin .neq (.s 238) (.s 239)⟩, gO 241 (.pick (.s 236) cT (.s 240))]) (.cond (.s 241) (.seq (.reg [gO 2 (.mv cF)]) .ret) .skip)) (.seq (.reg [gO 23 (.nil0 1)]) (.seq (.seq (.reg [gO 242 (.mv (.s 3)), gO 243 (.bin .sub (.s 242) (cI 1)), gO 24 (.mv (.s 243))]) (.block 4 (.loop [24, 23, 21, 6, 10] (.seq (.seq (.reg [gO 244 (.mv (.s 24)), gO 245 (.bin .geq (.s 244) (cI 0))]) (.cond (.s 245) .skip (.exit 4))) (.seq (.block 5 (.reg [gO 248 (.mv (.s 23)), gO 249 (.mv (.s 21)), gO 250 (.mv (.s 24)), gO 251 (.ia 1 (.s 249) (.s 250)), gO 252 (.ld none (.s 251)), gO 253 (.bsl (.lit (.int .i64 0)) 1 1 [(0, (.s 252))]), gO 254 (.app 1 (.s 248) (.s 253)), gO 23 (.mv (.s 254))])) (.reg [gO 246 (.mv (.s 24)), gO 247 (.bin .sub (.s 246) (cI 1)), gO 24 (.mv (.s 247))])))))) (.seq (.reg [gO 256 (.ld (some 2) (.s 6)), gO 257 (.mv (.s 23)), gO 258 (.call 13 [.s 256, .s 257]), gO 255 (.mv (.s 258)), gO 259 (.ext (.s 255) 0), gO 260 (.ext (.s 255) 1), gO 25 (.mv (.s 259)), gO 26 (.mv (.s 260))]) (.seq (.reg [gO 261 (.mv (.s 26)), gO 262 (.bin .eql (.s 261) (cI 0)), gO 263 (.mv (.s 262)), ⟨some (263, true), some 264, .mv (.s 25)⟩, ⟨some (263, true), some 265, .fa 0 (.s 10)⟩, ⟨some (263, true), some 266, .ld none (.s 265)⟩, ⟨some (263, true), some 267, .fa 1 (.s 10)⟩, ⟨some (263, true), some 268, .ld none (.s 267)⟩, ⟨some (263, true), some 269, .call 10 [.s 264, .s 266, .s 268]⟩, gO 270 (.pick (.s 263) (.s 269) cF), gO 2 (.mv (.s 270))]) .ret)))))))))))))))))))))))⟩ : MF).body
theorem mf_lawMi : MT.mf 3 = some ⟨271, [(.tmp 2)], (.seq (.reg [gO 1 (.box 2 (.s 0)), gO 2 (.mv cF)]) (.seq (.seq (.reg [gO 27 (.call 4 []), gO 28 (.un .not (.s 27))]) (.cond (.s 28) (.seq (.reg [gO 2 (.mv cF)]) .ret) .skip)) (.seq (.seq (.reg [gO 29 (.ld (some 2) (.s 1)), gO 30 (.call 5 [.s 29]), gO 31 (.bin .neq (.s 30) (cI 0)), gO 32 (.mv (.s 31)), ⟨some (32, false), some 33, .fa 0 (.s 1)⟩, ⟨some (32, false), some 34, .ld none (.s 33)⟩, ⟨some (32, false), some 35, .len (.s 34)⟩, ⟨some (32, false), some 36, .bin .gtr (.s 35) (cI 4)⟩, gO 37 (.pick (.s 32) cT (.s 36)), gO 38 (.mv (.s 37)), ⟨some (38, false), some 39, .fa 1 (.s 1)⟩, ⟨some (38, false), some 40, .ld none (.s 39)⟩, ⟨some (38, false), some 41, .len (.s 40)⟩, ⟨some (38, false), some 42, .bin .gtr (.s 41) (cI 4)⟩, gO 43 (.pick (.s 38) cT (.s 42))]) (.cond (.s 43) (.seq (.reg [gO 2 (.mv cT)]) .ret) .skip)) (.seq (.reg [gO 44 (.fa 0 (.s 1)), gO 45 (.ld none (.s 44)), gO 46 (.len (.s 45)), gO 47 (.fa 1 (.s 1)), gO 48 (.ld none (.s 47)), gO 49 (.len (.s 48)), gO 3 (.mv (.s 46)), gO 4 (.mv (.s 49))]) (.seq (.reg [gO 50 (.build [(.lit (.slice none 0 0)), (.lit (.slice none 0 0))] []), gO 51 (.fa 1 (.s 1)), gO 52 (.ld none (.s 51)), gO 53 (.call 6 [.s 52]), gO 54 (.build [(.lit (.slice none 0 0)), (.lit (.slice none 0 0))] [(1, (1, (.s 53)))]), gO 5 (.new (.agg [(.lit (.slice none 0 0)), (.lit (.slice none 0 0))])), gO 6 (.new (.agg [(.lit (.slice none 0 0)), (.lit (.slice none 0 0))])), ⟨none, none, .st 2 (.s 5) (.s 50)⟩, ⟨none, none, .st 2 (.s 6) (.s 54)⟩]) (.seq (.seq (.reg [gO 7 (.mv (cI 0))]) (.block 0 (.loop [7, 3, 5, 4, 1, 6] (.seq (.seq (.reg [gO 55 (.mv (.s 7)), gO 56 (.mv (.s 3)), gO 57 (.bin .lss (.s 55) (.s 56))]) (.cond (.s 57) .skip (.exit 0))) (.seq (.block 1 (.seq (.reg [gO 60 (.fa 0 (.s 5)), gO 61 (.ld none (.s 60)), gO 62 (.mv (.s 4)), gO 63 (.fa 0 (.s 1)), gO 64 (.ld none (.s 63)), gO 65 (.mv (.s 7)), gO 66 (.ia 2 (.s 64) (.s 65)), gO 67 (.fa 1 (.s 66)), gO 68 (.ld none (.s 67)), gO 69 (.bin .sub (.s 62) (.s 68)), gO 70 (.mv (.s 4)), gO 71 (.fa 0 (.s 1)), gO 72 (.ld none (.s 71)), gO 73 (.mv (.s 7)), gO 74 (.ia 2 (.s 72) (.s 73)), gO 75 (.fa 0 (.s 74)), gO 76 (.ld none (.s 75)), gO 77 (.bin .sub (.s 70) (.s 76)), gO 78 (.build [(.lit (.int .i64 0)), (.lit (.int .i64 0))] [(0, (1, (.s 69))), (1, (1, (.s 77)))]), gO 79 (.bsl (.agg [(.lit (.int .i64 0)), (.lit (.int .i64 0))]) 2 1 [(0, (.s 78))]), gO 80 (.app 2 (.s 61) (.s 79)), gO 81 (.fa 0 (.s 5)), ⟨none, none, .st 1 (.s 81) (.s 80)⟩]) (.reg [gO 82 (.fa 0 (.s 6)), gO 83 (.ld none (.s 82)), gO 84 (.fa 0 (.s 1)), gO 85 (.ld none (.s 84)), gO 86 (.mv (.s 3)), gO 87 (.bin .sub (.s 86) (cI 1)), gO 88 (.mv (.s 7)), gO 89 (.bin .sub (.s 87) (.s 88)), gO 90 (.ia 2 (.s 85) (.s 89)), gO 91 (.ld (some 2) (.s 90)), gO 92 (.bsl (.agg [(.lit (.int .i64 0)), (.lit (.int .i64 0))]) 2 1 [(0, (.s 91))]), gO 93 (.app 2 (.s 83) (.s 92)), gO 94 (.fa 0 (.s 6)), ⟨none, none, .st 1 (.s 94) (.s 93)⟩]))) (.reg [gO 58 (.mv (.s 7)), gO 59 (.bin .add (.s 58) (cI 1)), gO 7 (.mv (.s 59))])))))) (.seq (.seq (.reg [gO 8 (.mv (cI 0))]) (.block 2 (.loop [8, 4, 5, 3, 1, 6] (.seq (.seq (.reg [gO 95 (.mv (.s 8)), gO 96 (.mv (.s 4)), gO 97 (.bin .lss (.s 95) (.s 96))]) (.cond (.s 97) .skip (.exit 2))) (.seq (.block 3 (.reg [gO 100 (.fa 1 (.s 5)), gO 101 (.ld none (.s 100)), gO 102 (.mv (.s 3)), gO 103 (.fa 1 (.s 1)), gO 104 (.ld none (.s 103)), gO 105 (.mv (.s 8)), gO 106 (.ia 2 (.s 104) (.s 105)), gO 107 (.fa 1 (.s 106)), gO 108 (.ld none (.s 107)), gO 109 (.bin .sub (.s 102) (.s 108)), gO 110 (.mv (.s 3)), gO 111 (.fa 1 (.s 1)), gO 112 (.ld none (.s 111)), gO 113 (.mv (.s 8)), gO 114 (.ia 2 (.s 112) (.s 113)), gO 115 (.fa 0 (.s 114)), gO 116 (.ld none (.s 115)), gO 117 (.bin .sub (.s 110) (.s 116)), gO 118 (.build [(.lit (.int .i64 0)), (.lit (.int .i64 0))] [(0, (1, (.s 109))), (1, (1, (.s 117)))]), gO 119 (.bsl (.agg [(.lit (.int .i64 0)), (.lit (.int .i64 0))]) 2 1 [(0, (.s 118))]), gO 120 (.app 2 (.s 101) (.s 119)), gO 121 (.fa 1 (.s 5)), ⟨none, none, .st 1 (.s 121) (.s 120)⟩])) (.reg [gO 98 (.mv (.s 8)), gO 99 (.bin .add (.s 98) (cI 1)), gO 8 (.mv (.s 99))])))))) (.seq (.give 5 (.give 6 (.reg [gO 9 (.new (.agg [(.lit (.slice none 0 0)), (.lit (.slice none 0 0))])), gO 122 (.fa 1 (.s 1)), gO 123 (.ld none (.s 122)), gO 124 (.call 6 [.s 123]), gO 125 (.fa 0 (.s 1)), gO 126 (.ld none (.s 125)), gO 127 (.call 6 [.s 126]), gO 128 (.build [(.lit (.slice none 0 0)), (.lit (.slice none 0 0))] [(0, (1, (.s 124))), (1, (1, (.s 127)))]), gO 9 (.nilck (.s 9)), ⟨none, none, .st 2 (.s 9) (.s 128)⟩]))) (.seq (.reg [gO 130 (.ld (some 2) (.s 1)), gO 131 (.call 8 [.s 130]), gO 132 (.call 7 [.s 131]), gO 129 (.mv (.s 132)), gO 133 (.ext (.s 129) 0), gO 134 (.ext (.s 129) 1), gO 10 (.new (.agg [(.lit (.int .i64 0)), (.lit (.int .i64 0))])), ⟨none, none, .st 2 (.s 10) (.s 133)⟩, gO 11 (.mv (.s 134))]) (.seq (.reg [gO 136 (.ld (some 2) (.s 5)), gO 137 (.call 8 [.s 136]), gO 138 (.call 7 [.s 137]), gO 135 (.mv (.s 138)), gO 139 (.ext (.s 135) 0), gO 140 (.ext (.s 135) 1), gO 12 (.new (.agg [(.lit (.int .i64 0)), (.lit (.int .i64 0))])), ⟨none, none, .st 2 (.s 12) (.s 139)⟩, gO 13 (.mv (.s 140))]) (.seq (.reg [gO 142 (.ld (some 2) (.s 9)), gO 143 (.call 7 [.s 142]), gO 141 (.mv (.s 143)), gO 144 (.ext (.s 141) 0), gO 145 (.ext (.s 141) 1), gO 14 (.new (.agg [(.lit (.int .i64 0)), (.lit (.int .i64 0))])), ⟨none, none, .st 2 (.s 14) (.s 144)⟩, gO 15 (.mv (.s 145))]) (.seq (.reg [gO 147 (.ld (some 2) (.s 1)), gO 148 (.call 8 [.s 147]), gO 149 (.call 9 [.s 148]), gO 146 (.mv (.s 149)), gO 150 (.ext (.s 146) 0), gO 151 (.ext (.s 146) 1), gO 16 (.new (.agg [(.lit (.slice none 0 0)), (.lit (.slice none 0 0))])), ⟨none, none, .st 2 (.s 16) (.s 150)⟩, gO 17 (.mv (.s 151))]) (.seq (.reg [gO 153 (.ld (some 2) (.s 5)), gO 154 (.call 9 [.s 153]), gO 152 (.mv (.s 154)), gO 155 (.ext (.s 152) 0), gO 156 (.ext (.s 152) 1), gO 18 (.new (.agg [(.lit (.slice none 0 0)), (.lit (.slice none 0 0))])), ⟨none, none, .st 2 (.s 18) (.s 155)⟩, gO 19 (.mv (.s 156))]) (.seq (.seq (.reg [gO 157 (.mv (.s 11)), gO 158 (.mv (.s 13)), gO 159 (.bin .neq (.s 157) (.s 158)), gO 160 (.mv (.s 159)), ⟨some (160, false), some 161, .mv (.s 11)⟩, ⟨some (160, false), some 162, .mv (.s 15)⟩, ⟨some (160, false), some 163, .bin .neq (.s 161) (.s 162)⟩, gO 164 (.pick (.s 160) cT (.s 163)), gO 165 (.mv (.s 164)), ⟨some (165, false), some 166, .mv (.s 11)⟩, ⟨some (165, false), some 167, .mv (.s 17)⟩, ⟨some (165, false), some 168, .bin .neq (.s 166) (.s 167)⟩, gO 169 (.pick (.s 165) cT (.s 168)), gO 170 (.mv (.s 169)), ⟨some (170, false), some 171, .mv (.s 11)⟩, ⟨some (170, false), some 172, .mv (.s 19)⟩, ⟨some (170, false), some 173, .bin .neq (.s 171) (.s 172)⟩, gO 174 (.pick (.s 170) cT (.s 173))]) (.cond (.s 174) (.seq (.reg [gO 2 (.mv cF)]) .ret) .skip)) (.seq (.seq (.reg [gO 175 (.mv (.s 11)), gO 176 (.bin .neq (.s 175) (cI 0))]) (.cond (.s 176) (.seq (.reg [gO 177 (.mv (.s 11)), gO 178 (.bin .eql (.s 177) (cI 12)), gO 2 (.mv (.s 178))]) .ret) .skip)) (.seq (.reg [gO 179 (.mv (.s 3)), gO 180 (.mv (.s 4)), gO 181 (.bin .mul (.s 179) (.s 180)), gO 20 (.mv (.s 181))]) (.seq (.seq (.reg [gO 182 (.fa 0 (.s 10)), gO 183 (.ld none (.s 182)), gO 184 (.fa 1 (.s 10)), gO 185 (.ld none (.s 184)), gO 186 (.call 10 [.s 183, (cI 0), .s 185]), gO 187 (.un .not (.s 186)), gO 188 (.mv (.s 187)), ⟨some (188, false), some 189, .fa 1 (.s 10)⟩, ⟨some (188, false), some 190, .ld none (.s 189)⟩, ⟨some (188, false), some 191, .mv (.s 20)⟩, ⟨some (188, false), some 192, .bin .gtr (.s 190) (.s 191)⟩, gO 193 (.pick (.s 188) cT (.s 192)), gO 194 (.mv (.s 193)), ⟨some (194, false), some 195, .ld (some 2) (.s 12)⟩, ⟨some (194, false), some 196, .mv (.s 20)⟩, ⟨some (194, false), some 197, .fa 1 (.s 10)⟩, ⟨some (194, false), some 198, .ld none (.s 197)⟩, ⟨some (194, false), some 199, .bin .sub (.s 196) (.s 198)⟩, ⟨some (194, false), some 200, .mv (.s 20)⟩, ⟨some (194, false), some 201, .fa 0 (.s 10)⟩, ⟨some (194, false), some 202, .ld none (.s 201)⟩, ⟨some (194, false), some 203, .bin .sub (.s 200) (.s 202)⟩, ⟨some (194, false), some 204, .build [(.lit (.int .i64 0)), (.lit (.int .i64 0))] [(0, (1, (.s 199))), (1, (1, (.s 203)))]⟩, ⟨some (194, false), some 205, .eqa 2 true (.s 195) (.s 204)⟩, gO 206 (.pick (.s 194) cT (.s 205)), gO 207 (.mv (.s 206)), ⟨some (207, false), some 208, .ld (some 2) (.s 14)⟩, ⟨some (207, false), some 209, .ld (some 2) (.s 10)⟩, ⟨some (207, false), some 210, .eqa 2 true (.s 208) (.s 209)⟩, gO 211 (.pick (.s 207) cT (.s 210)), gO 212 (.mv (.s 211)), ⟨some (212, false), some 213, .fa 0 (.s 16)⟩, ⟨some (212, false), some 214, .ld none (.s 213)⟩, ⟨some (212, false), some 215, .fa 1 (.s 18)⟩, ⟨some (212, false), some 216, .ld none (.s 215)⟩, ⟨some (212, false), some 217, .call 11 [.s 214, .s 216]⟩, ⟨some (212, false), some 218, .un .not (.s 217)⟩, gO 219 (.pick (.s 212) cT (.s 218)), gO 220 (.mv (.s 219)), ⟨some (220, false), some 221, .fa 1 (.s 16)⟩, ⟨some (220, false), some 222, .ld none (.s 221)⟩, ⟨some (220, false), some 223, .fa 0 (.s 18)⟩, ⟨some (220, false), some 224, .ld none (.s 223)⟩, ⟨some (220, false), some 225, .call 11 [.s 222, .s 224]⟩, ⟨some (220, false), some 226, .un .not (.s 225)⟩, gO 227 (.pick (.s 220) cT (.s 226))]) (.cond (.s 227) (.seq (.reg [gO 2 (.mv cF)]) .ret) .skip)) (.seq (.reg [gO 229 (.ld (some 2) (.s 1)), gO 230 (.call 8 [.s 229]), gO 231 (.call 12 [.s 230]), gO 228 (.mv (.s 231)), gO 232 (.ext (.s 228) 0), gO 233 (.ext (.s 228) 1), gO 21 (.mv (.s 232)), gO 22 (.mv (.s 233))]) (.seq (.seq (.reg [gO 234 (.mv (.s 22)), gO 235 (.bin .neq (.s 234) (cI 0)), gO 236 (.mv (.s 235)), ⟨some (236, false), some 237, .mv (.s 21)⟩, ⟨some (236, false), some 238, .len (.s 237)⟩, ⟨some (236, false), some 239, .mv (.s 3)⟩, ⟨some (236, false), some 240, .bin .neq (.s 238) (.s 239)⟩, gO 241 (.pick (.s 236) cT (.s 240))]) (.cond (.s 241) (.seq (.reg [gO 2 (.mv cF)]) .ret) .skip)) (.seq (.reg [gO 23 (.nil0 1)]) (.seq (.seq (.reg [gO 242 (.mv (.s 3)), gO 243 (.bin .sub (.s 242) (cI 1)), gO 24 (.mv (.s 243))]) (.block 4 (.loop [24, 23, 21, 6, 10] (.seq (.seq (.reg [gO 244 (.mv (.s 24)), gO 245 (.bin .geq (.s 244) (cI 0))]) (.cond (.s 245) .skip (.exit 4))) (.seq (.block 5 (.reg [gO 248 (.mv (.s 23)), gO 249 (.mv (.s 21)), gO 250 (.mv (.s 24)), gO 251 (.ia 1 (.s 249) (.s 250)), gO 252 (.ld none (.s 251)), gO 253 (.bsl (.lit (.int .i64 0)) 1 1 [(0, (.s 252))]), gO 254 (.app 1 (.s 248) (.s 253)), gO 23 (.mv (.s 254))])) (.reg [gO 246 (.mv (.s 24)), gO 247 (.bin .sub (.s 246) (cI 1)), gO 24 (.mv (.s 247))])))))) (.seq (.reg [gO 256 (.ld (some 2) (.s 6)), gO 257 (.mv (.s 23)), gO 258 (.call 13 [.s 256, .s 257]), gO 255 (.mv (.s 258)), gO 259 (.ext (.s 255) 0), gO 260 (.ext (.s 255) 1), gO 25 (.mv (.s 259)), gO 26 (.mv (.s 260))]) (.seq (.reg [gO 261 (.mv (.s 26)), gO 262 (.bin .eql (.s 261) (cI 0)), gO 263 (.mv (.s 262)), ⟨some (263, true), some 264, .mv (.s 25)⟩, ⟨some (263, true), some 265, .fa 0 (.s 10)⟩, ⟨some (263, true), some 266, .ld none (.s 265)⟩, ⟨some (263, true), some 267, .fa 1 (.s 10)⟩, ⟨some (263, true), some 268, .ld none (.s 267)⟩, ⟨some (263, true), some 269, .call 10 [.s 264, .s 266, .s 268]⟩, gO 270 (.pick (.s 263) (.s 269) cF), gO 2 (.mv (.s 270))]) .ret)))))))))))))))))))))))⟩ := by kernel_rfl
abbrev EfMi (k : Nat) (A : Sl) (h : MHeap) : Prop := Ef (orA 14) (itA 14) 4000000 271 (fun _ => false) (MC.rest k bodyMi) A h (FinF [.tmp 2] (Bo true) [])
set_option maxHeartbeats 4000000 in
set_option maxRecDepth 4000 in
theorem Mirror_p1 (R C : List (Int × Int))
  (hp : ValS R C → R.length ≤ 4 → C.length ≤ 4 → ∀ i g1 g2 G, R.length = i + 1 → EfMi 6 [(1, .ptr 0 0 0 0), (3, I64 (R.length : Int)), (4, I64 (C.length : Int)), (5, .ptr 2 0 0 0), (6, .ptr 3 0 0 0)] (mem1 R C g1 g2 nilM (i + 1) G)) :
  runZ MT (orA 14) (itA 14) 4000000 3 [encS R C] [] = some (Bo true, []) := by
 unfold EfMi at hp
 have hb : MC.cut 6 bodyMi (MC.rest 6 bodyMi) = bodyMi := cut_rest 6 bodyMi
 generalize MC.rest 6 bodyMi = R6 at hp hb
 have hmf : MT.mf 3 = some ⟨271, [.tmp 2], MC.cut 6 bodyMi R6⟩ := by rw [hb]; exact mf_lawMi
 refine runZ_of hmf (by simp) ?_
 clear hmf hb
 replace hp := Bx.mk hp
 simp only [argsL]
 have hs1 : (MV.sl (R.map encP)).slen = some R.length := by simp [MV.slen]
 have hs2 : (MV.sl (C.map encP)).slen = some C.length := by simp [MV.slen]
 have se := fun h => rSErr_c 10 R C h
 by_cases h0 : (chkS R C).2 = 0
 case neg =>
  generalize (chkS R C).2 = e at *
  repeat (first | apply ef_seq | (apply ef_mv; exact rfl; exact rfl) | (apply ef_bin; (iterate 3 exact rfl); (exact cmp_t rfl (by first | exact rfl | (simp only [cmpP]; omega)))) | (apply ef_gn; exact rfl; (exact (rfl : true = true)); exact rfl) | (apply ef_pick; (iterate 3 exact rfl)) | (apply ef_ldp; exact rfl; exact rfl; (exact rfl); exact rfl; (exact rfl); (exact rd_2 rfl rfl)) | (apply ef_notT; exact rfl; exact rfl) | (apply ef_box; (iterate 4 exact rfl)) | apply ef_nil | apply seqQ.normal | apply ef_ret | apply seqQ.ret | apply ef_skip | (apply ef_condt; exact rfl; (exact (rfl : true = true))) | (apply ef_condf; exact rfl; (exact (rfl : false = false))) | (apply ef_call; exact rfl; ((repeat (apply XVs.cons; exact rfl)); exact XVs.nil); (with_reducible first | exact shown_c _ | exact se _)))
  (refine fin1 rfl (by exact rfl) rfl ?_)
  rfl
 have hv := chkS_val h0
 have h5 := hv.r5
 have h6 := hv.c5
 have h7 := hv.r1
 rw [h0] at se
 by_cases h1 : R.length ≤ 4
 case neg =>
  repeat (first | apply ef_seq | (apply ef_mv; exact rfl; exact rfl) | (apply ef_bin; (iterate 3 exact rfl); (first | exact cmp_t rfl (by first | exact rfl | (simp only [cmpP]; omega)) | exact cmp_f rfl (by simp only [cmpP]; omega))) | (apply ef_gy; exact rfl; (exact (rfl : false = false))) | (apply ef_gn; exact rfl; (exact (rfl : true = true)); exact rfl) | (apply ef_pick; (iterate 3 exact rfl)) | (apply ef_len; exact rfl; exact rfl; (assumption)) | (apply ef_ldp; exact rfl; exact rfl; (exact rfl); exact rfl; (exact rfl); (first | exact rd_2 rfl rfl | exact rfl)) | (apply ef_fap; exact rfl; exact rfl) | (apply ef_notT; exact rfl; exact rfl) | (apply ef_box; (iterate 4 exact rfl)) | apply ef_nil | apply seqQ.normal | apply ef_ret | apply seqQ.ret | apply ef_skip | (apply ef_condt; exact rfl; (exact (rfl : true = true))) | (apply ef_condf; exact rfl; (exact (rfl : false = false))) | (apply ef_call; exact rfl; ((repeat (apply XVs.cons; exact rfl)); exact XVs.nil); (with_reducible first | exact shown_c _ | exact se _)))
  (refine fin1 rfl (by exact rfl) rfl ?_)
  rfl
 by_cases h2 : C.length ≤ 4
 case neg =>
  repeat (first | apply ef_seq | (apply ef_mv; exact rfl; exact rfl) | (apply ef_bin; (iterate 3 exact rfl); (first | exact cmp_t rfl (by first | exact rfl | (simp only [cmpP]; omega)) | exact cmp_f rfl (by simp only [cmpP]; omega))) | (apply ef_gy; exact rfl; (exact (rfl : false = false))) | (apply ef_pick; (iterate 3 exact rfl)) | (apply ef_len; exact rfl; exact rfl; (assumption)) | (apply ef_ldp; exact rfl; exact rfl; (exact rfl); exact rfl; (exact rfl); (first | exact rd_2 rfl rfl | exact rfl)) | (apply ef_fap; exact rfl; exact rfl) | (apply ef_notT; exact rfl; exact rfl) | (apply ef_box; (iterate 4 exact rfl)) | apply ef_nil | apply seqQ.normal | apply ef_ret | apply seqQ.ret | apply ef_skip | (apply ef_condt; exact rfl; (exact (rfl : true = true))) | (apply ef_condf; exact rfl; (exact (rfl : false = false))) | (apply ef_call; exact rfl; ((repeat (apply XVs.cons; exact rfl)); exact XVs.nil); (with_reducible first | exact shown_c _ | exact se _)))
  (refine fin1 rfl (by exact rfl) rfl ?_)
  rfl
 replace hp := Bx.mk (hp.out hv h1 h2)
 have cr := fun h => bCopyRanges_c 13 C h (v := .sl (C.map encP)) (by omega) (frz_sl (encP_lt 0 C))
 repeat (first | apply ef_seq | (apply ef_mv; exact rfl; exact rfl) | (apply ef_bin; (iterate 3 exact rfl); (exact cmp_f rfl (by simp only [cmpP]; omega))) | (apply ef_gy; exact rfl; (exact (rfl : false = false))) | (apply ef_pick; (iterate 3 exact rfl)) | (apply ef_len; exact rfl; exact rfl; (assumption)) | (apply ef_ldp; exact rfl; exact rfl; (exact rfl); exact rfl; (exact rfl); (first | exact rd_2 rfl rfl | exact rfl)) | (apply ef_fap; exact rfl; exact rfl) | (apply ef_notT; exact rfl; exact rfl) | (apply ef_box; (iterate 4 exact rfl)) | (apply ef_new; exact rfl) | (apply ef_build; exact rfl; (repeat (apply XVs.cons; exact rfl)); exact XVs.nil; exact rfl; exact rfl) | (apply ef_st; (iterate 6 exact rfl); (exact rfl); (exact rfl)) | apply ef_nil | apply seqQ.normal | apply ef_block | apply ef_skip | (apply ef_condf; exact rfl; (exact (rfl : false = false))) | (apply ef_call; exact rfl; ((repeat (apply XVs.cons; exact rfl)); exact XVs.nil); (with_reducible first | exact shown_c _ | exact se _ | exact cr _)))
 have ha5 : ∀ i, ((oth C.length R).take i).length ≤ 5 := fun i => by rw [List.length_take, oth_len]; omega
 have hb5 : ∀ i, (R.reverse.take i).length ≤ 5 := fun i => by rw [List.length_take, List.length_reverse]; omega
 refine ef_loopg (α := Nat × MV × MV × MHeap) (fun a => a.1 ≤ R.length) (fun a => [(7, I64 (a.1 : Int))]) [(1, .ptr 0 0 0 0), (3, I64 (R.length : Int)), (4, I64 (C.length : Int)), (5, .ptr 2 0 0 0), (6, .ptr 3 0 0 0)] (fun a => mem1 R C a.2.1 a.2.2.1 nilM a.1 a.2.2.2) (fun a => R.length - a.1) (0, nilM, nilM, []) [7] (fun _ => rfl) (by ((repeat (refine Hold.cons (by exact rfl) ?_)); exact Hold.nil)) (by ((repeat (refine Hold.cons (by exact rfl) ?_)); exact Hold.nil)) rfl rfl rfl (by omega) (by simp; omega) ?_
 rintro ⟨i, g1, g2, G⟩ hi
 simp only at hi
 by_cases hlt : i < R.length
 ·obtain ⟨r, hr⟩ : ∃ r, R[i]? = some r := ⟨R[i], by simp [hlt]⟩
  obtain ⟨q, hq⟩ : ∃ q, R[R.length - 1 - i]? = some q := ⟨R[R.length - 1 - i]'(by omega), List.getElem?_eq_getElem (by omega)⟩
  have e1 : (R.map encP)[((i : Nat) : Int).toNat]? = some (encP r) := by rw [Int.toNat_natCast, List.getElem?_map, hr]; rfl
  have e2 : (R.map encP)[((R.length : Int) - 1 - (i : Int)).toNat]? = some (encP q) := by rw [show ((R.length : Int) - 1 - (i : Int)).toNat = R.length - 1 - i by omega, List.getElem?_map, hq]; rfl
  have hrr := hv.rr r (List.mem_of_getElem? hr)
  have t1 := oth_take C.length R hlt
  have t2 := rev_take R hlt
  rw [getD_some hr] at t1
  rw [getD_some hq] at t2
  have a5 := ha5 i
  have b5 := hb5 i
  have hol : (oth C.length R).length = R.length := oth_len _ _
  clear hr hq
  cases i with
  | zero =>
   show Ef _ _ _ _ _ _ _ [⟨0, false, 2, [encS R C]⟩, ⟨0, false, 2, C.map encP⟩, ⟨0, false, 2, [.agg [nilM, nilM]]⟩, ⟨0, false, 2, [.agg [nilM, .arr 1 0 C.length 0]]⟩] _
   repeat (first | apply ef_seq | (apply ef_mv; exact rfl; exact rfl) | (apply ef_bin; (iterate 3 exact rfl); (first | exact cmp_t rfl (by first | exact rfl | (simp only [cmpP]; omega)) | ((with_reducible refine bin_sub (wrap_of ?_ ?_)) <;> omega))) | (apply ef_ldr; exact rfl; exact rfl; (exact rfl)) | (apply ef_ldp; exact rfl; exact rfl; (exact rfl); exact rfl; (exact rfl); (exact rfl)) | (apply ef_ias; (iterate 3 exact rfl); (omega); assumption; exact rfl) | (apply ef_fap; exact rfl; exact rfl) | (apply ef_far; exact rfl; exact rfl) | (apply ef_build; exact rfl; (repeat (apply XVs.cons; exact rfl)); exact XVs.nil; exact rfl; exact rfl) | (apply ef_bsl; exact rfl; (repeat (apply XVs.cons; exact rfl)); exact XVs.nil; exact rfl) | apply ef_nil | apply seqQ.normal | apply ef_block | apply ef_skip | (apply ef_condt; exact rfl; (exact (rfl : true = true))))
   (apply ef_appn; (· exact rfl); (· exact rfl); (· exact rfl); (· exact elems_oneM _ _ _); (· simp); (· rfl))
   repeat (first | (apply ef_mv; exact rfl; exact rfl) | (apply ef_bin; (iterate 3 exact rfl); (((with_reducible refine bin_sub (wrap_of ?_ ?_)) <;> omega))) | (apply ef_ldr; exact rfl; exact rfl; (exact rd_2 rfl rfl)) | (apply ef_ldp; exact rfl; exact rfl; (exact rfl); exact rfl; (exact rfl); (exact rfl)) | (apply ef_ias; (iterate 3 exact rfl); (omega); assumption; exact rfl) | (apply ef_fap; exact rfl; exact rfl) | (apply ef_bsl; exact rfl; (repeat (apply XVs.cons; exact rfl)); exact XVs.nil; exact rfl) | (apply ef_st; (iterate 6 exact rfl); (exact rfl); (exact rfl)) | apply ef_nil | apply seqQ.normal)
   (apply ef_appn; (· exact rfl); (· exact rfl); (· exact rfl); (· exact elems_oneM _ _ _); (· simp); (· rfl))
   repeat (first | (apply ef_mv; exact rfl; exact rfl) | (apply ef_bin; (iterate 3 exact rfl); (((with_reducible refine bin_add (wrap_of ?_ ?_)) <;> omega))) | (apply ef_fap; exact rfl; exact rfl) | (apply ef_st; (iterate 6 exact rfl); (exact rfl); (exact rfl)) | apply ef_nil | apply seqQ.normal | apply blockQ.normal)
   refine loopQ.normal _ _ ⟨(1, encP ((C.length : Int) - r.2, (C.length : Int) - r.1), encP q, []), hlt, by simp only; omega, ⟨by ((repeat (refine Hold.cons (by exact rfl) ?_)); exact Hold.nil), by ((repeat (refine Hold.cons (by exact rfl) ?_)); exact Hold.nil)⟩, ?_⟩
   refine .cellE ?_ ?_
   ·show _ = mem1 R C _ _ nilM (0 + 1) []
    simp only [mem1, t1, t2, List.take_zero, List.nil_append, List.map_cons, List.map_nil]
    rfl
   ·show hltL 4 ((mem1 R C _ _ nilM (0 + 1) []).take 4) = false
    simp [mem1, hltL, ltL, MV.lt, encP_lt]
  | succ i =>
   show Ef _ _ _ _ _ _ _ (⟨0, false, 2, [encS R C]⟩ :: ⟨0, false, 2, C.map encP⟩ :: ⟨0, false, 2, [.agg [.arr 5 0 (i + 1) i, nilM]]⟩ :: ⟨0, false, 2, [.agg [.arr 7 0 (i + 1) i, .arr 1 0 C.length 0]]⟩ ::
    ⟨0, false, 2, [g1]⟩ :: ⟨i, false, 2, ((oth C.length R).take (i + 1)).map encP⟩ :: ⟨0, false, 2, [g2]⟩ :: ⟨i, false, 2, (R.reverse.take (i + 1)).map encP⟩ :: G) _
   have a6 : ((oth C.length R).take (i + 1)).length = i + 1 := by rw [List.length_take]; omega
   have b6 : (R.reverse.take (i + 1)).length = i + 1 := by rw [List.length_take, List.length_reverse]; omega
   repeat (first | apply ef_seq | (apply ef_mv; exact rfl; exact rfl) | (apply ef_bin; (iterate 3 exact rfl); (first | exact cmp_t rfl (by first | exact rfl | (simp only [cmpP]; omega)) | ((with_reducible refine bin_sub (wrap_of ?_ ?_)) <;> omega))) | (apply ef_ldr; exact rfl; exact rfl; (exact rfl)) | (apply ef_ldp; exact rfl; exact rfl; (exact rfl); exact rfl; (exact rfl); (exact rfl)) | (apply ef_ias; (iterate 3 exact rfl); (omega); assumption; exact rfl) | (apply ef_fap; exact rfl; exact rfl) | (apply ef_far; exact rfl; exact rfl) | (apply ef_build; exact rfl; (repeat (apply XVs.cons; exact rfl)); exact XVs.nil; exact rfl; exact rfl) | (apply ef_bsl; exact rfl; (repeat (apply XVs.cons; exact rfl)); exact XVs.nil; exact rfl) | apply ef_nil | apply seqQ.normal | apply ef_block | apply ef_skip | (apply ef_condt; exact rfl; (exact (rfl : true = true))))
   (apply ef_app; (· exact rfl); (· exact rfl); (· exact rfl); (· exact elems_oneM _ _ _); (· exact rfl); (· exact rfl); (· simp only [List.length_map, a6]; omega); (· exact rfl); (· simp only [List.length_map, a6, List.length_cons, List.length_nil]; omega); (· rfl); (· exact rfl))
   repeat (first | (apply ef_mv; exact rfl; exact rfl) | (apply ef_bin; (iterate 3 exact rfl); (((with_reducible refine bin_sub (wrap_of ?_ ?_)) <;> omega))) | (apply ef_ldr; exact rfl; exact rfl; (exact rd_2 rfl rfl)) | (apply ef_ldp; exact rfl; exact rfl; (exact rfl); exact rfl; (exact rfl); (exact rfl)) | (apply ef_ias; (iterate 3 exact rfl); (omega); assumption; exact rfl) | (apply ef_fap; exact rfl; exact rfl) | (apply ef_bsl; exact rfl; (repeat (apply XVs.cons; exact rfl)); exact XVs.nil; exact rfl) | (apply ef_st; (iterate 6 exact rfl); (exact rfl); (exact rfl)) | apply ef_nil | apply seqQ.normal)
   (apply ef_app; (· exact rfl); (· exact rfl); (· exact rfl); (· exact elems_oneM _ _ _); (· exact rfl); (· exact rfl); (· simp only [List.length_map, b6]; omega); (· exact rfl); (· simp only [List.length_map, b6, List.length_cons, List.length_nil]; omega); (· rfl); (· exact rfl))
   repeat (first | (apply ef_mv; exact rfl; exact rfl) | (apply ef_bin; (iterate 3 exact rfl); (((with_reducible refine bin_add (wrap_of ?_ ?_)) <;> omega))) | (apply ef_fap; exact rfl; exact rfl) | (apply ef_st; (iterate 6 exact rfl); (exact rfl); (exact rfl)) | apply ef_nil | apply seqQ.normal | apply blockQ.normal)
   refine loopQ.normal _ _ ⟨(i + 2, g1, g2, G ++ [⟨0, false, 2, [encP ((C.length : Int) - r.2, (C.length : Int) - r.1)]⟩] ++ [⟨0, false, 2, [encP q]⟩]), hlt, by simp only; omega, ⟨by ((repeat (refine Hold.cons (by exact rfl) ?_)); exact Hold.nil), by ((repeat (refine Hold.cons (by exact rfl) ?_)); exact Hold.nil)⟩, ?_⟩
   refine .cellE ?_ ?_
   ·show _ = mem1 R C g1 g2 nilM (i + 1 + 1) _
    simp only [mem1, t1, t2, List.map_append, List.map_cons, List.map_nil]
    rfl
   ·show hltL 4 ((mem1 R C g1 g2 nilM (i + 1 + 1) _).take 4) = false
    simp [mem1, hltL, ltL, MV.lt, encP_lt]
 ·obtain ⟨m, hm⟩ : ∃ m, R.length = m + 1 := ⟨R.length - 1, by omega⟩
  obtain rfl : i = m + 1 := by omega
  repeat (first | apply ef_seq | (apply ef_mv; exact rfl; exact rfl) | (apply ef_bin; (iterate 3 exact rfl); (exact cmp_f rfl (by simp only [cmpP]; omega))) | apply ef_nil | apply seqQ.normal | apply loopQ.exit | apply ef_exit | apply seqQ.exit | apply blockQ.here | (apply ef_condf; exact rfl; (exact (rfl : false = false))))
  exact ef_weak (by ((repeat (refine Hold.cons (by exact rfl) ?_)); exact Hold.nil)) (hp.out m g1 g2 G hm)
end Go.Proofs.YtnmgpbihknjdjaaDoor

/- TopTargetMirror: the second loop. -/
namespace Go.Proofs.YtnmgpbihknjdjaaDoor
open Go.RowKit
set_option linter.unusedVariables false
theorem mem1_T (R C : List (Int × Int)) (g1 g2 rc : MV) (i : Nat) (G T : MHeap) (k : Nat) : (mem1 R C g1 g2 rc (i + 1) (G ++ T))[8 + G.length + k]? = T[k]? := by
 have : 8 + G.length + k = (G.length + k) + 8 := by omega
 rw [this]
 show (G ++ T)[G.length + k]? = T[k]?
 rw [List.getElem?_append_right (by omega), show G.length + k - G.length = k by omega]
theorem mem1_setT (R C : List (Int × Int)) (g1 g2 rc : MV) (i : Nat) (G T : MHeap) (k : Nat) (o : MObj) : (mem1 R C g1 g2 rc (i + 1) (G ++ T)).set (8 + G.length + k) o = mem1 R C g1 g2 rc (i + 1) (G ++ T.set k o) := by
 have : 8 + G.length + k = (G.length + k) + 8 := by omega
 rw [this]
 have e : (G ++ T).set (G.length + k) o = G ++ T.set k o := by rw [List.set_append_right _ _ (by omega), show G.length + k - G.length = k by omega]
 rw [← e]; rfl
theorem mem1_push (R C : List (Int × Int)) (g1 g2 rc : MV) (i : Nat) (G T Y : MHeap) : mem1 R C g1 g2 rc (i + 1) (G ++ T) ++ Y = mem1 R C g1 g2 rc (i + 1) (G ++ (T ++ Y)) := by simp [mem1]
theorem mem1_len (R C : List (Int × Int)) (g1 g2 rc : MV) (i : Nat) (G T : MHeap) : (mem1 R C g1 g2 rc (i + 1) (G ++ T)).length = 8 + G.length + T.length := by simp [mem1]; omega
theorem mem1_cell (R C : List (Int × Int)) (g1 g2 rc rc' : MV) (i : Nat) (G : MHeap) : (mem1 R C g1 g2 rc (i + 1) G).set 2 ⟨0, false, 2, [.agg [.arr 5 0 (i + 1) i, rc']]⟩ = mem1 R C g1 g2 rc' (i + 1) G := rfl
inductive ColsX (R C : List (Int × Int)) (n : Nat) : Nat → MV → MHeap → Prop
 | zero : ColsX R C n 0 nilM []
 | succ (j : Nat) (g : MV) (T : MHeap) : ColsX R C n (j + 1) (.arr (n + 1) 0 (j + 1) j) (⟨0, false, 2, [g]⟩ :: ⟨j, false, 2, ((oth R.length C).take (j + 1)).map encP⟩ :: T)
structure MemO (R C : List (Int × Int)) (H : MHeap) : Prop where
 h0 : H[0]? = some ⟨0, false, 2, [encS R C]⟩
 o : ∃ a b ga gb, H[2]? = some ⟨0, false, 2, [.agg [.arr a 0 R.length ga, .arr b 0 C.length gb]]⟩ ∧ H[a]? = some ⟨ga, false, 2, (oth C.length R).map encP⟩ ∧ H[b]? = some ⟨gb, false, 2, (oth R.length C).map encP⟩ ∧ a ≠ 2 ∧ b ≠ 2 ∧ a ≠ 0 ∧ b ≠ 0 ∧ a ≠ 3 ∧ b ≠ 3 ∧ a ≠ 7 ∧ b ≠ 7 ∧ a ≠ 1 ∧ b ≠ 1
 t : ∃ gt, H[3]? = some ⟨0, false, 2, [.agg [.arr 7 0 R.length gt, .arr 1 0 C.length 0]]⟩ ∧ H[7]? = some ⟨gt, false, 2, R.reverse.map encP⟩ ∧ H[1]? = some ⟨0, false, 2, C.map encP⟩
set_option maxHeartbeats 4000000 in
set_option maxRecDepth 4000 in
theorem Mirror_p2 (R C : List (Int × Int)) (hv : ValS R C) (h1 : R.length ≤ 4) (h2 : C.length ≤ 4) (i : Nat) (g1 g2 : MV) (G : MHeap) (hi : R.length = i + 1)
  (hp : ∀ H, MemO R C H → EfMi 7 [(1, .ptr 0 0 0 0), (3, I64 (R.length : Int)), (4, I64 (C.length : Int)), (5, .ptr 2 0 0 0), (6, .ptr 3 0 0 0)] H) :
  EfMi 6 [(1, .ptr 0 0 0 0), (3, I64 (R.length : Int)), (4, I64 (C.length : Int)), (5, .ptr 2 0 0 0), (6, .ptr 3 0 0 0)] (mem1 R C g1 g2 nilM (i + 1) G) := by
 unfold EfMi at hp ⊢
 have hb : MC.cut 1 (MC.rest 6 bodyMi) (MC.rest 7 bodyMi) = MC.rest 6 bodyMi := by rfl
 rw [← hb]
 generalize MC.rest 7 bodyMi = R7 at hp
 clear hb
 replace hp := Bx.mk hp
 dsimp only [bodyMi, MC.rest, MC.cut]
 have hs1 : (MV.sl (R.map encP)).slen = some R.length := by simp [MV.slen]
 have hs2 : (MV.sl (C.map encP)).slen = some C.length := by simp [MV.slen]
 have hc1 := hv.c1
 refine ef_seq ?_
 repeat (first | apply ef_seq | (apply ef_mv; exact rfl; exact rfl) | apply ef_nil | apply seqQ.normal | apply ef_block)
 have ha5 : ∀ j, ((oth R.length C).take j).length ≤ 5 := fun j => by rw [List.length_take, oth_len]; omega
 have hGn : mem1 R C g1 g2 nilM (i + 1) G = mem1 R C g1 g2 nilM (i + 1) (G ++ []) := by rw [List.append_nil]
 rw [hGn]
 have hL : (mem1 R C g1 g2 nilM (i + 1) (G ++ [])).length = 8 + G.length := by rw [mem1_len]; rfl
 refine ef_loopg (α := Nat × MV × MHeap) (fun a => a.1 ≤ C.length ∧ ColsX R C (8 + G.length) a.1 a.2.1 a.2.2) (fun a => [(8, I64 (a.1 : Int))]) [(1, .ptr 0 0 0 0), (3, I64 (R.length : Int)), (4, I64 (C.length : Int)), (5, .ptr 2 0 0 0), (6, .ptr 3 0 0 0)] (fun a => mem1 R C g1 g2 a.2.1 (i + 1) (G ++ a.2.2)) (fun a => C.length - a.1) (0, nilM, []) [8] (fun _ => rfl) (by ((repeat (refine Hold.cons (by exact rfl) ?_)); exact Hold.nil)) (by ((repeat (refine Hold.cons (by exact rfl) ?_)); exact Hold.nil)) rfl rfl rfl ⟨by omega, .zero⟩ (by simp; omega) ?_
 rw [hL]
 rintro ⟨j, rc, T⟩ ⟨hj, hT⟩
 simp only at hj hT
 by_cases hlt : j < C.length
 ·obtain ⟨c, hc⟩ : ∃ c, C[j]? = some c := ⟨C[j], by simp [hlt]⟩
  have e1 : (C.map encP)[((j : Nat) : Int).toNat]? = some (encP c) := by rw [Int.toNat_natCast, List.getElem?_map, hc]; rfl
  have hcc := hv.cc c (List.mem_of_getElem? hc)
  have t1 := oth_take R.length C hlt
  rw [getD_some hc] at t1
  have a5 := ha5 j
  have hol : (oth R.length C).length = C.length := oth_len _ _
  clear hc
  show Ef _ _ _ _ _ _ [(8, I64 (j : Int)), (1, .ptr 0 0 0 0), (3, I64 (R.length : Int)), (4, I64 (C.length : Int)), (5, .ptr 2 0 0 0), (6, .ptr 3 0 0 0)] (mem1 R C g1 g2 rc (i + 1) (G ++ T)) _
  have m0 : (mem1 R C g1 g2 rc (i + 1) (G ++ T))[0]? = some ⟨0, false, 2, [encS R C]⟩ := rfl
  have m2 : (mem1 R C g1 g2 rc (i + 1) (G ++ T))[2]? = some ⟨0, false, 2, [.agg [.arr 5 0 (i + 1) i, rc]]⟩ := rfl
  cases hT with
  | zero =>
   repeat (first | apply ef_seq | (apply ef_mv; exact rfl; exact rfl) | (apply ef_bin; (iterate 3 exact rfl); (first | exact cmp_t rfl (by first | exact rfl | (simp only [cmpP]; omega)) | ((with_reducible refine bin_sub (wrap_of ?_ ?_)) <;> omega))) | (apply ef_ldr; exact rfl; exact rfl; (exact rfl)) | (apply ef_ldp; exact rfl; exact rfl; (exact rfl); exact rfl; (exact rfl); (exact rfl)) | (apply ef_ias; (iterate 3 exact rfl); (omega); assumption; exact rfl) | (apply ef_fap; exact rfl; exact rfl) | (apply ef_far; exact rfl; exact rfl) | (apply ef_build; exact rfl; (repeat (apply XVs.cons; exact rfl)); exact XVs.nil; exact rfl; exact rfl) | (apply ef_bsl; exact rfl; (repeat (apply XVs.cons; exact rfl)); exact XVs.nil; exact rfl) | apply ef_nil | apply seqQ.normal | apply ef_block | apply ef_skip | (apply ef_condt; exact rfl; (exact (rfl : true = true))))
   (apply ef_appn; (· exact rfl); (· exact rfl); (· exact rfl); (· exact elems_oneM _ _ _); (· simp); (· rfl))
   show Ef _ _ _ _ _ _ _ (mem1 R C g1 g2 nilM (i + 1) (G ++ []) ++ [⟨0, false, 2, [encP ((R.length : Int) - c.2, (R.length : Int) - c.1)]⟩] ++ [⟨0, false, 2, [encP ((R.length : Int) - c.2, (R.length : Int) - c.1)]⟩]) _
   have ql : ∀ o : MObj, (mem1 R C g1 g2 nilM (i + 1) (G ++ []) ++ [o]).length = 8 + G.length + 1 := fun o => by rw [mem1_push, mem1_len]; rfl
   rw [ql, mem1_push, mem1_push]
   repeat (first | (apply ef_mv; exact rfl; exact rfl) | (apply ef_bin; (iterate 3 exact rfl); (((with_reducible refine bin_add (wrap_of ?_ ?_)) <;> omega))) | (apply ef_fap; exact rfl; exact rfl) | (apply ef_st; (iterate 6 exact rfl); (exact rfl); (exact rfl)) | apply ef_nil | apply seqQ.normal | apply blockQ.normal)
   refine loopQ.normal _ _ ⟨(1, .arr (8 + G.length + 1) 0 1 0, [⟨0, false, 2, [encP ((R.length : Int) - c.2, (R.length : Int) - c.1)]⟩, ⟨0, false, 2, [encP ((R.length : Int) - c.2, (R.length : Int) - c.1)]⟩]), ⟨hlt, ?_⟩, by simp only; omega, ⟨by ((repeat (refine Hold.cons (by exact rfl) ?_)); exact Hold.nil), by ((repeat (refine Hold.cons (by exact rfl) ?_)); exact Hold.nil)⟩, ?_⟩
   ·have := ColsX.succ (R := R) (C := C) (n := 8 + G.length) 0 (encP ((R.length : Int) - c.2, (R.length : Int) - c.1)) []
    rw [t1] at this
    exact this
   ·refine .cellE (mem1_cell R C g1 g2 nilM _ i _) ?_
    refine hltL_no (j := 2) (by omega) rfl ?_
    show (ltL (8 + G.length) [.agg [.arr 5 0 (i + 1) i, .arr (8 + G.length + 1) 0 1 0]]) = false
    simp [ltL, MV.lt]
  | succ j g T =>
   have a6 : ((oth R.length C).take (j + 1)).length = j + 1 := by rw [List.length_take]; omega
   have gG := mem1_T R C g1 g2 (.arr (8 + G.length + 1) 0 (j + 1) j) i G (⟨0, false, 2, [g]⟩ :: ⟨j, false, 2, ((oth R.length C).take (j + 1)).map encP⟩ :: T ++ [⟨0, false, 2, [encP ((R.length : Int) - c.2, (R.length : Int) - c.1)]⟩]) 1
   have gs := mem1_setT R C g1 g2 (.arr (8 + G.length + 1) 0 (j + 1) j) i G (⟨0, false, 2, [g]⟩ :: ⟨j, false, 2, ((oth R.length C).take (j + 1)).map encP⟩ :: T ++ [⟨0, false, 2, [encP ((R.length : Int) - c.2, (R.length : Int) - c.1)]⟩]) 1
   repeat (first | apply ef_seq | (apply ef_mv; exact rfl; exact rfl) | (apply ef_bin; (iterate 3 exact rfl); (first | exact cmp_t rfl (by first | exact rfl | (simp only [cmpP]; omega)) | ((with_reducible refine bin_sub (wrap_of ?_ ?_)) <;> omega))) | (apply ef_ldr; exact rfl; exact rfl; (exact rfl)) | (apply ef_ldp; exact rfl; exact rfl; (exact rfl); exact rfl; (exact rfl); (exact rfl)) | (apply ef_ias; (iterate 3 exact rfl); (omega); assumption; exact rfl) | (apply ef_fap; exact rfl; exact rfl) | (apply ef_far; exact rfl; exact rfl) | (apply ef_build; exact rfl; (repeat (apply XVs.cons; exact rfl)); exact XVs.nil; exact rfl; exact rfl) | (apply ef_bsl; exact rfl; (repeat (apply XVs.cons; exact rfl)); exact XVs.nil; exact rfl) | apply ef_nil | apply seqQ.normal | apply ef_block | apply ef_skip | (apply ef_condt; exact rfl; (exact (rfl : true = true))))
   (apply ef_app; (· exact rfl); (· exact rfl); (· exact rfl); (· exact elems_oneM _ _ _); (· rw [mem1_push]; exact gG); (· exact rfl); (· simp only [List.length_map, a6]; omega); (· exact rfl); (· simp only [List.length_map, a6, List.length_cons, List.length_nil]; omega); (· rfl); (· exact rfl))
   show Ef _ _ _ _ _ _ _ ((mem1 R C g1 g2 (.arr (8 + G.length + 1) 0 (j + 1) j) (i + 1) (G ++ (⟨0, false, 2, [g]⟩ :: ⟨j, false, 2, ((oth R.length C).take (j + 1)).map encP⟩ :: T)) ++ ([(⟨0, false, 2, [encP ((R.length : Int) - c.2, (R.length : Int) - c.1)]⟩ : MObj)] : MHeap)).set (8 + G.length + 1) (⟨j + 1, false, 2, ((oth R.length C).take (j + 1)).map encP ++ [encP ((R.length : Int) - c.2, (R.length : Int) - c.1)]⟩ : MObj)) _
   rw [mem1_push, gs]
   repeat (first | (apply ef_mv; exact rfl; exact rfl) | (apply ef_bin; (iterate 3 exact rfl); (((with_reducible refine bin_add (wrap_of ?_ ?_)) <;> omega))) | (apply ef_fap; exact rfl; exact rfl) | (apply ef_st; (iterate 6 exact rfl); (exact rfl); (exact rfl)) | apply ef_nil | apply seqQ.normal | apply blockQ.normal)
   refine loopQ.normal _ _ ⟨(j + 2, .arr (8 + G.length + 1) 0 (j + 2) (j + 1), ⟨0, false, 2, [g]⟩ :: ⟨j + 1, false, 2, ((oth R.length C).take (j + 2)).map encP⟩ :: (T ++ [⟨0, false, 2, [encP ((R.length : Int) - c.2, (R.length : Int) - c.1)]⟩])), ⟨hlt, .succ (j + 1) g _⟩, by simp only; omega, ⟨by ((repeat (refine Hold.cons (by exact rfl) ?_)); exact Hold.nil), by ((repeat (refine Hold.cons (by exact rfl) ?_)); exact Hold.nil)⟩, ?_⟩
   refine .cellE ((mem1_cell R C g1 g2 _ _ i _).trans ?_) ?_
   ·show _ = mem1 R C g1 g2 _ (i + 1) (G ++ (⟨0, false, 2, [g]⟩ :: ⟨j + 1, false, 2, ((oth R.length C).take (j + 1 + 1)).map encP⟩ :: _))
    rw [t1]
    simp
   ·refine hltL_no (j := 2) (by omega) rfl ?_
    show (ltL (8 + G.length) [.agg [.arr 5 0 (i + 1) i, .arr (8 + G.length + 1) 0 (j + 2) (j + 1)]]) = false
    simp [ltL, MV.lt]
 ·obtain ⟨m, hm⟩ : ∃ m, C.length = m + 1 := ⟨C.length - 1, by omega⟩
  obtain rfl : j = m + 1 := by omega
  cases hT with
  | succ j g T =>
   have k1 : (oth R.length C).take (m + 1) = oth R.length C := by rw [List.take_of_length_le]; rw [oth_len]; omega
   have k2 : (oth C.length R).take (i + 1) = oth C.length R := by rw [List.take_of_length_le]; rw [oth_len]; omega
   have k3 : R.reverse.take (i + 1) = R.reverse := by rw [List.take_of_length_le]; rw [List.length_reverse]; omega
   have gG := mem1_T R C g1 g2 (.arr (8 + G.length + 1) 0 (m + 1) m) i G (⟨0, false, 2, [g]⟩ :: ⟨m, false, 2, ((oth R.length C).take (m + 1)).map encP⟩ :: T) 1
   have gG2 := gG.trans (show _ = some (⟨m, false, 2, (oth R.length C).map encP⟩ : MObj) by simp only [List.getElem?_cons_succ, List.getElem?_cons_zero, k1])
   repeat (first | apply ef_seq | (apply ef_mv; exact rfl; exact rfl) | (apply ef_bin; (iterate 3 exact rfl); (exact cmp_f rfl (by simp only [cmpP]; omega))) | apply ef_nil | apply seqQ.normal | apply loopQ.exit | apply ef_exit | apply seqQ.exit | apply blockQ.here | (apply ef_condf; exact rfl; (exact (rfl : false = false))))
   refine ef_weak (by ((repeat (refine Hold.cons (by exact rfl) ?_)); exact Hold.nil)) (hp.out _ ⟨rfl, ⟨5, 8 + G.length + 1, i, m, ?_, ?_, gG2, by omega, by omega, by omega, by omega, by omega, by omega, by omega, by omega, by omega, by omega⟩, ⟨i, ?_, ?_, rfl⟩⟩)
   ·rw [hi, hm]; rfl
   ·rw [← k2]; rfl
   ·rw [hi]; rfl
   ·rw [← k3]; rfl
end Go.Proofs.YtnmgpbihknjdjaaDoor

/- TopTargetMirror: volumes and cells. -/
namespace Go.Proofs.YtnmgpbihknjdjaaDoor
open Go.RowKit
set_option linter.unusedVariables false
structure MemK (R C : List (Int × Int)) (K : MHeap) (p q r s t : Nat) (v w u : Int × Int) (c d : MV) : Prop where
 h0 : K[0]? = some ⟨0, false, 2, [encS R C]⟩
 h3 : K[3]? = some ⟨0, false, 2, [encS R.reverse C]⟩
 hp : K[p]? = some ⟨0, false, 2, [encP v]⟩
 hq : K[q]? = some ⟨0, false, 2, [encP w]⟩
 hr : K[r]? = some ⟨0, false, 2, [encP u]⟩
 hs : K[s]? = some ⟨0, false, 2, [c]⟩
 ht : K[t]? = some ⟨0, false, 2, [d]⟩
theorem ef_heap {O : Oracle} {I : Iter} {N n : Nat} {lk : Nat → Bool} {b : MC} {A : Sl} {h h' : MHeap} {Q : MX2 → Sl → MHeap → Prop} (e : h = h') (hE : Ef O I N n lk b A h' Q) : Ef O I N n lk b A h Q := e ▸ hE
theorem addM {H : MHeap} {i : Nat} {o : MObj} (h : H[i]? = some o) (c : MObj) : (H ++ [c])[i]? = some o := at_app h [c]
theorem frz_two {h : MHeap} {a b na nb ga gb : Nat} {la lb : Bool} {ea eb : List MV} (ha : h[a]? = some ⟨ga, la, 2, ea⟩) (hb : h[b]? = some ⟨gb, lb, 2, eb⟩) (hna : na = ea.length) (hnb : nb = eb.length) (hea : ltL 0 ea = true) (heb : ltL 0 eb = true) : frz 0 [] h 8 (.agg [.arr a 0 na ga, .arr b 0 nb gb]) = some (.agg [.sl ea, .sl eb]) := by
 have ka : ea.take na = ea := List.take_of_length_le (by omega)
 have kb : eb.take nb = eb := List.take_of_length_le (by omega)
 have fa : frz 0 [] h 7 (.arr a 0 na ga) = some (.sl ea) := by
  simp only [frz, MV.lt, Nat.not_lt_zero, decide_false, Bool.false_eq_true, if_false, List.contains_nil, ha]
  simp only [hea, if_true, List.drop_zero, ka]
  simp; omega
 have fb : frz 0 [] h 7 (.arr b 0 nb gb) = some (.sl eb) := by
  simp only [frz, MV.lt, Nat.not_lt_zero, decide_false, Bool.false_eq_true, if_false, List.contains_nil, hb]
  simp only [heb, if_true, List.drop_zero, kb]
  simp; omega
 have e8 : frz 0 [] h 8 (.agg [.arr a 0 na ga, .arr b 0 nb gb]) = ([MV.arr a 0 na ga, .arr b 0 nb gb].mapM (frz 0 [] h 7)).map .agg := by
  have : (MV.agg [.arr a 0 na ga, .arr b 0 nb gb]).lt 0 = false := by simp [MV.lt, ltL]
  conv => lhs; unfold frz
  simp only [this, Bool.false_eq_true, if_false]
 rw [e8]
 simp only [List.mapM_cons, List.mapM_nil, fa, fb]; rfl
set_option maxHeartbeats 4000000 in
set_option maxRecDepth 4000 in
theorem Mirror_p3 (R C : List (Int × Int)) (hv : ValS R C) (h1 : R.length ≤ 4) (h2 : C.length ≤ 4) (H : MHeap) (hm : MemO R C H)
  (hp : ∀ K p q r s t, MemK R C K p q r s t (if opnE R C = 0 then (mnL (volL R C), mxL (volL R C)) else (0, 0)) (if opnE R C = 0 then ((R.length : Int) * C.length - mxL (volL R C), (R.length : Int) * C.length - mnL (volL R C)) else (0, 0)) (if opnE R C = 0 then (mnL (volL R C), mxL (volL R C)) else (0, 0))
    (if opnE R C = 0 then .agg [.sl (natL (alwR R C R.length)), .sl (natL (nevR R C R.length))] else .agg [nilM, nilM]) (if opnE R C = 0 then .agg [.sl (natL (nevR R C R.length)), .sl (natL (alwR R C R.length))] else .agg [nilM, nilM]) →
   EfMi 13 [(1, .ptr 0 0 0 0), (3, I64 (R.length : Int)), (4, I64 (C.length : Int)), (6, .ptr 3 0 0 0), (10, .ptr p 0 0 0), (11, I64 (opnE R C)), (12, .ptr q 0 0 0), (13, I64 (opnE R C)), (14, .ptr r 0 0 0), (15, I64 (opnE R C)), (16, .ptr s 0 0 0), (17, I64 (opnE R C)), (18, .ptr t 0 0 0), (19, I64 (opnE R C))] K) :
  EfMi 7 [(1, .ptr 0 0 0 0), (3, I64 (R.length : Int)), (4, I64 (C.length : Int)), (5, .ptr 2 0 0 0), (6, .ptr 3 0 0 0)] H := by
 unfold EfMi at hp ⊢
 have hb : MC.cut 6 (MC.rest 7 bodyMi) (MC.rest 13 bodyMi) = MC.rest 7 bodyMi := by rfl
 rw [← hb]
 generalize MC.rest 13 bodyMi = R13 at hp
 clear hb
 dsimp only [bodyMi, MC.rest, MC.cut]
 have h5 : R.length ≤ 5 := by omega
 have h6 : C.length ≤ 5 := by omega
 have oR : (oth C.length R).length = R.length := oth_len _ _
 have oC : (oth R.length C).length = C.length := oth_len _ _
 have hvo : ValS (oth C.length R) (oth R.length C) := by
  refine ⟨by rw [oR]; exact hv.r1, by rw [oR]; exact hv.r5, by rw [oC]; exact hv.c1, by rw [oC]; exact hv.c5, fun p hp => ?_, fun p hp => ?_⟩
  ·obtain ⟨r, hr, rfl⟩ := List.mem_map.1 hp
   have := hv.rr r hr
   rw [oC]; simp only; omega
  ·obtain ⟨c, hc, rfl⟩ := List.mem_map.1 hp
   have := hv.cc c hc
   rw [oR]; simp only; omega
 have hvx : ValS C R := ⟨hv.c1, hv.c5, hv.r1, hv.r5, hv.cc, hv.rr⟩
 have eo : opnE (oth C.length R) (oth R.length C) = opnE R C := by
  unfold opnE; rw [val_chkS hvo, val_chkS hv, poss_oth h6]
 have ex : opnE C R = opnE R C := by
  unfold opnE; rw [val_chkS hvx, val_chkS hv, poss_exch h5 h6]
 have cs := fun h => CopyS_c 12 R C (by omega) (by omega) h
 have cso := fun h => CopyS_c 12 (oth C.length R) (oth R.length C) (by omega) (by omega) h
 have vo := fun h => Vol_c 6 R C (by omega) (by omega) h (v := encS R C) (frz_lt (encS_lt 0 R C))
 have voo := fun h => Vol_c 6 (oth C.length R) (oth R.length C) (by omega) (by omega) h (v := encS (oth C.length R) (oth R.length C)) (frz_lt (encS_lt 0 _ _))
 have vox := fun h v hv => Vol_c 6 C R (by omega) (by omega) h (v := v) hv
 have ce := fun h => Cert_c 6 R C (by omega) (by omega) h
 have ceo := fun h => Cert_c 6 (oth C.length R) (oth R.length C) (by omega) (by omega) h
 have cr := fun h => bCopyRanges_c 13 R h (v := .sl (R.map encP)) (by omega) (frz_sl (encP_lt 0 R))
 have cc := fun h => bCopyRanges_c 13 C h (v := .sl (C.map encP)) (by omega) (frz_sl (encP_lt 0 C))
 have w1 : (if opnE R C = 0 then (mnL (volL (oth C.length R) (oth R.length C)), mxL (volL (oth C.length R) (oth R.length C))) else ((0 : Int), (0 : Int))) = (if opnE R C = 0 then ((R.length : Int) * C.length - mxL (volL R C), (R.length : Int) * C.length - mnL (volL R C)) else (0, 0)) := by
  by_cases h0 : opnE R C = 0
  ·obtain ⟨q1, q2⟩ := vol_oth h6 (opn_zero h0).1
   rw [if_pos h0, if_pos h0, q1, q2]
  ·rw [if_neg h0, if_neg h0]
 have w2 : (if opnE R C = 0 then (mnL (volL C R), mxL (volL C R)) else ((0 : Int), (0 : Int))) = (if opnE R C = 0 then (mnL (volL R C), mxL (volL R C)) else (0, 0)) := by
  by_cases h0 : opnE R C = 0
  ·obtain ⟨q1, q2⟩ := vol_exch h5 h6 (opn_zero h0).1
   rw [if_pos h0, if_pos h0, q1, q2]
  ·rw [if_neg h0, if_neg h0]
 have w3 : alwR (oth C.length R) (oth R.length C) R.length = nevR R C R.length := by
  unfold alwR nevR
  refine List.map_congr_left fun i hi => ?_
  rw [List.mem_range] at hi
  exact alw_oth h6 hi
 have w4 : nevR (oth C.length R) (oth R.length C) R.length = alwR R C R.length := by
  unfold alwR nevR
  refine List.map_congr_left fun i hi => ?_
  rw [List.mem_range] at hi
  exact nev_oth h6 hi
 rw [eo, w1] at voo
 simp only [ex, w2] at vox
 rw [eo, oR, w3, w4] at ceo
 clear eo ex w1 w2 w3 w4 hvo hvx
 obtain ⟨m0, ⟨a, b, ga, gb, m2, ma, mb, n1, n2, n3, n4, n5, n6, n7, n8, n9, n10⟩, ⟨gt, m3, m7, m1⟩⟩ := hm
 obtain ⟨H1, s1, s2, s3⟩ := seal_S m2 ma mb (by rw [List.length_map, oR]) (by rw [List.length_map, oC]) (encP_lt 0 _) (encP_lt 0 _) n1 n2
 obtain ⟨H2, t1, t2, t3⟩ := seal_S (H := H1) (j := 3) (a := 7) (b := 1) (na := R.length) (nb := C.length) (ga := gt) (gb := 0) (la := false) (lb := false) (ea := R.reverse.map encP) (eb := C.map encP) ((s3 3 (by omega) (by omega) (by omega)).trans m3) ((s3 7 (by omega) (by omega) (by omega)).trans m7) ((s3 1 (by omega) (by omega) (by omega)).trans m1) (by simp) (by simp) (encP_lt 0 _) (encP_lt 0 _) (by omega) (by omega)
 have k0 : H2[0]? = some ⟨0, false, 2, [encS R C]⟩ := (t3 0 (by omega) (by omega) (by omega)).trans ((s3 0 (by omega) (by omega) (by omega)).trans m0)
 have k2 : H2[2]? = some ⟨0, false, 2, [encS (oth C.length R) (oth R.length C)]⟩ := (t3 2 (by omega) (by omega) (by omega)).trans s2
 have k3 : H2[3]? = some ⟨0, false, 2, [encS R.reverse C]⟩ := t2
 clear m0 m2 ma mb m3 m7 m1 s2 s3 t2 t3
 refine ef_seq ?_
 refine ef_give (by exact rfl) s1 ?_
 refine ef_give (by exact rfl) t1 ?_
 have a0 : (H2 ++ [(⟨0, false, 2, [.agg [nilM, nilM]]⟩ : MObj)])[0]? = some ⟨0, false, 2, [encS R C]⟩ := addM k0 _
 have a1 : (H2 ++ [(⟨0, false, 2, [.agg [nilM, nilM]]⟩ : MObj)] ++ [(⟨0, false, 2, C.map encP⟩ : MObj)])[0]? = some ⟨0, false, 2, [encS R C]⟩ := addM a0 _
 have a2 : (H2 ++ [(⟨0, false, 2, [.agg [nilM, nilM]]⟩ : MObj)] ++ [(⟨0, false, 2, C.map encP⟩ : MObj)] ++ [(⟨0, false, 2, R.map encP⟩ : MObj)])[H2.length]? = some ⟨0, false, 2, [.agg [nilM, nilM]]⟩ := addM (addM (at_end _ _) _) _
 repeat (first | (apply ef_ldp; exact rfl; exact rfl; (assumption); exact rfl; (exact rfl); (exact rfl)) | (apply ef_fap; exact rfl; exact rfl) | (apply ef_new; exact rfl) | (apply ef_build; exact rfl; (repeat (apply XVs.cons; exact rfl)); exact XVs.nil; exact rfl; exact rfl) | (apply ef_nilck; (iterate 3 exact rfl)) | (apply ef_call; exact rfl; ((repeat (apply XVs.cons; exact rfl)); exact XVs.nil); (with_reducible first | exact cc _ | exact cr _)))
 (apply ef_st; (· exact rfl); (· exact rfl); (· exact rfl); (· exact a2); (· exact rfl); (· exact rfl); (· exact rfl); (· exact rfl))
 refine ef_heap (h' := H2 ++ [(⟨0, false, 2, [.agg [.arr (H2.length + 1) 0 C.length 0, .arr (H2.length + 2) 0 R.length 0]]⟩ : MObj), ⟨0, false, 2, C.map encP⟩, ⟨0, false, 2, R.map encP⟩]) ?_ ?_
 ·show List.set _ _ (⟨0, false, 2, [.agg [.arr (H2 ++ [(_ : MObj)]).length 0 C.length 0, .arr (H2 ++ [(_ : MObj)] ++ [(_ : MObj)]).length 0 R.length 0]]⟩ : MObj) = _
  simp
 refine ef_weak (A' := [(9, .ptr H2.length 0 0 0), (1, .ptr 0 0 0 0), (3, I64 (R.length : Int)), (4, I64 (C.length : Int)), (5, .ptr 2 0 0 0), (6, .ptr 3 0 0 0)]) (by ((repeat (refine Hold.cons (by exact rfl) ?_)); exact Hold.nil)) ?_
 have b0 := at_app k0 [(⟨0, false, 2, [.agg [.arr (H2.length + 1) 0 C.length 0, .arr (H2.length + 2) 0 R.length 0]]⟩ : MObj), ⟨0, false, 2, C.map encP⟩, ⟨0, false, 2, R.map encP⟩]
 have b2 := at_app k2 [(⟨0, false, 2, [.agg [.arr (H2.length + 1) 0 C.length 0, .arr (H2.length + 2) 0 R.length 0]]⟩ : MObj), ⟨0, false, 2, C.map encP⟩, ⟨0, false, 2, R.map encP⟩]
 have b3 := at_app k3 [(⟨0, false, 2, [.agg [.arr (H2.length + 1) 0 C.length 0, .arr (H2.length + 2) 0 R.length 0]]⟩ : MObj), ⟨0, false, 2, C.map encP⟩, ⟨0, false, 2, R.map encP⟩]
 have b9 : (H2 ++ [(⟨0, false, 2, [.agg [.arr (H2.length + 1) 0 C.length 0, .arr (H2.length + 2) 0 R.length 0]]⟩ : MObj), ⟨0, false, 2, C.map encP⟩, ⟨0, false, 2, R.map encP⟩])[H2.length]? = some (⟨0, false, 2, [.agg [.arr (H2.length + 1) 0 C.length 0, .arr (H2.length + 2) 0 R.length 0]]⟩ : MObj) := by simp
 have bc : (H2 ++ [(⟨0, false, 2, [.agg [.arr (H2.length + 1) 0 C.length 0, .arr (H2.length + 2) 0 R.length 0]]⟩ : MObj), ⟨0, false, 2, C.map encP⟩, ⟨0, false, 2, R.map encP⟩])[H2.length + 1]? = some (⟨0, false, 2, C.map encP⟩ : MObj) := by rw [List.getElem?_append_right (by omega)]; simp
 have br : (H2 ++ [(⟨0, false, 2, [.agg [.arr (H2.length + 1) 0 C.length 0, .arr (H2.length + 2) 0 R.length 0]]⟩ : MObj), ⟨0, false, 2, C.map encP⟩, ⟨0, false, 2, R.map encP⟩])[H2.length + 2]? = some (⟨0, false, 2, R.map encP⟩ : MObj) := by rw [List.getElem?_append_right (by omega)]; simp
 generalize H2 ++ [(⟨0, false, 2, [.agg [.arr (H2.length + 1) 0 C.length 0, .arr (H2.length + 2) 0 R.length 0]]⟩ : MObj), ⟨0, false, 2, C.map encP⟩, ⟨0, false, 2, R.map encP⟩] = K at *
 clear a0 a1 a2 k0 k2 k3 s1 t1
 generalize hV : (if opnE R C = 0 then (mnL (volL R C), mxL (volL R C)) else ((0 : Int), (0 : Int))) = V at *
 generalize hW : (if opnE R C = 0 then ((R.length : Int) * C.length - mxL (volL R C), (R.length : Int) * C.length - mnL (volL R C)) else ((0 : Int), (0 : Int))) = W at *
 clear hV hW
 have kk : ∃ c1 c2 d1 d2 : MV, (if opnE R C = 0 then MV.agg [.sl (natL (alwR R C R.length)), .sl (natL (nevR R C R.length))] else .agg [nilM, nilM]) = .agg [c1, c2] ∧ (if opnE R C = 0 then MV.agg [.sl (natL (nevR R C R.length)), .sl (natL (alwR R C R.length))] else .agg [nilM, nilM]) = .agg [d1, d2] ∧ (MV.agg [c1, c2]).sOk 2 = true ∧ (MV.agg [d1, d2]).sOk 2 = true := by
  by_cases h0 : opnE R C = 0
  ·exact ⟨_, _, _, _, if_pos h0, if_pos h0, rfl, rfl⟩
  ·exact ⟨_, _, _, _, if_neg h0, if_neg h0, rfl, rfl⟩
 obtain ⟨c1, c2, d1, d2, u1, u2, u3, u4⟩ := kk
 rw [u1] at ce
 rw [u2] at ceo
 rw [u1, u2] at hp
 generalize opnE R C = e at *
 clear u1 u2
 have f2 := addM b2 ⟨0, false, 2, [encP V]⟩
 have g9 := addM (addM b9 ⟨0, false, 2, [encP V]⟩) ⟨0, false, 2, [encP W]⟩
 have gx := vox _ _ (frz_two (na := C.length) (nb := R.length) (addM (addM bc ⟨0, false, 2, [encP V]⟩) ⟨0, false, 2, [encP W]⟩) (addM (addM br ⟨0, false, 2, [encP V]⟩) ⟨0, false, 2, [encP W]⟩) (by simp) (by simp) (encP_lt 0 C) (encP_lt 0 R))
 have h0' := addM (addM (addM b0 ⟨0, false, 2, [encP V]⟩) ⟨0, false, 2, [encP W]⟩) ⟨0, false, 2, [encP V]⟩
 have i2 := addM (addM (addM (addM b2 ⟨0, false, 2, [encP V]⟩) ⟨0, false, 2, [encP W]⟩) ⟨0, false, 2, [encP V]⟩) ⟨0, false, 2, [.agg [c1, c2]]⟩
 repeat (first | apply ef_seq | (apply ef_mv; exact rfl; exact rfl) | (apply ef_ldp; exact rfl; exact rfl; (assumption); exact rfl; (exact rfl); (exact rd_2 rfl rfl)) | (apply ef_ext; (iterate 3 exact rfl)) | (apply ef_newst; (iterate 3 exact rfl); (exact rfl); exact rfl) | apply ef_nil | apply seqQ.normal | (apply ef_call; exact rfl; ((repeat (apply XVs.cons; exact rfl)); exact XVs.nil); (with_reducible first | exact cs _ | exact cso _ | exact vo _ | exact voo _)))
 (apply ef_call; (· exact rfl); (· ((repeat (apply XVs.cons; exact rfl)); exact XVs.nil)); · exact gx)
 repeat (first | apply ef_seq | (apply ef_mv; exact rfl; exact rfl) | (apply ef_ldp; exact rfl; exact rfl; (assumption); exact rfl; (exact rfl); (exact rd_2 rfl rfl)) | (apply ef_ext; (iterate 3 exact rfl)) | (apply ef_newst; (iterate 3 exact rfl); (exact rfl); exact rfl) | (apply ef_new; exact rfl) | apply ef_nil | apply seqQ.normal | (apply ef_call; exact rfl; ((repeat (apply XVs.cons; exact rfl)); exact XVs.nil); (with_reducible first | exact cs _ | exact ce _)))
 (apply ef_st; (· exact rfl); (· exact u3); (· exact rfl); (· exact at_end _ _); (· exact rfl); (· exact rfl); (· exact rfl); (· exact rfl))
 refine ef_heap (set_end _ _ (⟨0, false, 2, [.agg [c1, c2]]⟩ : MObj)) ?_
 repeat (first | apply ef_seq | (apply ef_mv; exact rfl; exact rfl) | (apply ef_ldp; exact rfl; exact rfl; (assumption); exact rfl; (exact rfl); (exact rd_2 rfl rfl)) | (apply ef_ext; (iterate 3 exact rfl)) | (apply ef_new; exact rfl) | apply ef_nil | apply seqQ.normal | (apply ef_call; exact rfl; ((repeat (apply XVs.cons; exact rfl)); exact XVs.nil); (with_reducible exact ceo _)))
 (apply ef_st; (· exact rfl); (· exact u4); (· exact rfl); (· exact at_end _ _); (· exact rfl); (· exact rfl); (· exact rfl); (· exact rfl))
 refine ef_heap (set_end _ _ (⟨0, false, 2, [.agg [d1, d2]]⟩ : MObj)) ?_
 repeat (first | (apply ef_mv; exact rfl; exact rfl) | apply ef_nil | apply seqQ.normal)
 refine ef_weak (by ((repeat (refine Hold.cons (by exact rfl) ?_)); exact Hold.nil)) (hp _ _ _ _ _ _ ⟨?_, ?_, ?_, ?_, ?_, ?_, ?_⟩)
 ·exact addM (addM (addM (addM (addM b0 _) _) _) _) _
 ·exact addM (addM (addM (addM (addM b3 _) _) _) _) _
 ·exact addM (addM (addM (addM (at_end _ _) _) _) _) _
 ·exact addM (addM (addM (at_end _ _) _) _) _
 ·exact addM (addM (at_end _ _) _) _
 ·exact addM (at_end _ _) _
 ·exact at_end _ _
end Go.Proofs.YtnmgpbihknjdjaaDoor

/- TopTargetMirror: the end of the walk. -/
namespace Go.Proofs.YtnmgpbihknjdjaaDoor
open Go.RowKit
set_option linter.unusedVariables false
theorem HeadIs.cutE {keep : List Nat} {m : Nat} {A : Sl} {h h1 : MHeap} (e : h = h1) (ha : ∀ t ∈ keep, ∃ v, look A t = some v ∧ v.lt m = true) (hc : hltL m (h1.take m) = true) : HeadIs keep m A h (h1.take m) := by
 subst e; exact .cut ha hc
theorem natI_map2 (w : List Nat) : (w.map fun s : Nat => (s : Int)).map I64 = natL w := by rw [List.map_map]; rfl
theorem vol_bd {R C : List (Int × Int)} (hC : C.length ≤ 5) {w : List Nat} (h : IsBody R C w) : 0 ≤ volS w ∧ volS w ≤ (R.length : Int) * C.length := by
 have a : ∀ w : List Nat, 0 ≤ volS w := fun w => by
  rw [volS_eq]
  have h0 := colS_le w 0
  have h1 := colS_le w 1
  have h2 := colS_le w 2
  have h3 := colS_le w 3
  have h4 := colS_le w 4
  omega
 have h1 := volS_cmpl hC (h.lt hC)
 have h2 := a (cmpl C.length w)
 rw [h1, h.len] at h2
 exact ⟨a w, by omega⟩
theorem eq2m (a b : Int) : litEqK (kindsOf 2) [I64 a, I64 b] [I64 a, I64 b] = some true := by
 show some (a == a && (b == b && true)) = some true
 simp
set_option maxHeartbeats 4000000 in
set_option maxRecDepth 4000 in
theorem Mirror_p4 (R C : List (Int × Int)) (hv : ValS R C) (h1 : R.length ≤ 4) (h2 : C.length ≤ 4) (K : MHeap) (p q r s t : Nat)
  (hm : MemK R C K p q r s t (if opnE R C = 0 then (mnL (volL R C), mxL (volL R C)) else (0, 0)) (if opnE R C = 0 then ((R.length : Int) * C.length - mxL (volL R C), (R.length : Int) * C.length - mnL (volL R C)) else (0, 0)) (if opnE R C = 0 then (mnL (volL R C), mxL (volL R C)) else (0, 0))
    (if opnE R C = 0 then .agg [.sl (natL (alwR R C R.length)), .sl (natL (nevR R C R.length))] else .agg [nilM, nilM]) (if opnE R C = 0 then .agg [.sl (natL (nevR R C R.length)), .sl (natL (alwR R C R.length))] else .agg [nilM, nilM])) :
   EfMi 13 [(1, .ptr 0 0 0 0), (3, I64 (R.length : Int)), (4, I64 (C.length : Int)), (6, .ptr 3 0 0 0), (10, .ptr p 0 0 0), (11, I64 (opnE R C)), (12, .ptr q 0 0 0), (13, I64 (opnE R C)), (14, .ptr r 0 0 0), (15, I64 (opnE R C)), (16, .ptr s 0 0 0), (17, I64 (opnE R C)), (18, .ptr t 0 0 0), (19, I64 (opnE R C))] K := by
 unfold EfMi
 dsimp only [bodyMi, MC.rest]
 have h5 : R.length ≤ 5 := by omega
 have h6 : C.length ≤ 5 := by omega
 have h7 := hv.r1
 have hck0 := val_chkS hv
 have heo : opnE R C = if possB R C anyP then 0 else 12 := by unfold opnE; rw [hck0, if_pos rfl]
 obtain ⟨m0, m3, mp, mq, mr, ms, mt⟩ := hm
 by_cases h0 : opnE R C = 0
 case neg =>
  have e12 : opnE R C = 12 := by
   rw [heo] at h0 ⊢
   split at h0
   ·exact absurd rfl h0
   ·rename_i hx; rw [if_neg hx]
  rw [e12]
  repeat (first | apply ef_seq | (apply ef_mv; exact rfl; exact rfl) | (apply ef_bin; (iterate 3 exact rfl); (first | exact cmp_t rfl (by first | exact rfl | (simp only [cmpP]; omega)) | exact cmp_f rfl (by simp only [cmpP]; omega))) | (apply ef_gy; exact rfl; (exact (rfl : false = false))) | (apply ef_pick; (iterate 3 exact rfl)) | apply ef_nil | apply seqQ.normal | apply ef_ret | apply seqQ.ret | apply ef_skip | (apply ef_condt; exact rfl; (exact (rfl : true = true))) | (apply ef_condf; exact rfl; (exact (rfl : false = false))))
  (refine fin1 rfl (by exact rfl) rfl ?_)
  rfl
 obtain ⟨hb, -⟩ := opn_zero h0
 have bo := fun h => Body_c 6 R C (by omega) (by omega) h (v := encS R C) (frz_lt (encS_lt 0 R C))
 have ebv : bodyV R C = bodyB R C R.length := if_pos h0
 rw [h0, ebv] at bo
 simp only [h0, if_true] at mp mq mr ms mt ⊢
 have hfb := first_body hb
 have hfl := hfb.len
 obtain ⟨hrv, hrvol⟩ := rev_body h6 hfb
 have hvr : ValS R.reverse C := ⟨by simp; exact hv.r1, by simp; exact hv.r5, hv.c1, hv.c5, fun p hp => hv.rr p (by simpa using hp), fun p hp => by have := hv.cc p hp; simp; exact this⟩
 have hrc := body_chk hvr hrv
 have hvm := mem_volL.2 ⟨_, hfb, rfl⟩
 have hvne : volL R C ≠ [] := fun h => by rw [h] at hvm; cases hvm
 obtain ⟨x1, x2⟩ := mn_mem hvne
 obtain ⟨y1, y2⟩ := mx_mem hvne
 have z1 := x2 _ hvm
 have z2 := y2 _ hvm
 obtain ⟨w1, hw1, ew1⟩ := mem_volL.1 x1
 obtain ⟨w2, hw2, ew2⟩ := mem_volL.1 y1
 have b1 := (vol_bd h6 hw1).1
 have b2 := (vol_bd h6 hw2).2
 rw [← ew1] at b1
 rw [← ew2] at b2
 clear hw1 hw2 ew1 ew2 x1 x2 y1 y2 hvm hvne
 have cs := fun h => CopyS_c 12 R C (by omega) (by omega) h
 generalize bodyB R C R.length = fb at *
 have ck := fun h u hu => ChkB_c 7 R.reverse C (fb.reverse.map fun s : Nat => (s : Int)) (by simp; omega) (by omega) (by simp; omega) h (v := encS R.reverse C) (w := u) (frz_lt (encS_lt 0 _ _)) hu
 rw [show chkBE R.reverse C (fb.reverse.map fun s : Nat => (s : Int)) = (volS fb, 0) from (if_neg (by rw [val_chkS hvr]; simp)).trans (hrc.trans (by rw [hrvol]))] at ck
 simp only [natI_map2] at ck
 have hmn : (R.length : Int) * C.length ≤ 16 := by
  have := Int.mul_le_mul (a := (R.length : Int)) (b := C.length) (c := 4) (d := 4) (by omega) (by omega) (by omega) (by omega)
  omega
 have hmn0 : 0 ≤ (R.length : Int) * C.length := Int.mul_nonneg (by omega) (by omega)
 have hmul : IntKind.i64.wrap ((R.length : Int) * C.length) = (R.length : Int) * C.length := wrap_of (by omega) (by omega)
 generalize mnL (volL R C) = lo at *
 generalize mxL (volL R C) = hi at *
 generalize volS fb = vf at *
 have wi := fun h => Within_c 13 lo 0 hi h (t := true) (inB_iff.2 ⟨b1, by omega⟩)
 have wi2 := fun h => Within_c 13 vf lo hi h (t := true) (inB_iff.2 ⟨z1, z2⟩)
 have fa := fun h => frz_sl (h := h) (natL_lt 0 (alwR R C R.length))
 have fn := fun h => frz_sl (h := h) (natL_lt 0 (nevR R C R.length))
 have la := alwR_len R C R.length
 have ln := nevR_len R C R.length
 generalize alwR R C R.length = AL at *
 generalize nevR R C R.length = NE at *
 have i1 := fun h => bInts_c 13 (AL.map fun s : Nat => (s : Int)) (AL.map fun s : Nat => (s : Int)) h (v := .sl (natL AL)) (w := .sl (natL AL)) (by simp; omega) (by rw [natI_map2]; exact fa h) (by rw [natI_map2]; exact fa h) (t := true) (by simp)
 have i2 := fun h => bInts_c 13 (NE.map fun s : Nat => (s : Int)) (NE.map fun s : Nat => (s : Int)) h (v := .sl (natL NE)) (w := .sl (natL NE)) (by simp; omega) (by rw [natI_map2]; exact fn h) (by rw [natI_map2]; exact fn h) (t := true) (by simp)
 have q1 := eq2m ((R.length : Int) * C.length - hi) ((R.length : Int) * C.length - lo)
 have q2 := eq2m lo hi
 repeat (first | apply ef_seq | (apply ef_mv; exact rfl; exact rfl) | (apply ef_bin; (iterate 3 exact rfl); (first | exact cmp_f rfl (by simp only [cmpP]; omega) | ((with_reducible refine bin_sub (wrap_of ?_ ?_)) <;> omega) | ((with_reducible refine bin_mul (wrap_of ?_ ?_)) <;> omega))) | (apply ef_gy; exact rfl; (exact (rfl : false = false))) | (apply ef_pick; (iterate 3 exact rfl)) | (apply ef_ldp; exact rfl; exact rfl; (assumption); exact rfl; (exact rfl); (first | exact rd_2 rfl rfl | exact rfl)) | (apply ef_fap; exact rfl; exact rfl) | (apply ef_notT; exact rfl; exact rfl) | (apply ef_build; exact rfl; (repeat (apply XVs.cons; exact rfl)); exact XVs.nil; exact rfl; exact rfl) | (apply ef_eqa; (iterate 3 exact rfl); (assumption)) | apply ef_nil | apply seqQ.normal | apply ef_skip | (apply ef_condf; exact rfl; (exact (rfl : false = false))) | (apply ef_call; exact rfl; ((repeat (apply XVs.cons; exact rfl)); exact XVs.nil); (with_reducible first | exact wi _ | exact i1 _ | exact i2 _)))
 repeat (first | apply ef_seq | (apply ef_mv; exact rfl; exact rfl) | (apply ef_bin; (iterate 3 exact rfl); (first | exact cmp_f rfl (by simp only [cmpP]; omega) | ((with_reducible refine bin_sub (wrap_of ?_ ?_)) <;> omega))) | (apply ef_gy; exact rfl; (exact (rfl : false = false))) | (apply ef_pick; (iterate 3 exact rfl)) | (apply ef_len; exact rfl; exact rfl; (exact rfl)) | (apply ef_ext; (iterate 3 exact rfl)) | (apply ef_nil0; exact rfl) | apply ef_nil | apply seqQ.normal | apply ef_block | apply ef_skip | (apply ef_condf; exact rfl; (exact (rfl : false = false))) | (apply ef_call; exact rfl; ((repeat (apply XVs.cons; exact rfl)); exact XVs.nil); (with_reducible first | exact cs _ | exact bo _)))
 have hK4 : 4 ≤ K.length := (List.getElem?_eq_some_iff.1 m3).1
 have hKp : p < K.length := (List.getElem?_eq_some_iff.1 mp).1
 have ql : ∀ o : MObj, (K ++ [o]).length = K.length + 1 := fun o => by simp
 rw [ql]
 have hL : ∀ o o' : MObj, (K ++ [o] ++ [o']).length = K.length + 2 := fun o o' => by simp
 refine ef_loopg (α := Nat × MHeap) (fun a => a.1 ≤ R.length) (fun a => [(24, I64 ((a.1 : Int) - 1)), (23, .arr (K.length + 1) 0 (R.length - a.1) (R.length - a.1))]) [(21, .arr K.length 0 fb.length 0), (6, .ptr 3 0 0 0), (10, .ptr p 0 0 0)] (fun a => K ++ (⟨0, false, 1, natL fb⟩ :: ⟨R.length - a.1, decide (a.1 = R.length), 1, natL (fb.drop a.1).reverse⟩ :: a.2)) (fun a => a.1) (R.length, []) [24, 23] (fun _ => rfl) ?_ (by ((repeat (refine Hold.cons (by exact rfl) ?_)); exact Hold.nil)) rfl rfl ?_ (Nat.le_refl _) (by simp; omega) ?_
 ·simp only [Nat.sub_self]
  ((repeat (refine Hold.cons (by exact rfl) ?_)); exact Hold.nil)
 ·simp only [Nat.sub_self, decide_true, List.drop_eq_nil_of_le (show fb.length ≤ R.length by omega), List.reverse_nil]
  rw [List.append_assoc]
  rfl
 rw [hL]
 rintro ⟨n, G⟩ hn
 simp only at hn
 have g0 : (K ++ (⟨0, false, 1, natL fb⟩ :: ⟨R.length - n, decide (n = R.length), 1, natL (fb.drop n).reverse⟩ :: G))[K.length]? = some (⟨0, false, 1, natL fb⟩ : MObj) := by simp
 have g1 : (K ++ (⟨0, false, 1, natL fb⟩ :: ⟨R.length - n, decide (n = R.length), 1, natL (fb.drop n).reverse⟩ :: G))[K.length + 1]? = some (⟨R.length - n, decide (n = R.length), 1, natL (fb.drop n).reverse⟩ : MObj) := by rw [List.getElem?_append_right (by omega)]; simp
 have g3 := at_app m3 (⟨0, false, 1, natL fb⟩ :: ⟨R.length - n, decide (n = R.length), 1, natL (fb.drop n).reverse⟩ :: G)
 have gp := at_app mp (⟨0, false, 1, natL fb⟩ :: ⟨R.length - n, decide (n = R.length), 1, natL (fb.drop n).reverse⟩ :: G)
 by_cases hn0 : 0 < n
 ·obtain ⟨j, rfl⟩ : ∃ j, n = j + 1 := ⟨n - 1, by omega⟩
  have hjl : j < fb.length := by omega
  have hii : (((j + 1 : Nat) : Int) - 1) = (j : Int) := by omega
  have e1 : (natL fb)[0 + ((j : Nat) : Int).toNat]? = some (I64 (fb[j] : Nat)) := by rw [Nat.zero_add, Int.toNat_natCast]; simp [hjl]
  have gok := ok_of g0 rfl rfl
  have hdr : (fb.drop j).reverse = (fb.drop (j + 1)).reverse ++ [fb[j]] := by rw [List.drop_eq_getElem_cons hjl, List.reverse_cons]
  have hdl : (natL (fb.drop (j + 1)).reverse).length = R.length - (j + 1) := by simp; omega
  have hs5 : R.length - (j + 1) + 1 = R.length - j := by omega
  generalize fb[j] = x at *
  simp only [hii]
  repeat (first | apply ef_seq | (apply ef_mv; exact rfl; exact rfl) | (apply ef_bin; (iterate 3 exact rfl); (exact cmp_t rfl (by first | exact rfl | (simp only [cmpP]; omega)))) | (apply ef_ldp; exact rfl; exact rfl; (assumption); exact rfl; (assumption); (exact rfl)) | (apply ef_iaa; (iterate 3 exact rfl); (omega); (omega); (assumption)) | (apply ef_bsl; exact rfl; (repeat (apply XVs.cons; exact rfl)); exact XVs.nil; exact rfl) | apply ef_nil | apply seqQ.normal | apply ef_block | apply ef_skip | (apply ef_condt; exact rfl; (exact (rfl : true = true))))
  (apply ef_app; (· exact rfl); (· exact rfl); (· exact rfl); (· exact elems_oneM _ _ _); (· exact addM g1 _); (· exact rfl); (· rw [hdl]; omega); (· exact rfl); (· rw [hdl]; simp; omega); (· rfl); (· exact rfl))
  repeat (first | (apply ef_mv; exact rfl; exact rfl) | (apply ef_bin; (iterate 3 exact rfl); (((with_reducible refine bin_sub (wrap_of ?_ ?_)) <;> omega))) | apply ef_nil | apply seqQ.normal | apply blockQ.normal)
  have he : ((K ++ (⟨0, false, 1, natL fb⟩ :: ⟨R.length - (j + 1), decide (j + 1 = R.length), 1, natL (fb.drop (j + 1)).reverse⟩ :: G)) ++ [(⟨0, false, 1, [I64 (x : Nat)]⟩ : MObj)]).set (K.length + 1) ⟨R.length - (j + 1) + 1, false, 1, natL (fb.drop (j + 1)).reverse ++ [I64 (x : Nat)]⟩ = K ++ (⟨0, false, 1, natL fb⟩ :: ⟨R.length - j, decide (j = R.length), 1, natL (fb.drop j).reverse⟩ :: (G ++ [⟨0, false, 1, [I64 (x : Nat)]⟩])) := by
   rw [hdr, hs5, show decide (j = R.length) = false from decide_eq_false (by omega), List.append_assoc, List.set_append_right _ _ (by omega), show K.length + 1 - K.length = 1 by omega]
   simp
  have hsl : ∀ {A : Sl}, look A 23 = some (.arr (K.length + 1) 0 (R.length - (j + 1) + 1) (R.length - (j + 1) + 1)) → look A 23 = some (.arr (K.length + 1) 0 (R.length - j) (R.length - j)) := fun h => by rw [← hs5]; exact h
  cases hcl : hltL (K.length + 2) ((K ++ (⟨0, false, 1, natL fb⟩ :: ⟨R.length - j, decide (j = R.length), 1, natL (fb.drop j).reverse⟩ :: (G ++ [(⟨0, false, 1, [I64 (x : Nat)]⟩ : MObj)]))).take (K.length + 2))
  ·refine loopQ.normal _ _ ⟨(j, G ++ [(⟨0, false, 1, [I64 (x : Nat)]⟩ : MObj)]), by simp only; omega, by simp only; omega, ⟨Hold.cons rfl (Hold.cons (hsl (by exact rfl)) Hold.nil), by ((repeat (refine Hold.cons (by exact rfl) ?_)); exact Hold.nil)⟩, ?_⟩
   exact .cellE he hcl
  ·have htk : (K ++ (⟨0, false, 1, natL fb⟩ :: ⟨R.length - j, decide (j = R.length), 1, natL (fb.drop j).reverse⟩ :: (G ++ [(⟨0, false, 1, [I64 (x : Nat)]⟩ : MObj)]))).take (K.length + 2) = K ++ (⟨0, false, 1, natL fb⟩ :: ⟨R.length - j, decide (j = R.length), 1, natL (fb.drop j).reverse⟩ :: []) := by
    rw [List.take_append, List.take_of_length_le (by omega), show K.length + 2 - K.length = 2 by omega]; rfl
   refine loopQ.normal _ _ ⟨(j, []), by simp only; omega, by simp only; omega, ⟨Hold.cons rfl (Hold.cons (hsl (by exact rfl)) Hold.nil), by ((repeat (refine Hold.cons (by exact rfl) ?_)); exact Hold.nil)⟩, ?_⟩
   show HeadIs _ _ _ _ (K ++ (⟨0, false, 1, natL fb⟩ :: ⟨R.length - j, decide (j = R.length), 1, natL (fb.drop j).reverse⟩ :: []))
   rw [← htk]
   refine .cutE he (fun t ht => ?_) hcl
   simp only [List.mem_cons, List.not_mem_nil, or_false] at ht
   rcases ht with rfl | rfl | rfl | rfl | rfl <;> exact ⟨_, rfl, by first | rfl | (simp only [MV.lt, decide_eq_true_eq]; omega)⟩
 ·obtain rfl : n = 0 := by omega
  rw [List.drop_zero, Nat.sub_zero] at g1
  simp only [List.drop_zero, Nat.sub_zero]
  repeat (first | apply ef_seq | (apply ef_mv; exact rfl; exact rfl) | (apply ef_bin; (iterate 3 exact rfl); (exact cmp_f rfl (by simp only [cmpP]; omega))) | (apply ef_ldp; exact rfl; exact rfl; (assumption); exact rfl; (exact rfl); (exact rd_2 rfl rfl)) | apply ef_nil | apply seqQ.normal | apply loopQ.exit | apply ef_exit | apply seqQ.exit | apply blockQ.here | (apply ef_condf; exact rfl; (exact (rfl : false = false))))
  (apply ef_call; (· exact rfl); (· ((repeat (apply XVs.cons; exact rfl)); exact XVs.nil)); · exact ck _ _ (frz_arrg g1 (by simp; omega) (natL_lt 0 fb.reverse)))
  repeat (first | apply ef_seq | (apply ef_mv; exact rfl; exact rfl) | (apply ef_bin; (iterate 3 exact rfl); (exact cmp_t rfl (by first | exact rfl | (simp only [cmpP]; omega)))) | (apply ef_gy; exact rfl; (exact (rfl : true = true))) | (apply ef_pick; (iterate 3 exact rfl)) | (apply ef_ldp; exact rfl; exact rfl; (assumption); exact rfl; (exact rfl); (exact rfl)) | (apply ef_fap; exact rfl; exact rfl) | (apply ef_ext; (iterate 3 exact rfl)) | apply ef_nil | apply seqQ.normal | apply ef_ret | (apply ef_call; exact rfl; ((repeat (apply XVs.cons; exact rfl)); exact XVs.nil); (with_reducible exact wi2 _)))
  (refine fin1 rfl (by exact rfl) rfl ?_)
  rfl
theorem TopTargetMirror_z (R C : List (Int × Int)) : runZ MT (orA 14) (itA 14) 4000000 3 [encS R C] [] = some (Bo true, []) :=
 Mirror_p1 R C fun hv h1 h2 i g1 g2 G hi => Mirror_p2 R C hv h1 h2 i g1 g2 G hi fun H hm => Mirror_p3 R C hv h1 h2 H hm fun K p q r s t hk => Mirror_p4 R C hv h1 h2 K p q r s t hk
end Go.Proofs.YtnmgpbihknjdjaaDoor

/- From arguments as they are read to open values; from an answer to a law's statement. -/
namespace Go.Proofs.YtnmgpbihknjdjaaDoor
open Go.RowKit Go.ChangeShapes Go.WideShapes Go.ChangeAt
set_option linter.unusedVariables false
inductive Sh where
 | int (k : IntKind)
 | bool
 | str
 | agg (fs : List Sh)
 | slice (e : Sh)
mutual
def Sh.size : Sh → Nat
 | .int _ | .bool | .str | .slice _ => 1
 | .agg fs => sizeL fs
def sizeL : List Sh → Nat
 | [] => 0
 | s :: ss => s.size + sizeL ss
end
mutual
def Sh.has (P : Program) : Sh → TypeId → Bool
 | .int k, t => (match P.underlying t with | some (.int k') => k' == k | _ => false)
 | .bool, t => (match P.underlying t with | some .bool => true | _ => false)
 | .str, t => (match P.underlying t with | some .string => true | _ => false)
 | .agg ss, t => (match P.underlying t with | some (.struct fs) => P.cellsOf t == sizeL ss && hasL P ss 0 fs.toList | _ => false)
 | .slice s, t => (match P.underlying t with | some (.slice e) => P.cellsOf e == s.size && Nat.blt 0 s.size && s.has P e | _ => false)
def hasL (P : Program) : List Sh → Nat → List Field → Bool
 | [], _, [] => true
 | s :: ss, off, f :: fs => f.offset == off && P.cellsOf f.type == s.size && s.has P f.type && hasL P ss (off + s.size) fs
 | _, _, _ => false
end
mutual
def Fits : Sh → MV → Prop
 | .int k, m => ∃ n, m = .lit (.int k n) ∧ (Lit.int k n).wf = true
 | .bool, m => ∃ b, m = .lit (.bool b)
 | .str, m => ∃ s : ByteArray, m = .lit (.string s) ∧ s.size ≤ maxLen
 | .agg ss, m => ∃ ms, FitsL ss ms ∧ m = .agg (ms.flatMap MV.cells)
 | .slice s, m => ∃ es, m = .sl es ∧ es.length ≤ maxLen ∧ ∀ e ∈ es, Fits s e
def FitsL : List Sh → List MV → Prop
 | [], ms => ms = []
 | s :: ss, ms => ∃ m r, ms = m :: r ∧ Fits s m ∧ FitsL ss r
end
def baseE (w : World) : Env := { S := fun b => b < w.heap.size, K := fun _ => False, ρ := fun _ => 0, bo := fun _ => 0, cp := fun _ => 0, sz := fun _ => 0, gn := fun _ => 0, ln := fun _ => 0, nl := fun _ => false, top := 0, yl := 0 }
theorem baseE_rel (w : World) (hT : ∀ p ∈ TABS, V (baseE w) w p.1 p.2) : HRel (baseE w) [] w := ⟨fun _ h => h.elim, Nat.le_refl _, fun _ h => h.elim, fun _ _ h => h.elim, fun _ h => h.elim, fun _ h => h, hT⟩
section
variable {H : Type} {enc : TypeId × Value → H} {P : Program} {w : World} {spare : Nat → Bool} {held : Bool}
theorem vs_one {E : Env} {w : World} {m : MV} {v : Value} (h : V E w m v) : Vs E w [m] [v] := Vs.cons h ⟨rfl, fun i c v hc => by simp at hc⟩
mutual
theorem lift_ok : ∀ (s : Sh) (t : TypeId) (fuel : Nat) (cs : List Value) (x : DataW H × List MemPlace), s.has P t = true → DataW.trod enc P w 0 spare held fuel t cs = some x →
  ∃ m, Fits s m ∧ Vs (baseE w) w m.cells cs ∧ m.cells.length = s.size
 | .int k, t, fuel, cs, x, hs, h => by
  simp only [Sh.has] at hs
  split at hs
  case h_2 => cases hs
  rename_i k' ht
  have : k' = k := by simpa using hs
  subst this
  obtain ⟨n, rfl, -, hw⟩ := DataW.trod_int ht h
  exact ⟨.lit (.int k' n), ⟨n, rfl, hw⟩, vs_one (.lit _), rfl⟩
 | .bool, t, fuel, cs, x, hs, h => by
  simp only [Sh.has] at hs
  split at hs
  case h_2 => cases hs
  rename_i ht
  obtain ⟨b, rfl, -⟩ := DataW.trod_bool ht h
  exact ⟨.lit (.bool b), ⟨b, rfl⟩, vs_one (.lit _), rfl⟩
 | .str, t, fuel, cs, x, hs, h => by
  simp only [Sh.has] at hs
  split at hs
  case h_2 => cases hs
  rename_i ht
  obtain ⟨b, rfl, -, hb⟩ := DataW.trod_string ht h
  exact ⟨.lit (.string b), ⟨b, rfl, hb⟩, vs_one (.lit _), rfl⟩
 | .agg ss, t, fuel, cs, x, hs, h => by
  simp only [Sh.has] at hs
  split at hs
  case h_2 => cases hs
  rename_i fs ht
  simp only [Bool.and_eq_true, beq_iff_eq] at hs
  obtain ⟨xs, n, -, -, hl, hlen, hf⟩ := DataW.trod_struct ht h
  obtain ⟨ms, h1, h2, h3⟩ := liftL_ok ss 0 fs.toList n cs hs.2 (by rw [hl, hs.1]; omega) fun i f hi => by
   have := hf i f (by simpa using hi)
   have hix : i < xs.length := by rw [hlen]; have := (List.getElem?_eq_some_iff.1 hi).1; simpa using this
   exact ⟨xs[i], by rw [this]; simp [hix]⟩
  exact ⟨.agg (ms.flatMap MV.cells), ⟨ms, h1, rfl⟩, by simpa [MV.cells] using h2, by simp only [MV.cells]; exact h3⟩
 | .slice s, t, fuel, cs, x, hs, h => by
  simp only [Sh.has] at hs
  split at hs
  case h_2 => cases hs
  rename_i e ht
  simp only [Bool.and_eq_true, beq_iff_eq] at hs
  obtain ⟨⟨hc, hpos⟩, hse⟩ := hs
  have hpos' : 0 < s.size := by simpa [Nat.blt_eq] using hpos
  rcases DataW.trod_slice ht h with ⟨rfl, -⟩ | ⟨a, len, cap, elems, rest, n, -, rfl, -, -, hle, hmx, hel, hE, -, -⟩
  ·exact ⟨.sl [], ⟨[], rfl, by simp, fun e he => by cases he⟩, vs_one (.sl [] [] none 0 s.size (Nat.le_refl _) (fun e he => by cases he) rfl (fun i c v hc => by simp [flat] at hc) (fun h0 => absurd h0 (by simp))), rfl⟩
  ·have key : ∀ i, i < len → ∃ m cs', Fits s m ∧ Vs (baseE w) w m.cells cs' ∧ m.cells.length = s.size ∧ cs'.length = s.size ∧ ∀ j, j < s.size → w.cell? ((a.add (i * s.size)).add j) = cs'[j]? := fun i hi => by
    have h1 := hE i hi
    have h2 : elems[i]? = some (elems[i]'(by rw [hel]; exact hi)) := by simp [hel, hi]
    rw [h2, Option.bind_eq_some_iff, hc] at h1
    obtain ⟨cs', h3, h4⟩ := h1
    obtain ⟨-, h5, h6⟩ := World.cells?_some h3
    obtain ⟨m, k1, k2, k3⟩ := lift_ok s e n cs' _ hse h4
    exact ⟨m, cs', k1, k2, k3, h5, h6⟩
   obtain ⟨F, hF⟩ : ∃ F : Nat → MV × List Value, ∀ i, i < len → Fits s (F i).1 ∧ Vs (baseE w) w (F i).1.cells (F i).2 ∧ (F i).1.cells.length = s.size ∧ (F i).2.length = s.size ∧ ∀ j, j < s.size → w.cell? ((a.add (i * s.size)).add j) = (F i).2[j]? :=
    ⟨fun i => if hi : i < len then ((key i hi).choose, (key i hi).choose_spec.choose) else default, fun i hi => by simp only [dif_pos hi]; exact (key i hi).choose_spec.choose_spec⟩
   have hmem : ∀ e ∈ (List.range len).map fun i => (F i).1, Fits s e ∧ e.cells.length = s.size := fun e he => by
    obtain ⟨i, hi, rfl⟩ := List.mem_map.1 he
    have hi' := List.mem_range.1 hi
    exact ⟨(hF i hi').1, (hF i hi').2.2.1⟩
   refine ⟨.sl ((List.range len).map fun i => (F i).1), ⟨_, rfl, by simp; omega, fun e he => (hmem e he).1⟩, vs_one ?_, rfl⟩
   have hflen : (flat ((List.range len).map fun i => (F i).1)).length = len * s.size := by rw [flat_len fun e he => (hmem e he).2]; simp
   have hcell : ∀ k, k < len * s.size → ∃ i j, i < len ∧ j < s.size ∧ k = i * s.size + j := fun k hk => ⟨k / s.size, k % s.size, Nat.div_lt_of_lt_mul (by rw [Nat.mul_comm]; exact hk), Nat.mod_lt _ hpos', (Nat.div_add_mod' k s.size).symm⟩
   have hspot : 0 < len → ∃ b off, a = ⟨b, off, none⟩ := fun h0 => by
    obtain ⟨b, off, spot⟩ := a
    have h1 := (hF 0 h0).2.2.2.2 0 hpos'
    rw [List.getElem?_eq_getElem (by rw [(hF 0 h0).2.2.2.1]; exact hpos')] at h1
    have hsp : spot = none := by simpa [Addr.add] using World.cell?_spot h1
    exact ⟨b, off, by rw [hsp]⟩
   by_cases h0 : 0 < len
   ·obtain ⟨b, off, rfl⟩ := hspot h0
    have hb : b < w.heap.size := by
     have h1 := (hF 0 h0).2.2.2.2 0 hpos'
     rw [List.getElem?_eq_getElem (by rw [(hF 0 h0).2.2.2.1]; exact hpos')] at h1
     have := cell_lt h1
     simpa [Addr.add] using this
    have hval : ∀ i j, i < len → j < s.size → w.cell? ⟨b, off + (i * s.size + j), none⟩ = (F i).2[j]? := fun i j hi hj => by
     rw [← (hF i hi).2.2.2.2 j hj]
     simp [Go.WideShapes.add_plain, Nat.add_assoc]
    have hl2 : ((List.range len).map fun i => (F i).1).length = len := by simp
    have := V.sl (E := baseE w) (w := w) ((List.range len).map fun i => (F i).1) ((List.range (len * s.size)).map fun k => (w.cell? ⟨b, off + k, none⟩).getD undef) (some ⟨b, off, none⟩) cap s.size (by rw [hl2]; exact hle) (fun e he => (hmem e he).2) (by rw [hflen]; simp)
     (fun k c v hk hv => by
      obtain ⟨i, j, e, rfl, hj, he, hcj⟩ := (flat_iff fun e he => (hmem e he).2).1 hk
      have hi : i < len := by have := (List.getElem?_eq_some_iff.1 he).1; simpa using this
      have he' : (F i).1 = e := by simpa [hi] using he
      subst he'
      have hlt : i * s.size + j < len * s.size := by
       have := Nat.mul_le_mul_right s.size (show i + 1 ≤ len from hi)
       rw [Nat.add_mul, Nat.one_mul] at this
       omega
      rw [List.getElem?_map, List.getElem?_range hlt, Option.map_some, hval i j hi hj] at hv
      have hj2 : j < (F i).2.length := by rw [(hF i hi).2.2.2.1]; exact hj
      rw [List.getElem?_eq_getElem hj2, Option.getD_some, Option.some.injEq] at hv
      exact (hF i hi).2.1.2 j c v hcj (by rw [List.getElem?_eq_getElem hj2, hv]))
     (fun _ => ⟨b, off, rfl, hb, fun k v hk => by
      have hlt : k < len * s.size := by have := (List.getElem?_eq_some_iff.1 hk).1; simpa using this
      obtain ⟨i, j, hi, hj, rfl⟩ := hcell k hlt
      rw [List.getElem?_map, List.getElem?_range hlt, Option.map_some] at hk
      have hj2 : j < (F i).2.length := by rw [(hF i hi).2.2.2.1]; exact hj
      have h9 := hval i j hi hj
      rw [List.getElem?_eq_getElem hj2] at h9
      rw [h9, Option.getD_some, Option.some.injEq] at hk
      rw [h9, hk]⟩)
    rw [hl2] at this
    exact this
   ·have hl0 : len = 0 := by omega
    subst hl0
    exact .sl [] [] (some a) cap s.size (by simp) (fun e he => by cases he) rfl (fun i c v hc => by simp [flat] at hc) (fun h0 => absurd h0 (by simp))
theorem liftL_ok : ∀ (ss : List Sh) (off : Nat) (fs : List Field) (n : Nat) (cs : List Value), hasL P ss off fs = true → cs.length = off + sizeL ss → (∀ (i : Nat) (f : Field), fs[i]? = some f → ∃ x, DataW.trod enc P w 0 spare held n f.type ((cs.drop f.offset).take (P.cellsOf f.type)) = some x) →
  ∃ ms, FitsL ss ms ∧ Vs (baseE w) w (ms.flatMap MV.cells) (cs.drop off) ∧ (ms.flatMap MV.cells).length = sizeL ss
 | [], off, fs, n, cs, hs, hl, hf => ⟨[], rfl, by
   have : cs.drop off = [] := List.drop_eq_nil_of_le (by simp [sizeL] at hl; omega)
   rw [this]; exact ⟨rfl, fun i c v hc => by simp at hc⟩, rfl⟩
 | s :: ss, off, [], n, cs, hs, hl, hf => by simp [hasL] at hs
 | s :: ss, off, f :: fs, n, cs, hs, hl, hf => by
  simp only [hasL, Bool.and_eq_true, beq_iff_eq] at hs
  obtain ⟨⟨⟨h1, h2⟩, h3⟩, h4⟩ := hs
  obtain ⟨x, hx⟩ := hf 0 f rfl
  rw [h1, h2] at hx
  obtain ⟨m, k1, k2, k3⟩ := lift_ok s f.type n _ x h3 hx
  obtain ⟨ms, j1, j2, j3⟩ := liftL_ok ss (off + s.size) fs n cs h4 (by simp only [sizeL] at hl; omega) fun i f' hi => hf (i + 1) f' (by simpa using hi)
  refine ⟨m :: ms, ⟨m, ms, rfl, k1, j1⟩, ?_, by simp only [List.flatMap_cons, List.length_append, sizeL, k3, j3]⟩
  have e : cs.drop off = (cs.drop off).take s.size ++ cs.drop (off + s.size) := by
   rw [← List.drop_drop]; exact (List.take_append_drop _ _).symm
  rw [e, List.flatMap_cons]
  exact k2.append j2
end
end
end Go.Proofs.YtnmgpbihknjdjaaDoor

/- From an answer to a law's statement. -/
namespace Go.Proofs.YtnmgpbihknjdjaaDoor
open Go.RowKit Go.ChangeShapes Go.WideShapes Go.ChangeAt
set_option linter.unusedVariables false
theorem Tryd.own : ownKnob Tryd.prog.godebug = none := by kernel_rfl
theorem Tryd.laidOut : laidOutB Tryd.prog = true := by kernel_rfl
section
variable {H : Type} {enc : TypeId × Value → H} {P : Program} {w : World} {spare : Nat → Bool} {held : Bool}
theorem lift_val {s : Sh} {t : TypeId} {v : Value} {d : DataW H} {p : List MemPlace} {r : Reach} {b : Nat} (hs : s.has P t = true) (hv : Value.okWide P w r b t v) (h : DataW.Trod enc P w 0 spare held t v d p) : ∃ m, Fits s m ∧ V (baseE w) w m v := by
 obtain ⟨fuel, h⟩ := h
 obtain ⟨m, h1, h2, h3⟩ := lift_ok s t fuel _ _ hs h
 refine ⟨m, h1, ?_⟩
 have one : m.cells = [m] → v.cells = #[v] → V (baseE w) w m v := fun e1 e2 => by
  rw [e1, e2] at h2
  exact h2.2 0 m v rfl rfl
 cases s with
 | int k =>
  simp only [Fits] at h1
  obtain ⟨n, rfl, -⟩ := h1
  simp only [Sh.has] at hs
  split at hs
  case h_2 => cases hs
  rename_i k' ht
  obtain ⟨n', rfl⟩ := okWide_int ht hv
  exact one rfl rfl
 | bool =>
  simp only [Fits] at h1
  obtain ⟨n, rfl⟩ := h1
  simp only [Sh.has] at hs
  split at hs
  case h_2 => cases hs
  rename_i ht
  obtain ⟨n', rfl⟩ := okWide_bool ht hv
  exact one rfl rfl
 | str =>
  simp only [Fits] at h1
  obtain ⟨n, rfl, -⟩ := h1
  simp only [Sh.has] at hs
  split at hs
  case h_2 => cases hs
  rename_i ht
  obtain ⟨n', rfl⟩ := okWide_string ht hv
  exact one rfl rfl
 | slice s =>
  simp only [Fits] at h1
  obtain ⟨es, rfl, -⟩ := h1
  simp only [Sh.has] at hs
  split at hs
  case h_2 => cases hs
  rename_i e ht
  obtain ⟨a, len, cap, rfl⟩ := okWide_slice ht hv
  exact one rfl rfl
 | agg ss =>
  simp only [Fits] at h1
  obtain ⟨ms, -, rfl⟩ := h1
  simp only [Sh.has] at hs
  split at hs
  case h_2 => cases hs
  rename_i fs ht
  obtain ⟨cs, rfl, -⟩ := okWide_struct ht hv
  have h4 : Vs (baseE w) w (ms.flatMap MV.cells) cs.toList := by simpa [MV.cells, Value.cells] using h2
  have := V.agg (E := baseE w) (w := w) _ _ h4.1 h4.2
  simpa using this
def hasAll (P : Program) : List Sh → List TypeId → Bool
 | [], [] => true
 | s :: ss, t :: ts => s.has P t && hasAll P ss ts
 | _, _ => false
theorem lift_all {r : Reach} {b : Nat} : ∀ (ss : List Sh) (ts : List TypeId) (vs : List Value) (ds : List (DataW H)) (ps : List MemPlace), hasAll P ss ts = true → DataW.TrodAll enc P w 0 spare held ts vs ds ps →
  (∀ (j : Nat) t v, ts[j]? = some t → vs[j]? = some v → Value.okWide P w r b t v) → ∃ ms, FitsL ss ms ∧ Vs (baseE w) w ms vs ∧ ds.length = ss.length
 | [], [], [], [], ps, _, _, _ => ⟨[], rfl, ⟨rfl, fun i c v hc => by simp at hc⟩, rfl⟩
 | [], [], [], _ :: _, ps, _, h, _ => by simp [DataW.TrodAll] at h
 | [], [], _ :: _, _, ps, _, h, _ => by simp [DataW.TrodAll] at h
 | s :: ss, t :: ts, [], _, ps, _, h, _ => by simp [DataW.TrodAll] at h
 | s :: ss, t :: ts, _ :: _, [], ps, _, h, _ => by simp [DataW.TrodAll] at h
 | s :: ss, t :: ts, v :: vs, d :: ds, ps, hs, h, hv => by
  simp only [hasAll, Bool.and_eq_true] at hs
  obtain ⟨p, q, h1, h2, -⟩ := h
  obtain ⟨m, k1, k2⟩ := lift_val hs.1 (hv 0 t v rfl rfl) h1
  obtain ⟨ms, j1, j2, j3⟩ := lift_all ss ts vs ds q hs.2 h2 fun j t' v' ht hv' => hv (j + 1) t' v' (by simpa using ht) (by simpa using hv')
  exact ⟨m :: ms, ⟨m, ms, rfl, k1, j1⟩, Vs.cons k2 j2, by simp [j3]⟩
 | [], _ :: _, _, _, _, hs, _, _ => by simp [hasAll] at hs
 | _ :: _, [], _, _, _, hs, _, _ => by simp [hasAll] at hs
theorem stay_all (hl : laidOutB P = true) {W' : World} (hb : Below w.heap.size w W') : ∀ (ts : List TypeId) (vs : List Value) (ds : List (DataW H)) (ps : List MemPlace), DataW.TrodAll enc P w 0 (fun _ => true) true ts vs ds ps → (ts.all fun t => P.readableRec t && decide (t < P.types.size)) = true → (∀ x ∈ ps, x.block < w.heap.size) →
  DataW.TrodAll enc P W' 0 (fun b => decide (b < w.heap.size)) true ts vs ds ps
 | [], [], [], ps, h, _, _ => h
 | [], [], _ :: _, ps, h, _, _ => by simp [DataW.TrodAll] at h
 | [], _ :: _, _, ps, h, _, _ => by simp [DataW.TrodAll] at h
 | t :: ts, [], _, ps, h, _, _ => by simp [DataW.TrodAll] at h
 | t :: ts, _ :: _, [], ps, h, _, _ => by simp [DataW.TrodAll] at h
 | t :: ts, v :: vs, d :: ds, ps, h, hr, hlt => by
  obtain ⟨p, q, h1, h2, rfl⟩ := h
  simp only [List.all_cons, Bool.and_eq_true, decide_eq_true_eq] at hr
  exact ⟨p, q, Below.trod hl hr.1.1 hr.1.2 h1 hb (fun x hx => hlt x (List.mem_append_left _ hx)), stay_all hl hb ts vs ds q h2 (by simpa using hr.2) (fun x hx => hlt x (List.mem_append_right _ hx)), rfl⟩
end
theorem below_ext {w w' : World} {E E' : Env} (hK : ∀ id, ¬ E.K id) (hx : Ext (fun _ => true) E w E' w') : Below w.heap.size w w' :=
 ext_below (n := 0) (hx.mono fun id hk _ => rfl) (fun id hk => absurd hk (hK id))
theorem law_calls {O : Oracle} (hO : SoundO Tryd.prog O ∧ AppO O) {f : Nat} {args : List MV} {vs : List Value} {w : World} (hz : runZ MT O (itA 14) 4000000 f args [] = some (.lit (.bool true), [])) (hv : Vs (baseE w) w args vs) (hT : ∀ p ∈ TABS, V (baseE w) w p.1 p.2) :
  Calls Tryd.prog f vs.toArray w fun e w' => e = .returned (.bool true) ∧ Below w.heap.size w w' := by
 have hI : SoundI Tryd.prog (itA 14) := orI_ok (by kernel_rfl) (tabOf_ok Tryd.prog) tI_ok (orA_ok 14) (orZ_ok (by kernel_rfl) (tabOf_ok Tryd.prog) tA_ok tI_ok 14).2
 refine ((runZ_ok (by kernel_rfl) (tabOf_ok Tryd.prog) hO.1 hO.2 hI hz).2 (baseE w) w vs (baseE_rel w hT) hv).mono ?_
 rintro e w' ⟨v, E', rfl, h1, -, h3⟩
 exact ⟨by rw [h1.lit_eq], below_ext (fun id hk => hk) h3⟩
set_option maxRecDepth 100000 in
theorem law_contractT {H : Type} {enc : TypeId × Value → H} {f : Nat} {fn : Func} {s : ChangeSpec} {O : Oracle} (hO : SoundO Tryd.prog O ∧ AppO O) (shs : List Sh) (hp : hasAll Tryd.prog shs fn.params.toList = true) (hrd : (fn.params.toList.all fun t => Tryd.prog.readableRec t && decide (t < Tryd.prog.types.size)) = true) (hr : fn.resultTypes = #[4])
  (hsv : s.vars = []) (hspec : ∀ ds : List (DataW H), ds.length = shs.length → (s.fn H (ds ++ [])).results = [.lit (.bool true)] ∧ (s.fn H (ds ++ [])).args = ds ∧ (s.fn H (ds ++ [])).vars = [])
  (hz : ∀ ms, FitsL shs ms → runZ MT O (itA 14) 4000000 f ms [] = some (.lit (.bool true), []))
  (W : World) (base : Nat) (args : Array Value) (ds gs : List (DataW H)) (before : List MemPlace) (hval : ∀ (j : Nat) t v, fn.params[j]? = some t → args[j]? = some v → Value.okWide Tryd.prog W .any base t v)
  (hW : DataW.Whole enc Tryd.prog fn.params.toList s.vars false W args.toList ds gs before) (hT : ∀ p ∈ TABS, V (baseE W) W p.1 p.2) :
  Calls Tryd.prog f args W fun e W' => ∃ v, e = .returned v ∧ s.post enc Tryd.prog fn false true false false W args v W' := by
 have hW' := hW
 obtain ⟨p, q, hA, hV, rfl, hfz, hnd⟩ := hW
 rw [hsv] at hV
 obtain ⟨rfl, rfl⟩ := trodVars_none hV
 have hv2 : ∀ (j : Nat) (t : TypeId) (v : Value), fn.params.toList[j]? = some t → args.toList[j]? = some v → Value.okWide Tryd.prog W .any base t v := fun j t v ht hv => hval j t v (by rw [Array.getElem?_toList] at ht; exact ht) (by rw [Array.getElem?_toList] at hv; exact hv)
 obtain ⟨ms, h1, h2, h3⟩ := lift_all (P := Tryd.prog) (w := W) shs fn.params.toList args.toList ds p hp hA hv2
 have hc := law_calls hO (hz ms h1) h2 hT
 rw [Array.toArray_toList] at hc
 refine hc.mono ?_
 rintro e W' ⟨rfl, hb⟩
 obtain ⟨e1, e2, e3⟩ := hspec ds h3
 have hlt : ∀ x ∈ p ++ [], x.block < W.heap.size := fun x hx => by simpa using hW'.lt x hx
 refine ⟨_, rfl, ds, [], p ++ [], [], p, [], hW', ?_, ?_, ?_, hb.frame _, fun h => by cases h⟩
 ·rw [e1, hr]
  exact trodAll_mk1 (shut_bool Tryd.underlying4 true)
 ·rw [e2]
  exact stay_all Tryd.laidOut hb _ _ _ _ hA hrd fun x hx => hlt x (by simpa using hx)
 ·rw [e3, hsv]; rfl
theorem laidVars_mem {P : Program} {w : World} : ∀ {l : List (String × DataW Unit)} {ps : List MemPlace}, DataW.LaidVars P w l ps → ∀ n d, (n, d) ∈ l → ∃ g t cs fuel p, P.globalNamed n = some g ∧ (P.globals[g]?).map (·.type) = some t ∧ w.var? P n = some cs ∧ DataW.trod (fun _ => ()) P w 0 (fun _ => true) false fuel t cs.toList = some (d, p)
 | [], ps, _, n, d, hm => by cases hm
 | (n', d') :: r, ps, h, n, d, hm => by
  obtain ⟨g, t, cs, fuel, p, q, h1, h2, h3, h4, h5, -⟩ := h
  rcases List.mem_cons.1 hm with e | hm
  ·cases e; exact ⟨g, t, cs, fuel, p, h1, h2, h3, h4⟩
  ·exact laidVars_mem h5 n d hm
abbrev tabD : List Nat := [0, 1, 56, 2, 57, 49, 28, 3, 61, 58, 42, 50, 38, 29, 17, 4, 62, 47, 59, 36, 45, 43, 51, 22, 53, 39, 33, 30, 24, 18, 12, 5, 63, 55, 48, 27, 60, 41, 37, 16, 46, 35, 44, 21, 52, 32, 23, 11, 54, 26, 40, 15, 34, 20, 31, 10, 25, 14, 19, 9, 13, 8, 7, 6]
theorem tabs_laid {l : List (String × DataW Unit)} {W : World} (h : laidMetH Tryd.prog l W) (hm : ("math/bits.deBruijn64tab", DataW.agg (tabD.map fun k : Nat => DataW.lit (.int .u8 (k : Int)))) ∈ l) : ∀ p ∈ TABS, V (baseE W) W p.1 p.2 := by
 obtain ⟨⟨ps, hl, -, -⟩, -⟩ := laidMetH_iff.1 h
 obtain ⟨g, t, cs, fuel, p, hg, ht, hv, hd⟩ := laidVars_mem hl _ _ (List.mem_filter.2 ⟨hm, rfl⟩)
 obtain rfl := Option.some.inj ((show Tryd.prog.globalNamed "math/bits.deBruijn64tab" = some 1 by kernel_rfl).symm.trans hg)
 obtain rfl := Option.some.inj ((show (Tryd.prog.globals[1]?).map (·.type) = some 100 by kernel_rfl).symm.trans ht)
 obtain ⟨xs, m, rfl, hx, -, hxl, hxi⟩ := DataW.trod_array Tryd.underlying100 hd
 rw [show Tryd.prog.cellsOf 5 = 1 by kernel_rfl] at hxi
 have hx1 : (tabD.map fun k : Nat => (DataW.lit (.int .u8 (k : Int)) : DataW Unit)) = xs.map (·.1) := by
  have := congrArg Prod.fst hx
  simpa only [DataW.agg.injEq] using this
 have hcell : ∀ i (hi : i < 64), W.cell? ⟨1, i, none⟩ = some (.int .u8 (tabD.getD i 0 : Nat)) := fun i hi => by
  have h1 := hxi i hi
  rw [Nat.mul_one, List.getElem?_eq_getElem (by omega)] at h1
  obtain ⟨n, h2, h3, -⟩ := DataW.trod_int Tryd.underlying5 h1
  have h4 : (xs.map (·.1))[i]? = some (DataW.lit (.int .u8 n)) := by rw [List.getElem?_map, List.getElem?_eq_getElem (by omega), h3]; rfl
  rw [← hx1, List.getElem?_map, List.getElem?_eq_getElem hi] at h4
  simp only [Option.map_some, Option.some.injEq, DataW.lit.injEq, Lit.int.injEq, true_and] at h4
  have h5 : cs[i]? = some (.int .u8 n) := by
   have : ((cs.toList.drop i).take 1)[0]? = some (.int .u8 n) := by rw [h2]; rfl
   rw [List.getElem?_take_of_lt (by omega), List.getElem?_drop, Nat.add_zero, Array.getElem?_toList] at this
   exact this
  rw [World.var?_cell hg hv, h5, ← h4, List.getD_eq_getElem?_getD, List.getElem?_eq_getElem hi]; rfl
 intro p hp
 obtain rfl := List.mem_singleton.1 hp
 have hfl : flat (tabD.map fun k : Nat => MV.lit (.int .u8 (k : Int))) = tabD.map fun k : Nat => MV.lit (.int .u8 (k : Int)) := flat_u8 _
 refine V.sl _ (tabD.map fun k : Nat => Value.int .u8 (k : Int)) _ 64 1 (Nat.le_refl _) (fun e he => ?_) (by rw [hfl]; rfl) (fun i c v hc hv' => ?_) fun _ => ⟨_, 0, rfl, cell_lt (hcell 0 (by omega)), fun i v hi => ?_⟩
 ·obtain ⟨k, -, rfl⟩ := List.mem_map.1 he; rfl
 ·rw [hfl, List.getElem?_map] at hc
  rw [List.getElem?_map] at hv'
  cases hk : tabD[i]? with
  | none => rw [hk] at hc; cases hc
  | some k =>
   rw [hk] at hc hv'
   cases hc; cases hv'
   exact .lit _
 ·rw [List.getElem?_map] at hi
  cases hk : tabD[i]? with
  | none => rw [hk] at hi; cases hi
  | some k =>
   rw [hk] at hi
   cases hi
   have hlt : i < 64 := (List.getElem?_eq_some_iff.1 hk).1
   rw [Nat.zero_add, hcell i hlt, List.getD_eq_getElem?_getD, hk]; rfl
end Go.Proofs.YtnmgpbihknjdjaaDoor

/- Open values of common shapes. -/
namespace Go.Proofs.YtnmgpbihknjdjaaDoor
open Go.ChangeShapes Go.WideShapes Go.ChangeAt Go.RowKit
theorem maxLen_le : maxLen ≤ 9223372036854775807 := by decide
theorem fits_int {k : IntKind} {m : MV} (h : Fits (.int k) m) : ∃ n, m = .lit (.int k n) ∧ (Lit.int k n).wf = true := by
 simp only [Fits] at h; exact h
theorem fits_agg {ss : List Sh} {m : MV} (h : Fits (.agg ss) m) : ∃ ms, FitsL ss ms ∧ m = .agg (ms.flatMap MV.cells) := by
 simp only [Fits] at h; exact h
theorem fitsL_cons {s : Sh} {ss : List Sh} {ms : List MV} (h : FitsL (s :: ss) ms) : ∃ m r, ms = m :: r ∧ Fits s m ∧ FitsL ss r := by
 simp only [FitsL] at h; exact h
theorem fitsL_nil {ms : List MV} (h : FitsL [] ms) : ms = [] := by
 simp only [FitsL] at h; exact h
end Go.Proofs.YtnmgpbihknjdjaaDoor

/- Nets: what the document says of them, without a program. -/
namespace Go.Proofs.YtnmgpbihknjdjaaDoor
open Go.RowKit
set_option linter.unusedVariables false
structure Cr where
 ln : Int
 ti : Int
 pa : Int
 pt : Int
 df : Int
 wt : Int
instance : Inhabited Cr := ⟨⟨0, 0, 0, 0, 0, 0⟩⟩
abbrev Ln := ByteArray × Bool
structure Nt where
 ls : List Ln
 cs : List Cr
end Go.Proofs.YtnmgpbihknjdjaaDoor

/- Open values of nets. -/
namespace Go.Proofs.YtnmgpbihknjdjaaDoor
open Go.ChangeShapes Go.WideShapes Go.ChangeAt Go.RowKit
abbrev i64Sh : Sh := .int .i64
theorem fits_list {α : Type} {s : Sh} (enc : α → MV) (H : ∀ m, Fits s m → ∃ a, m = enc a) {m : MV} (h : Fits (.slice s) m) : ∃ xs : List α, m = .sl (xs.map enc) ∧ xs.length ≤ 9223372036854775807 := by
 rw [Fits] at h
 obtain ⟨es, rfl, hl, he⟩ := h
 replace hl := Nat.le_trans hl maxLen_le
 induction es with
 | nil => exact ⟨[], rfl, by simp⟩
 | cons e es ih =>
  obtain ⟨a, rfl⟩ := H e (he e List.mem_cons_self)
  obtain ⟨xs, h1, h2⟩ := ih (fun e h => he e (List.mem_cons_of_mem _ h)) (by simp at hl; omega)
  have e1 : es = xs.map enc := by simpa using h1
  subst e1
  exact ⟨a :: xs, rfl, by simpa using hl⟩
end Go.Proofs.YtnmgpbihknjdjaaDoor

/- TopTargetMirror: from values of the small language to the program's. -/
namespace Go.Proofs.YtnmgpbihknjdjaaDoor
open Go.ChangeShapes Go.WideShapes Go.ChangeAt Go.RowKit
theorem fits_i64r {m : MV} (h : Fits i64Sh m) : ∃ n : Int, m = I64 n := by
 obtain ⟨n, rfl, hw⟩ := fits_int h
 exact ⟨n, rfl⟩
def rgSh : Sh := .agg [i64Sh, i64Sh]
theorem fits_rgp {m : MV} (h : Fits rgSh m) : ∃ p : Int × Int, m = encP p := by
 obtain ⟨ms, h', rfl⟩ := fits_agg h
 obtain ⟨m1, r1, rfl, h1, h⟩ := fitsL_cons h'
 obtain ⟨m2, r2, rfl, h2, h⟩ := fitsL_cons h
 obtain rfl := fitsL_nil h
 obtain ⟨a, rfl⟩ := fits_i64r h1
 obtain ⟨b, rfl⟩ := fits_i64r h2
 exact ⟨(a, b), rfl⟩
theorem fits_shadow {m : MV} (h : Fits (.agg [.slice rgSh, .slice rgSh]) m) : ∃ R C : List (Int × Int), m = encS R C := by
 obtain ⟨ms, h', rfl⟩ := fits_agg h
 obtain ⟨m1, r1, rfl, h1, h⟩ := fitsL_cons h'
 obtain ⟨m2, r2, rfl, h2, h⟩ := fitsL_cons h
 obtain rfl := fitsL_nil h
 obtain ⟨R, rfl, -⟩ := fits_list encP (fun m h => fits_rgp h) h1
 obtain ⟨C, rfl, -⟩ := fits_list encP (fun m h => fits_rgp h) h2
 exact ⟨R, C, rfl⟩
def mirrorShs : List Sh := [.agg [.slice rgSh, .slice rgSh]]
theorem mirror_runs (ms : List MV) (h : FitsL mirrorShs ms) : runZ MT (orA 14) (itA 14) 4000000 3 ms [] = some (.lit (.bool true), []) := by
 obtain ⟨m1, r1, rfl, h1, h⟩ := fitsL_cons h
 obtain rfl := fitsL_nil h
 obtain ⟨R, C, rfl⟩ := fits_shadow h1
 exact TopTargetMirror_z R C
set_option maxRecDepth 100000 in
theorem mirror_lifted (os : Os) (started : os.Started) (H : Type) (enc : TypeId × Value → H) :
  ReturnsInHanded {} Tryd.checked os 3 .any (fun w args => (Rows.topTargetMirrorSpec.pre enc Tryd.prog Tryd.f3 [] false w args ∧ laidMetH Tryd.prog Rows.topTargetMirrorRow.laid w) ∧ sizedMet enc Tryd.prog Tryd.f3 (OpenSpec.ofChange Rows.topTargetMirrorSpec) false w args)
   (Rows.topTargetMirrorSpec.post enc Tryd.prog Tryd.f3 false true false false) := by
 refine returnsInHanded_of_change_and (C := Tryd.checked) (X := fun w _ => laidMetH Tryd.prog Rows.topTargetMirrorRow.laid w) (fun _ _ _ hh h => h.of_heap hh) Tryd.own started (by kernel_rfl) Tryd.func3
  (ChangeSpec.witness_shaped (enc := enc) (C := Tryd.checked) (os := os) (X := fun w _ => laidMetH Tryd.prog Rows.topTargetMirrorRow.laid w) false (World.doorLaid Tryd.prog 200 os) #[.agg #[.slice none 0 0, .slice none 0 0]] 8 rfl (World.shaped_of_RefB (by kernel_rfl) (by kernel_rfl)) (by kernel_rfl) (by kernel_rfl) (by kernel_rfl)
   (laidMetH_of_parts3 (fuel := 8) (laidMet_of_run' 8 (by kernel_rfl) (by kernel_rfl)) (by kernel_rfl) (by kernel_rfl))) ?_
 intro W base args ds gs before hval hW _ _ hL _
 exact law_contractT (orZ_ok (by kernel_rfl) (tabOf_ok Tryd.prog) tA_ok (tI_ok) 14) mirrorShs (by kernel_rfl) (by kernel_rfl) rfl rfl (fun ds h => by match ds, h with | [_], _ => exact ⟨rfl, rfl, rfl⟩) mirror_runs W base args ds gs before hval hW
  (tabs_laid hL (List.mem_cons_of_mem _ (List.mem_cons_self ..)))
end Go.Proofs.YtnmgpbihknjdjaaDoor

/- Facts of the whole program that each row asks for. -/
namespace Go.Proofs.YtnmgpbihknjdjaaDoor
open Go
theorem jfA : laidOutB Tryd.pinned.checked.prog = true := by kernel_rfl
theorem jfB : mapsRowed Tryd.pinned.checked.prog = true := by kernel_rfl
theorem jfC : (Tryd.pinned.checked.prog.stops == []) = true := by kernel_rfl
theorem jfD : (Tryd.pinned.checked.prog.stopKnobs == []) = true := by kernel_rfl
theorem jfE : Tryd.pinned.checked.prog.stopsHeard = true := by kernel_rfl
theorem jfF : Tryd.pinned.checked.prog.mayEnter = true := by kernel_rfl
theorem jfG : (false == Tryd.pinned.checked.prog.plainKeys) = true := by kernel_rfl
theorem and_t {a b : Bool} (h : a = true) (g : b = true) : (a && b) = true := by rw [h, g]; rfl
end Go.Proofs.YtnmgpbihknjdjaaDoor

/- The row of TopTargetMirror. -/
namespace Go.Proofs.YtnmgpbihknjdjaaDoor
open Go Go.ChangeShapes Go.WideShapes Go.ChangeAt Go.RowKit
set_option linter.unusedVariables false
theorem jfmirror_0 : Rows.topTargetMirrorRow.wf (OpenSpec.ofChange Rows.topTargetMirrorSpec) = true := by kernel_rfl
theorem jfmirror_3 : Tryd.f3.params.all (Tryd.pinned.checked.prog.readableRec ·) = true := by kernel_rfl
theorem jfmirror_4 : namedTie Tryd.pinned.checked.prog Rows.topTargetMirrorRow.named Rows.topTargetMirrorSpec.vars = true := by kernel_rfl
theorem jfmirror_5 : (Rows.topTargetMirrorRow.stops == []) = true := by kernel_rfl
theorem jfmirror_7 : (Rows.topTargetMirrorRow.knobs == []) = true := by kernel_rfl
theorem jfmirror_9 : (Rows.topTargetMirrorRow.inPlace == Tryd.pinned.checked.prog.inPlace 3) = true := by kernel_rfl
theorem jfmirror_10 : (Rows.topTargetMirrorRow.unfollowed == Tryd.pinned.checked.prog.unfollowed 3) = true := by kernel_rfl
theorem jfmirror_11 : (Rows.topTargetMirrorRow.recurses == Tryd.pinned.checked.prog.recurses 3) = true := by kernel_rfl
theorem jfmirror_12 : (Rows.topTargetMirrorRow.named == Tryd.pinned.checked.prog.varsNamed 3) = true := by kernel_rfl
theorem jfmirror_13 : (Rows.topTargetMirrorRow.maps == (Tryd.f3.params.toList ++ Rows.topTargetMirrorSpec.plain.varTypes Tryd.pinned.checked.prog).any (Tryd.pinned.checked.prog.mapsRec ·)) = true := by kernel_rfl
theorem jfmirror_14 : (Rows.topTargetMirrorRow.ifaces == (Tryd.f3.params.toList ++ Rows.topTargetMirrorSpec.plain.varTypes Tryd.pinned.checked.prog).any (Tryd.pinned.checked.prog.ifacesRec ·)) = true := by kernel_rfl
theorem jfmirror_15 : (Rows.topTargetMirrorRow.mapsOut == Tryd.pinned.checked.prog.mapsAmong Tryd.f3.resultTypes.toList) = true := by kernel_rfl
theorem jfmirror_16 : (Rows.topTargetMirrorRow.loops == (Tryd.f3.params.toList ++ Rows.topTargetMirrorSpec.plain.varTypes Tryd.pinned.checked.prog).any (Tryd.pinned.checked.prog.loopsFrom ·)) = true := by kernel_rfl
theorem jfmirror_17 : (Rows.topTargetMirrorRow.wideKeys == (Tryd.f3.params.toList ++ Rows.topTargetMirrorSpec.plain.varTypes Tryd.pinned.checked.prog ++ Tryd.f3.resultTypes.toList).any (Tryd.pinned.checked.prog.wideKeysFrom ·)) = true := by kernel_rfl
theorem jfmirror_18 : Rows.topTargetMirrorSpec.vars.all (Tryd.pinned.checked.prog.varReadable ·) = true := by kernel_rfl
theorem jfmirror_19 : Tryd.f3.resultTypes.all (fun t => Tryd.pinned.checked.prog.readableRec t && decide (t < Tryd.pinned.checked.prog.types.size)) = true := by kernel_rfl
theorem jfmirror_20 : (Rows.topTargetMirrorRow.ifacesOut == Tryd.f3.resultTypes.toList.any (Tryd.pinned.checked.prog.ifacesRec ·)) = true := by kernel_rfl
theorem jfmirror_21 : (Rows.topTargetMirrorRow.loopsOut == Tryd.f3.resultTypes.toList.any (Tryd.pinned.checked.prog.loopsFrom ·)) = true := by kernel_rfl
theorem jfmirror_23 : Rows.topTargetMirrorRow.shortTexts.isNone = true := by kernel_rfl
theorem jfmirror_26 : (Rows.topTargetMirrorRow.lifted == Tryd.pinned.checked.prog.liftsFinal) = true := by kernel_rfl
theorem jfmirror_27 : (Tryd.pinned.checked.prog.make == some Rows.topTargetMirrorRow.make) = true := by kernel_rfl
theorem jfmirror_29 : (Rows.topTargetMirrorRow.pinned == Rows.topTargetMirrorRow.pinnedBy) = true := by kernel_rfl
theorem jfmirror_30 : (Rows.topTargetMirrorRow.veiled == (Tryd.f3.params.toList ++ Rows.topTargetMirrorSpec.plain.varTypes Tryd.pinned.checked.prog ++ Tryd.f3.resultTypes.toList).any (Tryd.pinned.checked.prog.veiledRec ·)) = true := by kernel_rfl
theorem jfmirror_31 : Rows.topTargetMirrorRow.veiledFits Tryd.pinned.checked.prog Tryd.f3.params.toList (Tryd.f3.params.toList ++ Rows.topTargetMirrorSpec.plain.varTypes Tryd.pinned.checked.prog ++ Tryd.f3.resultTypes.toList) = true := by kernel_rfl
theorem jfmirror : joinedFacts Tryd.pinned.checked.prog 3 Tryd.f3 Rows.topTargetMirrorSpec Rows.topTargetMirrorRow = true := by
 unfold joinedFacts
 refine and_t (and_t (and_t (and_t (and_t (and_t (and_t (and_t (and_t (and_t (and_t (and_t (and_t (and_t (and_t (and_t (and_t (and_t (and_t (and_t (and_t (and_t (and_t (and_t (and_t (and_t (and_t (and_t (and_t (and_t (and_t jfmirror_0 jfA) jfB) jfmirror_3) jfmirror_4) jfmirror_5) jfC) jfmirror_7) jfD) jfmirror_9) jfmirror_10) jfmirror_11) jfmirror_12) jfmirror_13) jfmirror_14) jfmirror_15) jfmirror_16) jfmirror_17) jfmirror_18) jfmirror_19) jfmirror_20) jfmirror_21) jfG) jfmirror_23) jfE) jfF) jfmirror_26) jfmirror_27) (by kernel_rfl)) jfmirror_29) jfmirror_30) jfmirror_31
theorem topTargetMirror_row : Rows.topTargetMirrorRow.holds Tryd.pinned (OpenSpec.ofChange Rows.topTargetMirrorSpec) :=
 OpenClaim.holds_of_wide 3 Tryd.f3 rfl rfl rfl rfl rfl rfl rfl ⟨rfl, rfl, rfl, rfl, rfl⟩ rfl rfl rfl rfl rfl (by kernel_rfl) Tryd.func3 jfmirror
  (of_decide_eq_true (by kernel_rfl)) (by unfold Func.isWrapper; rw [if_neg (of_decide_eq_false (by kernel_rfl))]; exact ⟨rfl, rfl⟩)
  (fun os started H enc _ => mirror_lifted os started H enc)
end Go.Proofs.YtnmgpbihknjdjaaDoor
